import Derived.Test.YtjgndkmodnppfaaGreatP6
import Derived.Ground.SlsfProg
set_option linter.unusedSimpArgs false
set_option linter.unusedVariables false
set_option linter.unusedSectionVars false
namespace Go.Proofs
open Go.Shelf Go.RowKit Go.Lib Go.Sort
def Tryz.sortMk_ren : Go.Shelf.Ren := ⟨fun | 6 => 130 | 15 => 175 | 14 => 174 | 28 => 200 | 29 => 201 | 20 => 192 | 21 => 193 | 22 => 194 | 23 => 195 | 24 => 196 | 25 => 197 | 26 => 198 | 27 => 199 | 46 => 207 | 47 => 208 | 48 => 209 | 49 => 210 | 50 => 211 | 57 => 213 | n => n, fun | 22 => 175 | 24 => 182 | 25 => 186 | 3 => 3 | 39 => 167 | 0 => 0 | 53 => 207 | 55 => 26 | 4 => 4 | 46 => 230 | 45 => 229 | 50 => 154 | 5 => 5 | 9 => 9 | 66 => 239 | 70 => 243 | 76 => 246 | 77 => 247 | n => n, fun | n => n⟩
theorem Tryz.sortMk : Go.Proofs.SlLaysF0.n6 Tryz.prog Tryz.sortMk_ren := {
 mixed := by kernel_rfl
 f6 := ⟨Tryz.f130.name, by decide, Tryz.func130.trans (congrArg some (by kernel_rfl))⟩
 f14 := ⟨Tryz.f174.name, by decide, Tryz.func174.trans (congrArg some (by kernel_rfl))⟩
 f15 := Tryz.func175.trans (congrArg some (by kernel_rfl))
 f20 := ⟨Tryz.f192.name, by decide, Tryz.func192.trans (congrArg some (by kernel_rfl))⟩
 f21 := ⟨Tryz.f193.name, by decide, Tryz.func193.trans (congrArg some (by kernel_rfl))⟩
 f22 := ⟨Tryz.f194.name, by decide, Tryz.func194.trans (congrArg some (by kernel_rfl))⟩
 f23 := ⟨Tryz.f195.name, by decide, Tryz.func195.trans (congrArg some (by kernel_rfl))⟩
 f24 := ⟨Tryz.f196.name, by decide, Tryz.func196.trans (congrArg some (by kernel_rfl))⟩
 f25 := ⟨Tryz.f197.name, by decide, Tryz.func197.trans (congrArg some (by kernel_rfl))⟩
 f26 := ⟨Tryz.f198.name, by decide, Tryz.func198.trans (congrArg some (by kernel_rfl))⟩
 f27 := ⟨Tryz.f199.name, by decide, Tryz.func199.trans (congrArg some (by kernel_rfl))⟩
 f28 := Tryz.func200.trans (congrArg some (by kernel_rfl))
 f29 := Tryz.func201.trans (congrArg some (by kernel_rfl))
 f46 := ⟨Tryz.f207.name, by decide, Tryz.func207.trans (congrArg some (by kernel_rfl))⟩
 f47 := Tryz.func208.trans (congrArg some (by kernel_rfl))
 f48 := Tryz.func209.trans (congrArg some (by kernel_rfl))
 f49 := ⟨Tryz.f210.name, by decide, Tryz.func210.trans (congrArg some (by kernel_rfl))⟩
 f50 := ⟨Tryz.f211.name, by decide, Tryz.func211.trans (congrArg some (by kernel_rfl))⟩
 f57 := ⟨Tryz.f213.name, by decide, Tryz.func213.trans (congrArg some (by kernel_rfl))⟩
 t0 := Tryz.underlying0
 a0 := Tryz.isAgg0
 z0 := Tryz.sizeOf0
 v0 := Tryz.zeroValue0
 t3 := Tryz.underlying3
 a3 := Tryz.isAgg3
 z3 := Tryz.sizeOf3
 v3 := Tryz.zeroValue3
 t4 := Tryz.underlying4
 a4 := Tryz.isAgg4
 z4 := Tryz.sizeOf4
 v4 := Tryz.zeroValue4
 t5 := Tryz.underlying5
 a5 := Tryz.isAgg5
 z5 := Tryz.sizeOf5
 v5 := Tryz.zeroValue5
 t9 := Tryz.underlying9
 a9 := Tryz.isAgg9
 z9 := Tryz.sizeOf9
 v9 := Tryz.zeroValue9
 t22 := Tryz.underlying175
 a22 := Tryz.isAgg175
 z22 := Tryz.sizeOf175
 v22 := Tryz.zeroValue175
 t25 := Tryz.underlying186
 a25 := Tryz.isAgg186
 z25 := Tryz.sizeOf186
 v25 := Tryz.zeroValue186
 t39 := Tryz.underlying167
 a39 := Tryz.isAgg167
 z39 := Tryz.sizeOf167
 v39 := Tryz.zeroValue167
 t45 := Tryz.underlying229
 a45 := Tryz.isAgg229
 z45 := Tryz.sizeOf229
 v45 := Tryz.zeroValue229
 t46 := Tryz.underlying230
 a46 := Tryz.isAgg230
 z46 := Tryz.sizeOf230
 v46 := Tryz.zeroValue230
 t50 := Tryz.underlying154
 a50 := Tryz.isAgg154
 z50 := Tryz.sizeOf154
 v50 := Tryz.zeroValue154
 t53 := Tryz.underlying207
 a53 := Tryz.isAgg207
 z53 := Tryz.sizeOf207
 v53 := Tryz.zeroValue207
 t55 := Tryz.underlying26
 a55 := Tryz.isAgg26
 z55 := Tryz.sizeOf26
 v55 := Tryz.zeroValue26
 t66 := Tryz.underlying239
 a66 := Tryz.isAgg239
 z66 := Tryz.sizeOf239
 v66 := Tryz.zeroValue239
 t70 := Tryz.underlying243
 a70 := Tryz.isAgg243
 z70 := Tryz.sizeOf243
 v70 := Tryz.zeroValue243
 t76 := Tryz.underlying246
 a76 := Tryz.isAgg246
 z76 := Tryz.sizeOf246
 v76 := Tryz.zeroValue246
 t77 := Tryz.underlying247
 a77 := Tryz.isAgg247
 z77 := Tryz.sizeOf247
 v77 := Tryz.zeroValue247 }
end Go.Proofs
namespace Dm
open Go Go.Proofs Go.IntWalk
abbrev ltM (a b : Int × Nat) : Prop := b.1 < a.1 ∨ (a.1 = b.1 ∧ a.2 < b.2)
instance : DecidableRel ltM := fun a b => by unfold ltM; infer_instance
theorem totM : Srt.Tot ltM := ⟨fun a => by unfold ltM; omega, fun h h' => by unfold ltM at *; omega, fun a b => by
  unfold ltM
  have : a = b ↔ a.1 = b.1 ∧ a.2 = b.2 := Prod.ext_iff
  rw [this]; omega⟩
def Mk.key (m : Mk) : Int × Nat := (fkey m.s, m.id)
theorem mkO_neg {a b : Mk} : mkO a b < 0 ↔ ltM a.key b.key := by
  unfold mkO orS ltM Mk.key cmpS
  by_cases h1 : fkey b.s < fkey a.s
  · simp [h1]
  · by_cases h2 : fkey a.s < fkey b.s
    · simp [h1, h2]; omega
    · by_cases h3 : (a.id : Int) < b.id
      · simp [h1, h2, h3]; omega
      · by_cases h4 : (b.id : Int) < a.id
        · simp [h1, h2, h3, h4]; omega
        · simp [h1, h2, h3, h4]; omega
def ordM (l : List Mk) : List Mk := l.foldl (Srt.put Mk.key ltM) []
def elig (n : Nat) (c : Ch) : Bool := c.op && decide (max n 1 ≤ (roomC c).1)
def mkOf (w : List Wt) (n : Nat) (c : Ch) : Mk := ⟨c.id, (oneS c (weighS w c.id) (fofi n)).1⟩
def mksOf (l : List Ch) (w : List Wt) (n : Nat) : List Mk := (l.filter (elig n)).map (mkOf w n)
def ordL (l : List Ch) (w : List Wt) (n : Nat) : List Nat × Int := if okLd l then ((ordM (mksOf l w n)).map Mk.id, 0) else ([], 1)
theorem mksOf_succ {l : List Ch} {w : List Wt} {n i : Nat} (h : i < l.length) : mksOf (l.take (i + 1)) w n = mksOf (l.take i) w n ++ (if elig n (l.getD i default) = true then [mkOf w n (l.getD i default)] else []) := by
  rw [take_succ h, mksOf, List.filter_append, List.map_append]
  congr 1
  generalize l.getD i default = x
  by_cases h : elig n x = true <;> simp [h]
theorem mksOf_len {l : List Ch} {w : List Wt} {n : Nat} : (mksOf l w n).length ≤ l.length := by
  rw [mksOf, List.length_map]; exact List.length_filter_le _ _
theorem flo_canon {n : Nat} (h : fnan (flo .f64 n) = true) : flo .f64 n = none := by
  rw [fnan_key, decide_eq_true_iff, flo_key, dkey_nan (read_dbl n)] at h
  exact flo_nan h
theorem far_canon {op : BinOp} {a b : Option Nat} (h : fnan (far op a b) = true) : far op a b = none := by
  unfold far at *
  cases a with
  | none => rfl
  | some x => cases b with
    | none => rfl
    | some y =>
      simp only at *
      have key : ∀ o : Option Nat, fnan (o.bind (flo .f64)) = true → o.bind (flo .f64) = none := fun o ho => by
        cases o with
        | none => rfl
        | some z => exact flo_canon ho
      split at h <;> exact key _ h
theorem ordM_put {l : List Mk} : ∀ {m : List Mk}, Srt.Up Mk.key ltM m → Srt.Up Mk.key ltM (l.foldl (Srt.put Mk.key ltM) m) := by
  induction l with
  | nil => exact fun h => h
  | cons x l ih => exact fun h => ih (Srt.put_up totM h)
theorem ordM_up {l : List Mk} : Srt.Up Mk.key ltM (ordM l) := ordM_put .nil
theorem ordM_mem {l : List Mk} (hd : (l.map Mk.id).Nodup) {x : Mk} : x ∈ ordM l ↔ x ∈ l := by
  have key : ∀ (l m : List Mk), Srt.Up Mk.key ltM m → ((m ++ l).map Mk.id).Nodup → ∀ x, x ∈ l.foldl (Srt.put Mk.key ltM) m ↔ x ∈ m ∨ x ∈ l := by
    intro l
    induction l with
    | nil => intro m _ _ x; simp
    | cons y l ih =>
      intro m hu hn x
      rw [List.foldl_cons, ih _ (Srt.put_up totM hu) ?_]
      · rw [Srt.mem_put totM hu]
        simp only [List.mem_cons]
        constructor
        · rintro ((h | h) | h)
          · exact .inr (.inl h)
          · exact .inl h.1
          · exact .inr (.inr h)
        · rintro (h | h | h)
          · refine .inl (.inr ⟨h, fun he => ?_⟩)
            have : x.id = y.id := congrArg Prod.snd he
            rw [List.map_append, List.nodup_append] at hn
            exact hn.2.2 _ (List.mem_map.2 ⟨x, h, rfl⟩) _ (by simp) this
          · exact .inl (.inl h)
          · exact .inr h
      · have hp : (Srt.put Mk.key ltM m y).Perm (m ++ [y]) := by
          have ht : ¬ Srt.thr Mk.key ltM m y.key = true := fun h => by
            obtain ⟨z, hz, he⟩ := (Srt.thr_iff totM hu).1 h
            have : z.id = y.id := congrArg Prod.snd he
            rw [List.map_append, List.nodup_append] at hn
            exact hn.2.2 _ (List.mem_map.2 ⟨z, hz, rfl⟩) _ (by simp) this
          rw [Srt.put, if_neg ht]
          exact Srt.ins_perm.trans (List.perm_append_comm (l₁ := [y]))
        have := (hp.append_right l).map Mk.id
        rw [List.append_assoc] at this
        exact this.nodup_iff.2 hn
  have := key l [] .nil (by simpa using hd) x
  simpa [ordM] using this
theorem ordM_eq {l m : List Mk} (hd : (l.map Mk.id).Nodup) (hu : Srt.Up Mk.key ltM m) (hm : ∀ x, x ∈ m ↔ x ∈ l) : m = ordM l :=
  Srt.ext totM hu ordM_up fun x => by rw [hm, ordM_mem hd]
theorem mksOf_ids {l : List Ch} {w : List Wt} {n : Nat} (h : okLd l) : ((mksOf l w n).map Mk.id).Nodup := by
  have h1 := (Srt.chn_up (lt := ltN) Srt.totNat).1 h.2.2.1
  unfold Srt.Up at h1
  rw [mksOf, List.map_map, List.Nodup, List.pairwise_map]
  exact (h1.sublist List.filter_sublist).imp fun hlt he => by
    change _ < _ at hlt
    change Ch.id _ = Ch.id _ at he
    omega
theorem sorted_ord {l : List Mk} {els : List (List C)} (hd : (l.map Mk.id).Nodup) (hp : els.Perm (mks l)) (hs : els.Pairwise fun x y => ¬ mkO (Mk.dec y) (Mk.dec x) < 0) : els = mks (ordM l) := by
  have h1 : mks (els.map Mk.dec) = els := by
    simp only [mks, List.map_map]
    refine (List.map_congr_left fun x hx => ?_).trans (List.map_id _)
    obtain ⟨a, _, rfl⟩ := List.mem_map.1 (hp.mem_iff.1 hx)
    show (Mk.dec a.enc).enc = a.enc
    rw [Mk.dec_enc]
  have h2 : (els.map Mk.dec).Perm l := by
    have := hp.map Mk.dec
    rwa [show (mks l).map Mk.dec = l from dmks_mks l] at this
  have h3 : els.map Mk.dec = ordM l := by
    refine ordM_eq hd ?_ fun x => h2.mem_iff
    have hd2 : ((els.map Mk.dec).map Mk.id).Nodup := ((h2.map Mk.id).nodup_iff).2 hd
    unfold Srt.Up
    rw [List.Nodup, List.pairwise_map] at hd2
    have hs2 : (els.map Mk.dec).Pairwise fun x y => ¬ mkO y x < 0 := by rw [List.pairwise_map]; exact hs
    refine hd2.imp₂ ?_ hs2
    intro a b hne hno
    rw [mkO_neg] at hno
    unfold ltM Mk.key at *
    simp only at *
    omega
  rw [← h3, h1]
@[go_sem] def order_r (l : List Ch) (w : List Wt) (n : Nat) : D := .tup [.sl (u64s (ordL l w n).1), .int .i64 (ordL l w n).2]
@[go_sem] abbrev n_order : FuncId := 72
@[go_sem] def order_T : Tab := [(43, sp_lcheck), (125, sp_croom), (126, sp_one), (127, sp_weigh), (128, sp_misnan), (129, sp_mnan)]
theorem order_T_ok : TabOk Tryz.prog order_T := (TabOk.cons sp_lcheck_ok (TabOk.cons sp_croom_ok (TabOk.cons sp_one_ok (TabOk.cons sp_weigh_ok (TabOk.cons sp_misnan_ok (TabOk.cons sp_mnan_ok TabOk.nil))))))
set_option maxRecDepth 8000 in
set_option maxHeartbeats 1000000 in
theorem order_ok (l : List Ch) (w : List Wt) (n : Nat)  : PureFn Tryz.prog 72 [.sl (chs l), .sl (wts w), .c (.int .u64 (n : Int))] (order_r l w n) := by
  refine .of (ac72 order_T_ok (Nat.le_of_ble_eq_true rfl) ?_)
  simp -implicitDefEqProofs only [cdA, go_sem, Go.Proofs.Tryz.f72, reduceIte, reduceCtorEq, Nat.reduceEqDiff, Nat.reduceAdd, Nat.reduceLeDiff, Nat.reduceSub, Nat.reduceMul, Nat.reduceLT, Nat.reduceShiftRight, Nat.reduceMod, Int.reduceLE, Int.reduceLT, Int.reduceToNat, List.cons.injEq, cdB]
  have hcz : chkL l = 0 ↔ okLd l := by unfold chkL; split <;> simp_all
  rw [hcz]
  refine ⟨fun hok hl => ?_, fun hno => by rw [ordL, chkL, if_neg hno, if_neg hno]; exact ⟨rfl, rfl⟩⟩
  have hl32 := hok.1
  refine SWp.nilvec 9 2 182 rfl (Nat.zero_le _) ?_
  refine SWp.loop (ι := { i : Nat // i ≤ l.length }) (fun i => ⟨[(1, .sl (wts w)), (2, .int .u64 n), (9, .vec 0 (mksOf (l.take i.1) w n).length), (23, .sl (chs l)), (24, .int .i64 l.length), (25, .int .i64 i.1)], [(0, .vec true 2 182 (mks (mksOf (l.take i.1) w n)))], 1⟩) (fun i => l.length - i.1) ⟨0, by omega⟩ ?_ ?_
  · simp [go_sem, mksOf, mks]
  · rintro ⟨i, hi⟩
    refine awp_sound order_T_ok.toS lv72 _ _ _ rfl ?_
    simp -implicitDefEqProofs only [cdA, go_sem, reduceIte, reduceCtorEq, Nat.reduceEqDiff, Nat.reduceAdd, Nat.reduceLeDiff, Nat.reduceSub, Nat.reduceMul, Nat.reduceLT, Nat.reduceShiftRight, Nat.reduceMod, Int.reduceLE, Int.reduceLT, Int.reduceToNat, List.cons.injEq, cdB]
    refine ⟨fun h => ⟨by omega, ?_⟩, fun h => ?_⟩
    · have hi' : i < l.length := by omega
      have hc0 : okCh (l.getD i default) := hok.2.1 _ (mem_getD.2 ⟨i, hi', rfl⟩)
      have hst := mksOf_succ (w := w) (n := n) hi'
      have hr0 := roomC_0.2 hc0
      have hone : (oneS (l.getD i default) (weighS w (l.getD i default).id) (fofi n)).2 = 0 := by rw [oneS, if_pos hc0]
      have hlen := mksOf_len (l := l.take i) (w := w) (n := n)
      rw [List.length_take] at hlen
      generalize hc : l.getD i default = c at *
      have hskip : elig n c ≠ true → mksOf (l.take (i + 1)) w n = mksOf (l.take i) w n := fun he => by rw [hst, if_neg he, List.append_nil]
      refine ⟨fun _ => ⟨fun hop => ⟨fun hr => ?_, fun hr => ?_⟩, fun hop => ?_⟩, fun hr => absurd hr0 hr⟩
      · exact ⟨⟨i + 1, hi'⟩, by dsimp only; omega, by dsimp only; rw [hskip (by rw [elig]; simp; intro _; omega)]; exact ⟨⟨rfl, i64_in _ (by omega)⟩, rfl⟩⟩
      · refine ADraw.run us72_10 order_T_ok follows_mixed (by kernel_rfl) (by kernel_rfl) ?_
        simp -implicitDefEqProofs only [cdA, go_sem, reduceIte, reduceCtorEq, Nat.reduceEqDiff, Nat.reduceAdd, Nat.reduceLeDiff, Nat.reduceSub, Nat.reduceMul, Nat.reduceLT, Nat.reduceShiftRight, Nat.reduceMod, Int.reduceLE, Int.reduceLT, Int.reduceToNat, List.cons.injEq, cdB]
        have hwm : ∀ a b, wts [⟨a, b⟩] = mks [⟨a, b⟩] := fun _ _ => rfl
        have hel : elig n c = true := by
          simp at hop
          rw [elig, hop]; simp; omega
        rw [if_pos hel] at hst
        have hfin : mks (mksOf (l.take i) w n) ++ wts [⟨c.id, (oneS c (weighS w c.id) (fofi n)).1⟩] = mks (mksOf (l.take (i + 1)) w n) := by rw [hwm, mks_app, hst]; rfl
        have hnext : ∀ s, s = (oneS c (weighS w c.id) (fofi n)).1 → ((mksOf (l.take i) w n).length + 1) * 16 ≤ 140737488355328 ∧ ∃ i_1 : { i : Nat // i ≤ l.length }, l.length - i_1.val < l.length - i ∧ (D.vec 0 ((mksOf (l.take i) w n).length + 1) = D.vec 0 (mksOf (l.take i_1.val) w n).length ∧ IntKind.i64.wrap ((i : Int) + 1) = i_1.val) ∧ Ob.vec true 2 182 (mks (mksOf (l.take i) w n) ++ wts [⟨c.id, s⟩]) = Ob.vec true 2 182 (mks (mksOf (l.take i_1.val) w n)) := fun s hs => by
          refine ⟨by omega, ⟨i + 1, hi'⟩, by dsimp only; omega, ⟨by dsimp only; rw [hst]; simp, i64_in _ (by omega)⟩, ?_⟩
          rw [hs, hfin]
        refine ⟨fun _ => ⟨fun hnan => hnext _ ?_, fun _ => hnext _ rfl⟩, fun h => absurd hone h⟩
        have e1 : (oneS c (weighS w c.id) (fofi n)).1 = far .mul (weighS w c.id) (far .quo (far .sub (fofi (roomC c).1) (fofi n)) (fofi (sumsC c).2.1)) := by rw [oneS, if_pos hc0]
        rw [e1] at hnan ⊢
        exact (far_canon hnan).symm
      · exact ⟨⟨i + 1, hi'⟩, by dsimp only; omega, by dsimp only; rw [hskip (by rw [elig]; simp at hop; simp [hop])]; exact ⟨⟨rfl, i64_in _ (by omega)⟩, rfl⟩⟩
    · have hi' : i = l.length := by omega
      subst hi'
      rw [List.take_length]
      have hlen := mksOf_len (l := l) (w := w) (n := n)
      have hdec : ∀ a : Mk, Mk.dec a.enc = a := Mk.dec_enc
      have hin : ∀ x ∈ mks (mksOf l w n), ∃ a : Mk, x = a.enc := fun x hx => by
        obtain ⟨a, _, rfl⟩ := List.mem_map.1 hx
        exact ⟨a, rfl⟩
      refine ACall.sort Tryz.sortMk (k := 2) (by decide) Tryz.isAgg182 Tryz.sizeOf182 rfl (cf := fun x y => mkO (Mk.dec x) (Mk.dec y)) rfl (by simp) (by omega) ?_ ?_ ?_ ?_ ?_
      · intro x hx y hy
        obtain ⟨a, rfl⟩ := hin x hx
        obtain ⟨b, rfl⟩ := hin y hy
        rw [hdec, hdec]
        exact mkcmp_ok a b
      · intro x hx
        rw [mkO_neg]; exact totM.irr _
      · intro x _ y _ z _
        rw [mkO_neg, mkO_neg, mkO_neg]; exact totM.tr
      · intro x _ y _ z _
        rw [mkO_neg, mkO_neg, mkO_neg]
        unfold ltM; omega
      · intro els' hp hs
        have he := sorted_ord (mksOf_ids hok) hp hs
        subst he
        have hol : (ordM (mksOf l w n)).length = (mksOf l w n).length := by
          have := hp.length_eq
          rwa [mks_length, mks_length] at this
        clear hp hs
        generalize hM : ordM (mksOf l w n) = M at *
        rw [← hol]
        have hml : M.length ≤ 32 := by omega
        simp -implicitDefEqProofs only [cdA, go_sem, reduceIte, reduceCtorEq, Nat.reduceEqDiff, Nat.reduceAdd, Nat.reduceLeDiff, Nat.reduceSub, Nat.reduceMul, Nat.reduceLT, Nat.reduceShiftRight, Nat.reduceMod, Int.reduceLE, Int.reduceLT, Int.reduceToNat, List.cons.injEq, cdB]
        refine fun _ => ⟨⟨by omega, by omega⟩, fun _ => ?_⟩
        have hz : List.replicate M.length [C.int .u64 0] = u64s (List.replicate M.length 0) := by simp [u64s]
        rw [hz]
        refine SWp.loop (ι := { x : Nat × List Nat // x.1 ≤ M.length ∧ x.2.length = M.length ∧ ∀ j, j < x.1 → x.2.getD j default = (M.getD j default).id }) (fun x => ⟨[(15, .vec 1 M.length), (77, .vec 0 M.length), (78, .int .i64 M.length), (79, .int .i64 x.1.1)],
          [(1, .vec true 1 26 (u64s x.1.2)), (0, .vec true 2 182 (mks M))], 2⟩) (fun x => M.length - x.1.1) ⟨(0, List.replicate M.length 0), by simp⟩ ?_ ?_
        · simp [go_sem]
        · rintro ⟨⟨j, X⟩, hj, hX, hall⟩
          dsimp only at hj hX hall
          refine awp_sound order_T_ok.toS lv72 _ _ _ rfl ?_
          simp -implicitDefEqProofs only [cdA, go_sem, reduceIte, reduceCtorEq, Nat.reduceEqDiff, Nat.reduceAdd, Nat.reduceLeDiff, Nat.reduceSub, Nat.reduceMul, Nat.reduceLT, Nat.reduceShiftRight, Nat.reduceMod, Int.reduceLE, Int.reduceLT, Int.reduceToNat, List.cons.injEq, cdB]
          refine ⟨fun h2 => ⟨by omega, by omega, by omega, ⟨hX.symm, by omega⟩, ⟨(j + 1, X.set j (M.getD j default).id), by dsimp only; omega, by dsimp only; rw [List.length_set]; exact hX, fun q hq => ?_⟩, by dsimp only; omega, i64_in _ (by omega), rfl⟩, fun h2 => ?_⟩
          · dsimp only at hq ⊢
            rw [Srt.set_getD (by omega)]
            by_cases hqj : q = j
            · rw [if_pos hqj, hqj]
            · rw [if_neg hqj]; exact hall q (by omega)
          · have hXm : X = M.map Mk.id := by
              apply List.ext_getElem (by simpa using hX)
              intro q h3 h4
              have := hall q (by omega)
              rw [getD_lt h3, getD_lt (by omega)] at this
              simpa using this
            rw [ordL, if_pos hok, hM, hXm]
            exact ⟨⟨by simp, _, _, _, rfl⟩, rfl⟩
def sp_order : List D → Option (Prop × D × Fr)
  | [.c (.sl z157), .c (.sl z158), .c (.int .u64 z159)] => some (z157 = chs (dchs z157) ∧ z158 = wts (dwts z158) ∧ z159 = (z159.toNat : Int), order_r (dchs z157) (dwts z158) z159.toNat, [])
  | _ => none
attribute [go_sem] sp_order
theorem sp_order_ok : ∀ rs p r fr, sp_order rs = some (p, r, fr) → p → FnOk Tryz.prog 72 rs r fr := by
  intro rs p r fr h hp
  unfold sp_order at h
  split at h <;> cases h
  obtain ⟨hc0, hc1, hc2⟩ := hp
  rename_i z157 z158 z159
  obtain ⟨z157, rfl⟩ : ∃ m, z157 = chs m := ⟨_, hc0⟩
  obtain ⟨z158, rfl⟩ : ∃ m, z158 = wts m := ⟨_, hc1⟩
  obtain ⟨z159, rfl⟩ : ∃ m : Nat, z159 = m := ⟨_, hc2⟩
  simp only [Int.toNat_natCast, dchs_chs, dwts_wts]
  exact order_ok z157 z158 z159
def firstL (l : List Ch) (w : List Wt) (n : Nat) : Nat × Int := if (ordL l w n).2 = 0 then (match (ordL l w n).1 with
  | [] => (0, 5)
  | x :: _ => (x, 0)) else (0, (ordL l w n).2)
@[go_sem] def first_r (l : List Ch) (w : List Wt) (n : Nat) : D := .tup [.int .u64 ((firstL l w n).1 : Int), .int .i64 (firstL l w n).2]
@[go_sem] abbrev n_first : FuncId := 34
@[go_sem] def first_T : Tab := [(72, sp_order)]
theorem first_T_ok : TabOk Tryz.prog first_T := (TabOk.cons sp_order_ok TabOk.nil)
set_option maxRecDepth 8000 in
set_option maxHeartbeats 1000000 in
theorem first_ok (l : List Ch) (w : List Wt) (n : Nat)  : PureFn Tryz.prog 34 [.sl (chs l), .sl (wts w), .c (.int .u64 (n : Int))] (first_r l w n) := by
  refine .of (ac34 first_T_ok (Nat.le_of_ble_eq_true rfl) ?_)
  simp -implicitDefEqProofs only [cdA, go_sem, Go.Proofs.Tryz.f34, reduceIte, reduceCtorEq, Nat.reduceEqDiff, Nat.reduceAdd, Nat.reduceLeDiff, Nat.reduceSub, Nat.reduceMul, Nat.reduceLT, Nat.reduceShiftRight, Nat.reduceMod, Int.reduceLE, Int.reduceLT, Int.reduceToNat, List.cons.injEq, cdB]
  unfold firstL
  refine ⟨fun h hl => ?_, fun h => by rw [if_neg h]; exact ⟨rfl, rfl⟩⟩
  rw [if_pos h]
  cases (ordL l w n).1 with
  | nil => exact ⟨fun _ => ⟨rfl, rfl⟩, fun h => absurd rfl h⟩
  | cons x t => exact ⟨fun h => absurd h (by rw [List.length_cons]; omega), fun _ => ⟨by rw [List.length_cons]; omega, rfl, rfl⟩⟩
def sp_first : List D → Option (Prop × D × Fr)
  | [.c (.sl z163), .c (.sl z164), .c (.int .u64 z165)] => some (z163 = chs (dchs z163) ∧ z164 = wts (dwts z164) ∧ z165 = (z165.toNat : Int), first_r (dchs z163) (dwts z164) z165.toNat, [])
  | _ => none
attribute [go_sem] sp_first
theorem sp_first_ok : ∀ rs p r fr, sp_first rs = some (p, r, fr) → p → FnOk Tryz.prog 34 rs r fr := by
  intro rs p r fr h hp
  unfold sp_first at h
  split at h <;> cases h
  obtain ⟨hc0, hc1, hc2⟩ := hp
  rename_i z163 z164 z165
  obtain ⟨z163, rfl⟩ : ∃ m, z163 = chs m := ⟨_, hc0⟩
  obtain ⟨z164, rfl⟩ : ∃ m, z164 = wts m := ⟨_, hc1⟩
  obtain ⟨z165, rfl⟩ : ∃ m : Nat, z165 = m := ⟨_, hc2⟩
  simp only [Int.toNat_natCast, dchs_chs, dwts_wts]
  exact first_ok z163 z164 z165
end Dm
namespace Dm
open Go Go.Proofs Go.IntWalk
structure Wl where
  c : List Ch
  w : List Wt
  i : List Iv
  p : List Py
  f : Fd
  next : Nat
  tick : Nat
deriving DecidableEq, Inhabited
@[go_sem] def Wl.enc (e : Wl) : List C := [.sl (chs e.c), .sl (wts e.w), .sl (ivs e.i), .sl (pys e.p), .int .u64 (e.f.next : Int), .sl (evs e.f.l), .int .u64 (e.next : Int), .int .u64 (e.tick : Int)]
def Wl.dec : List C → Wl
  | [.sl z282, .sl z283, .sl z284, .sl z285, .int .u64 z287, .sl z288, .int .u64 z289, .int .u64 z290] => (⟨(dchs z282), (dwts z283), (divs z284), (dpys z285), (⟨z287.toNat, (devs z288)⟩ : Fd), z289.toNat, z290.toNat⟩ : Wl)
  | _ => default
def wls (l : List Wl) : List (List C) := l.map Wl.enc
def dwls (l : List (List C)) : List Wl := l.map Wl.dec
@[simp, go_sem] theorem wls_length (l : List Wl) : (wls l).length = l.length := by simp [wls]
@[go_sem] theorem wls_get (l : List Wl) (i : Nat) : (wls l).getD i [.sl [], .sl [], .sl [], .sl [], .int .u64 0, .sl [], .int .u64 0, .int .u64 0] = (l.getD i default).enc := by
  simp only [wls, List.getD_eq_getElem?_getD, List.getElem?_map]
  cases l[i]? <;> rfl
@[go_sem] theorem wls_wide (l : List Wl) : Wide 8 (wls l) = True := by
  simp [Wide, wls, Wl.enc]
theorem Wl.dec_enc (e : Wl) : Wl.dec e.enc = e := by
  simp [Wl.enc, Wl.dec, dchs_chs, devs_evs, divs_ivs, dpys_pys, dwts_wts]
@[go_sem] theorem dwls_wls (l : List Wl) : dwls (wls l) = l := by
  simp only [dwls, wls, List.map_map]
  exact List.map_id'' (fun e => Wl.dec_enc e) l
@[go_sem] theorem wls_app (a b : List Wl) : wls a ++ wls b = wls (a ++ b) := by simp [wls]
@[go_sem] theorem wls_drop (l : List Wl) (k : Nat) : (wls l).drop k = wls (l.drop k) := by simp [wls]
@[go_sem] theorem wls_take (l : List Wl) (k : Nat) : (wls l).take k = wls (l.take k) := by simp [wls]
@[go_sem] theorem wls_one (z291 : List Ch) (z292 : List Wt) (z293 : List Iv) (z294 : List Py) (z295 : Int) (z296 : List Ev) (z297 : Int) (z298 : Int) (hz295 : 0 ≤ z295) (hz297 : 0 ≤ z297) (hz298 : 0 ≤ z298) : [[C.sl (chs z291), C.sl (wts z292), C.sl (ivs z293), C.sl (pys z294), C.int .u64 z295, C.sl (evs z296), C.int .u64 z297, C.int .u64 z298]] = wls [⟨z291, z292, z293, z294, ⟨z295.toNat, z296⟩, z297.toNat, z298.toNat⟩] := by simp [wls, Wl.enc, Int.toNat_of_nonneg hz295, Int.toNat_of_nonneg hz297, Int.toNat_of_nonneg hz298]
@[go_sem] theorem wls_set (l : List Wl) (i : Nat) (z291 : List Ch) (z292 : List Wt) (z293 : List Iv) (z294 : List Py) (z295 : Int) (z296 : List Ev) (z297 : Int) (z298 : Int) (hz295 : 0 ≤ z295) (hz297 : 0 ≤ z297) (hz298 : 0 ≤ z298) : (wls l).set i [C.sl (chs z291), C.sl (wts z292), C.sl (ivs z293), C.sl (pys z294), C.int .u64 z295, C.sl (evs z296), C.int .u64 z297, C.int .u64 z298] = wls (l.set i ⟨z291, z292, z293, z294, ⟨z295.toNat, z296⟩, z297.toNat, z298.toNat⟩) := by simp [wls, List.map_set, Wl.enc, Int.toNat_of_nonneg hz295, Int.toNat_of_nonneg hz297, Int.toNat_of_nonneg hz298]
@[go_sem] theorem wls_cons (l : List Wl) (z291 : List Ch) (z292 : List Wt) (z293 : List Iv) (z294 : List Py) (z295 : Int) (z296 : List Ev) (z297 : Int) (z298 : Int) (hz295 : 0 ≤ z295) (hz297 : 0 ≤ z297) (hz298 : 0 ≤ z298) : [C.sl (chs z291), C.sl (wts z292), C.sl (ivs z293), C.sl (pys z294), C.int .u64 z295, C.sl (evs z296), C.int .u64 z297, C.int .u64 z298] :: wls l = wls (⟨z291, z292, z293, z294, ⟨z295.toNat, z296⟩, z297.toNat, z298.toNat⟩ :: l) := by simp [wls, Wl.enc, Int.toNat_of_nonneg hz295, Int.toNat_of_nonneg hz297, Int.toNat_of_nonneg hz298]
@[go_sem] theorem Wl.eta {e : Wl} : (⟨e.c, e.w, e.i, e.p, e.f, e.next, e.tick⟩ : Wl) = e := rfl
def okW (w : Wl) : Prop := okLd w.c ∧ okIv w.i ∧ okFd w.f ∧ w.w.length ≤ 32 ∧ w.next ≠ 0 ∧ w.next ≤ MM ∧ (0 < w.p.length → (w.p.getD (w.p.length - 1) default).id < w.next) ∧ agrL w.p w.c = (true, 0)
instance (w : Wl) : Decidable (okW w) := by unfold okW; infer_instance
def chkW (w : Wl) : Int := if okW w then 0 else 1
theorem chkW_0 {w : Wl} : chkW w = 0 ↔ okW w := by unfold chkW; split <;> rename_i h <;> simp only [h] <;> decide
@[go_sem] def wnew_r  : D := .agg [.sl (chs []), .sl (wts []), .sl (ivs []), .sl (pys []), .int .u64 1, .sl (evs []), .int .u64 1, .int .u64 0]
@[go_sem] abbrev n_wnew : FuncId := 26
@[go_sem] def wnew_T : Tab := [(69, sp_fnew)]
theorem wnew_T_ok : TabOk Tryz.prog wnew_T := (TabOk.cons sp_fnew_ok TabOk.nil)
set_option maxRecDepth 8000 in
set_option maxHeartbeats 1000000 in
theorem wnew_ok   : PureFn Tryz.prog 26 [] (wnew_r ) := by
  refine .of (ac26 wnew_T_ok (Nat.le_of_ble_eq_true rfl) ?_)
  simp -implicitDefEqProofs only [cdA, go_sem, Go.Proofs.Tryz.f26, reduceIte, reduceCtorEq, Nat.reduceEqDiff, Nat.reduceAdd, Nat.reduceLeDiff, Nat.reduceSub, Nat.reduceMul, Nat.reduceLT, Nat.reduceShiftRight, Nat.reduceMod, Int.reduceLE, Int.reduceLT, Int.reduceToNat, List.cons.injEq, cdB]
  exact ⟨rfl, rfl, rfl, rfl⟩
def sp_wnew : List D → Option (Prop × D × Fr)
  | [] => some (True, wnew_r , [])
  | _ => none
attribute [go_sem] sp_wnew
theorem sp_wnew_ok : ∀ rs p r fr, sp_wnew rs = some (p, r, fr) → p → FnOk Tryz.prog 26 rs r fr := by
  intro rs p r fr h hp
  unfold sp_wnew at h
  split at h <;> cases h
  exact wnew_ok 
@[go_sem] def wcheck_r (w : Wl) : D := .int .i64 (chkW w)
@[go_sem] abbrev n_wcheck : FuncId := 14
@[go_sem] def wcheck_T : Tab := [(43, sp_lcheck), (45, sp_icheck), (46, sp_fcheck), (47, sp_pagree)]
theorem wcheck_T_ok : TabOk Tryz.prog wcheck_T := (TabOk.cons sp_lcheck_ok (TabOk.cons sp_icheck_ok (TabOk.cons sp_fcheck_ok (TabOk.cons sp_pagree_ok TabOk.nil))))
set_option maxRecDepth 8000 in
set_option maxHeartbeats 1000000 in
theorem wcheck_ok (w : Wl) (h : w.f.next ≤ 18446744073709551615) : PureFn Tryz.prog 14 [.agg [.sl (chs w.c), .sl (wts w.w), .sl (ivs w.i), .sl (pys w.p), .c (.int .u64 (w.f.next : Int)), .sl (evs w.f.l), .c (.int .u64 (w.next : Int)), .c (.int .u64 (w.tick : Int))]] (wcheck_r w) := by
  refine .of (ac14 wcheck_T_ok (Nat.le_of_ble_eq_true rfl) ?_)
  simp -implicitDefEqProofs only [cdA, go_sem, Go.Proofs.Tryz.f14, reduceIte, reduceCtorEq, Nat.reduceEqDiff, Nat.reduceAdd, Nat.reduceLeDiff, Nat.reduceSub, Nat.reduceMul, Nat.reduceLT, Nat.reduceShiftRight, Nat.reduceMod, Int.reduceLE, Int.reduceLT, Int.reduceToNat, List.cons.injEq, cdB]
  have hbad : ¬ okW w → 1 = chkW w := fun h => by rw [chkW, if_neg h]
  have hl0 : chkL w.c = 0 ↔ okLd w.c := by unfold chkL; split <;> rename_i h <;> simp only [h] <;> decide
  have hi0 : chkI w.i = 0 ↔ okIv w.i := by unfold chkI; split <;> rename_i h <;> simp only [h] <;> decide
  refine ⟨fun h1 => ⟨fun h2 => ⟨h, fun h3 _ => ⟨fun h4 => ⟨fun h5 => ⟨fun h6 => hbad fun ho => ?_, fun h6 _ => ?_⟩, fun h5 => hbad fun ho => ?_⟩, fun h4 => hbad fun ho => ?_⟩, fun h3 => hbad fun ho => h3 (chkF_0.2 ho.2.2.1)⟩, fun h2 => hbad fun ho => h2 (hi0.2 ho.2.1)⟩, fun h1 => hbad fun ho => h1 (hl0.2 ho.1)⟩
  rotate_left 1
  · refine ADraw.run us14_4 wcheck_T_ok follows_mixed (by kernel_rfl) (by kernel_rfl) ?_
    simp -implicitDefEqProofs only [cdA, go_sem, reduceIte, reduceCtorEq, Nat.reduceEqDiff, Nat.reduceAdd, Nat.reduceLeDiff, Nat.reduceSub, Nat.reduceMul, Nat.reduceLT, Nat.reduceShiftRight, Nat.reduceMod, Int.reduceLE, Int.reduceLT, Int.reduceToNat, List.cons.injEq, cdB]
    have hL := hl0.1 h1
    have hh : ∀ c ∈ w.c, c.holds.length ≤ 1000000 := fun c hc => by have := (hL.2.1 c hc).2.2.1; omega
    have hfin : (0 < w.p.length → (w.p.getD (w.p.length - 1) default).id < w.next) → ((agrL w.p w.c).2 = 0 → ((agrL w.p w.c).1 = true → 0 = chkW w) ∧ ((agrL w.p w.c).1 = false → 1 = chkW w)) ∧ (¬(agrL w.p w.c).2 = 0 → 1 = chkW w) := fun h7 =>
      ⟨fun h8 => ⟨fun h9 => by
        rw [chkW, if_pos (show okW w from ⟨hL, hi0.1 h2, chkF_0.1 h3, by omega, by omega, by unfold MM; omega, h7, Prod.ext h9 h8⟩)], fun h9 => hbad fun ho => by have := ho.2.2.2.2.2.2.2; rw [this] at h9; cases h9⟩,
        fun h8 => hbad fun ho => by have := ho.2.2.2.2.2.2.2; rw [this] at h8; exact h8 rfl⟩
    refine ⟨fun h7 => ?_, fun h7 => ⟨hh, hfin fun h => absurd h (by omega)⟩⟩
    rw [i64_in _ (by omega), show ((w.p.length : Int) - 1).toNat = w.p.length - 1 by omega]
    refine ⟨by omega, fun h8 => hbad fun ho => ?_, fun h8 => ⟨hh, hfin fun _ => by omega⟩⟩
    have := ho.2.2.2.2.2.2.1 (by omega); omega
  · have := ho.2.2.2.2.1; omega
  · have := ho.2.2.2.1; omega
  · have := ho.2.2.2.2.2.1; unfold MM at this; omega
@[go_sem] def wcheck_p (w : Wl) : Prop := (w.f.next ≤ 18446744073709551615)
def sp_wcheck : List D → Option (Prop × D × Fr)
  | [.agg [.c (.sl z300), .c (.sl z301), .c (.sl z302), .c (.sl z303), .c (.int .u64 z305), .c (.sl z306), .c (.int .u64 z307), .c (.int .u64 z308)]] => some (z300 = chs (dchs z300) ∧ z301 = wts (dwts z301) ∧ z302 = ivs (divs z302) ∧ z303 = pys (dpys z303) ∧ z305 = (z305.toNat : Int) ∧ z306 = evs (devs z306) ∧ z307 = (z307.toNat : Int) ∧ z308 = (z308.toNat : Int) ∧ wcheck_p (⟨(dchs z300), (dwts z301), (divs z302), (dpys z303), (⟨z305.toNat, (devs z306)⟩ : Fd), z307.toNat, z308.toNat⟩ : Wl), wcheck_r (⟨(dchs z300), (dwts z301), (divs z302), (dpys z303), (⟨z305.toNat, (devs z306)⟩ : Fd), z307.toNat, z308.toNat⟩ : Wl), [])
  | _ => none
attribute [go_sem] sp_wcheck
theorem sp_wcheck_ok : ∀ rs p r fr, sp_wcheck rs = some (p, r, fr) → p → FnOk Tryz.prog 14 rs r fr := by
  intro rs p r fr h hp
  unfold sp_wcheck at h
  split at h <;> cases h
  obtain ⟨hc0, hc1, hc2, hc3, hc4, hc5, hc6, hc7, hp⟩ := hp
  rename_i z300 z301 z302 z303 z305 z306 z307 z308
  obtain ⟨z300, rfl⟩ : ∃ m, z300 = chs m := ⟨_, hc0⟩
  obtain ⟨z301, rfl⟩ : ∃ m, z301 = wts m := ⟨_, hc1⟩
  obtain ⟨z302, rfl⟩ : ∃ m, z302 = ivs m := ⟨_, hc2⟩
  obtain ⟨z303, rfl⟩ : ∃ m, z303 = pys m := ⟨_, hc3⟩
  obtain ⟨z305, rfl⟩ : ∃ m : Nat, z305 = m := ⟨_, hc4⟩
  obtain ⟨z306, rfl⟩ : ∃ m, z306 = evs m := ⟨_, hc5⟩
  obtain ⟨z307, rfl⟩ : ∃ m : Nat, z307 = m := ⟨_, hc6⟩
  obtain ⟨z308, rfl⟩ : ∃ m : Nat, z308 = m := ⟨_, hc7⟩
  simp only [Int.toNat_natCast, dchs_chs, devs_evs, divs_ivs, dpys_pys, dwts_wts]
  simp only [Int.toNat_natCast, dchs_chs, devs_evs, divs_ivs, dpys_pys, dwts_wts, wcheck_p] at hp
  exact wcheck_ok ⟨z300, z301, z302, z303, ⟨z305, z306⟩, z307, z308⟩ hp
end Dm
namespace Dm
open Go Go.Proofs Go.IntWalk
@[go_sem] def pins_T2 : Tab := [ovk 134]
theorem pins_T2_ok : TabOk Tryz.prog pins_T2 := .cons (ov_ok 134) .nil
@[go_sem] def pins_T3 : Tab := [fg 12]
theorem pins_T3_ok : TabOk Tryz.prog pins_T3 := .cons (fg_ok 12) .nil
theorem pins_wide (l : List Py) : Wide 5 (pys l) := of_eq_true (pys_wide l)
set_option maxRecDepth 8000 in
set_option maxHeartbeats 1000000 in
theorem pins_ok (l : List Py) (x : Py) (i : Nat) (hi : i ≤ l.length) (hl : l.length ≤ 1000000) :
    ACall Tryz.prog 78 [.vec 0 l.length, .int .i64 i, .vec 1 1] [(1, .vec true 5 50 (pys [x])), (0, .vec true 5 50 (pys l))] 2 fun d os _ => Grown 5 50 (pys (Srt.ins l i x)) d os := by
  have hil : (Srt.ins l i x).length = l.length + 1 := Srt.ins_len
  have hq : ∀ j os, lk j os = some (.vec true 5 50 (pys (Srt.ins l i x))) → Grown 5 50 (pys (Srt.ins l i x)) (.vec j (l.length + 1)) os := fun j os h => ⟨j, by rw [pys_length, hil], h⟩
  by_cases hin : i = l.length
  · refine ac78 pins_T3_ok (Nat.le_of_ble_eq_true rfl) ?_
    have e4 : ((1 : Int) = 0) = False := eq_false (by decide)
    subst hin
    simp -implicitDefEqProofs only [cdA, go_sem, Go.Proofs.Tryz.f78, e4, decide_true, reduceIte, reduceCtorEq, Nat.reduceEqDiff, Nat.reduceAdd, Nat.reduceLeDiff, Nat.reduceSub, Nat.reduceMul, Nat.reduceLT, Nat.reduceShiftRight, Nat.reduceMod, Int.reduceLE, Int.reduceLT, Int.reduceToNat, List.cons.injEq, cdB]
    refine ⟨Int.le_refl _, fun h => h.elim, fun _ => ⟨by omega, hq _ _ ?_⟩⟩
    rw [lk_cons, if_neg (by decide), lk_hd]
    simp [Srt.ins]
  · have hlt : i < l.length := by omega
    refine ACall.opn 0 rfl (by rw [pys_length]; omega) fun c hc hcm => ?_
    refine ACall.sld ?_
    rw [pys_length] at hc
    refine ac78 pins_T2_ok (Nat.le_of_ble_eq_true rfl) ?_
    have e1 : IntKind.i64.wrap ((l.length : Int) + 1) = ((l.length + 1 : Nat) : Int) := by rw [i64_in _ (by omega)]; omega
    have e2 : IntKind.i64.wrap ((i : Int) + 1) = ((i + 1 : Nat) : Int) := by rw [i64_in _ (by omega)]; omega
    have e3 : ((i : Int) = (l.length : Int)) = False := eq_false (by omega)
    have e4 : ((1 : Int) = 0) = False := eq_false (by decide)
    have e5 : IntKind.i64.wrap ((l.length : Int) + 1 - (i : Int)) = ((l.length + 1 - i : Nat) : Int) := by rw [i64_in _ (by omega)]; omega
    have e6 : ((l.length : Int) + 1).toNat = l.length + 1 := by omega
    have e7 : ((i : Int) + 1).toNat = i + 1 := by omega
    have e8 : i + (l.length + 1 - i) = l.length + 1 := by omega
    simp -implicitDefEqProofs only [cdA, go_sem, Go.Proofs.Tryz.f78, e3, e4, e1, e2, e5, e6, e7, e8, decide_false, reduceIte, reduceCtorEq, Nat.reduceEqDiff, Nat.reduceAdd, Nat.reduceLeDiff, Nat.reduceSub, Nat.reduceMul, Nat.reduceLT, Nat.reduceShiftRight, Nat.reduceMod, Int.reduceLE, Int.reduceLT, Int.reduceToNat, List.cons.injEq, cdB]
    refine ⟨by omega, fun _ => ⟨fun h1 => ⟨by omega, by omega, fun c1 h2 h3 => ⟨by omega, ?_⟩⟩, fun h1 => ⟨by omega, by omega, ?_, ?_⟩⟩⟩
    · refine ADraw.run us78_11 pins_T2_ok follows_mixed (by kernel_rfl) (by kernel_rfl) ?_
      simp -implicitDefEqProofs only [cdA, go_sem, e1, e2, e5, e6, e7, e8, reduceIte, reduceCtorEq, Nat.reduceEqDiff, Nat.reduceAdd, Nat.reduceLeDiff, Nat.reduceSub, Nat.reduceMul, Nat.reduceLT, Nat.reduceShiftRight, Nat.reduceMod, Int.reduceLE, Int.reduceLT, Int.reduceToNat, List.cons.injEq, cdB]
      refine ⟨by omega, by omega, fun y hy => fit_wide (pins_wide l) y (List.mem_of_mem_take (List.mem_of_mem_drop hy)), ?_⟩
      have := ins_new (sz := 5) (c := c) (c1 := c1) (i := i) (E := pys l) (x := x.enc) (z := [C.int .u64 0, C.int .u64 0, C.int .u64 0, C.int .u64 0, C.int .i64 0]) (by rw [pys_length]; exact hlt) (by rw [pys_length]; exact hc) (by rw [pys_length]; exact h2)
      rw [pys_length] at this
      refine hq _ _ ?_
      rw [lk_hd]
      congr 2
      rw [show pys (List.take (l.length + 1 - i) [x]) = List.take (l.length + 1 - i) [x.enc] by simp [pys], this]
      simp [pys, Srt.ins]
    · exact ⟨_, 25, 4, _, rfl, rfl, rfl, rfl, by kernel_rfl, elOf_25⟩
    · refine ADraw.run us78_15 pins_T2_ok follows_mixed (by kernel_rfl) (by kernel_rfl) ?_
      simp -implicitDefEqProofs only [cdA, go_sem, e1, e2, e5, e6, e7, e8, reduceIte, reduceCtorEq, Nat.reduceEqDiff, Nat.reduceAdd, Nat.reduceLeDiff, Nat.reduceSub, Nat.reduceMul, Nat.reduceLT, Nat.reduceShiftRight, Nat.reduceMod, Int.reduceLE, Int.reduceLT, Int.reduceToNat, List.cons.injEq, cdB]
      refine ⟨by omega, by omega, fun y hy => fit_wide (pins_wide l) y (List.mem_of_mem_take (List.mem_of_mem_drop hy)), by omega, ?_⟩
      have := ins_old (sz := 5) (c := c) (i := i) (E := pys l) (x := x.enc) (by rw [pys_length]; exact hlt) (by rw [pys_length]; omega)
      rw [pys_length] at this
      refine hq _ _ ?_
      rw [lk_hd]
      congr 2
      rw [show pys (List.take (l.length + 1 - i) [x]) = List.take (l.length + 1 - i) [x.enc] by simp [pys], this]
      simp [pys, Srt.ins]

@[go_sem] def pclone_r (l : List Py) : D := .vec 0 l.length
@[go_sem] def pclone_fr (l : List Py) : Fr := [(5, 50, true, pys l)]
@[go_sem] abbrev n_pclone : FuncId := 74
@[go_sem] def pclone_T : Tab := []
theorem pclone_T_ok : TabOk Tryz.prog pclone_T := TabOk.nil
set_option maxRecDepth 8000 in
set_option maxHeartbeats 1000000 in
theorem pclone_ok (l : List Py) (hl : l.length ≤ 1000000) : FreshFn Tryz.prog 74 [.sl (pys l)] (pclone_r l) (pclone_fr l) := by
  refine .of (ac74 pclone_T_ok (Nat.le_of_ble_eq_true rfl) ?_)
  simp -implicitDefEqProofs only [cdA, go_sem, Go.Proofs.Tryz.f74, reduceIte, reduceCtorEq, Nat.reduceEqDiff, Nat.reduceAdd, Nat.reduceLeDiff, Nat.reduceSub, Nat.reduceMul, Nat.reduceLT, Nat.reduceShiftRight, Nat.reduceMod, Int.reduceLE, Int.reduceLT, Int.reduceToNat, List.cons.injEq, cdB]
  refine fun b hb => ⟨fun h => ?_, fun h => ?_⟩
  · exact ⟨[none], by simp [go_sem, hb h], by cases l <;> simp_all [go_sem, pys]⟩
  · exact ⟨by omega, [some 0], by simp [go_sem]⟩
@[go_sem] def pclone_p (l : List Py) : Prop := (l.length ≤ 1000000)
def sp_pclone : List D → Option (Prop × D × Fr)
  | [.c (.sl z273)] => some (z273 = pys (dpys z273) ∧ pclone_p (dpys z273), pclone_r (dpys z273), pclone_fr (dpys z273))
  | _ => none
attribute [go_sem] sp_pclone
theorem sp_pclone_ok : ∀ rs p r fr, sp_pclone rs = some (p, r, fr) → p → FnOk Tryz.prog 74 rs r fr := by
  intro rs p r fr h hp
  unfold sp_pclone at h
  split at h <;> cases h
  obtain ⟨hc0, hp⟩ := hp
  rename_i z273
  obtain ⟨z273, rfl⟩ : ∃ m, z273 = pys m := ⟨_, hc0⟩
  simp only [dpys_pys]
  simp only [dpys_pys, pclone_p] at hp
  exact (show FnOk _ _ _ _ _ from And.intro rfl (pclone_ok z273 hp))
theorem del_old {c z i : Nat} {E Z : List (List C)} (hi : i < E.length) (hc : E.length ≤ c) :
    (fit c z ((fit c z ((fit c z E).take i ++ (E.drop (i + 1) ++ (fit c z E).drop (i + (E.drop (i + 1)).length)))).take (i + (E.drop (i + 1)).length) ++ Z)).take (i + (E.drop (i + 1)).length) = E.eraseIdx i := by
  have hD : (E.drop (i + 1)).length = E.length - (i + 1) := List.length_drop
  have hF : (fit c z E).length = c := fit_length _ _ _
  have h1 : ((fit c z E).take i ++ (E.drop (i + 1) ++ (fit c z E).drop (i + (E.drop (i + 1)).length))).length = c := by
    simp only [List.length_append, List.length_take, List.length_drop, hF]; omega
  rw [fit_take (by rw [List.length_append, List.length_take, fit_length]; omega) (by omega), List.take_append_of_le_length (by rw [List.length_take, fit_length]; omega), List.take_take, Nat.min_self,
    fit_take (by omega) (by omega), ← List.append_assoc, fit_take (by omega) (by omega), List.take_append_of_le_length (by rw [List.length_append, List.length_take]; omega), List.eraseIdx_eq_take_drop_succ]
  rw [List.take_of_length_le (by rw [List.length_append, List.length_take]; omega)]
theorem pys_erase (l : List Py) (i : Nat) : (pys l).eraseIdx i = pys (l.eraseIdx i) := by
  simp [pys, List.eraseIdx_eq_take_drop_succ]
def idle (l : List Py) : Option Nat := l.findIdx? fun p => decide (p.state ≠ 1)
def startP (l : List Py) (p : Py) : List Py × Int :=
  if ¬ okPy l ∨ ¬ okPy1 p ∨ p.state ≠ 1 then ([], 1) else if Srt.thr Py.id ltN l p.id = true then ([], 6) else if l.length = 256 then (match idle l with
    | none => ([], 7)
    | some k => (Srt.ins (l.eraseIdx k) (if k < Srt.pos Py.id ltN l p.id then Srt.pos Py.id ltN l p.id - 1 else Srt.pos Py.id ltN l p.id) p, 0))
  else (Srt.ins l (Srt.pos Py.id ltN l p.id) p, 0)
@[go_sem] def pstart_r (l : List Py) (p : Py) : D := .tup [.sl (pys (startP l p).1), .int .i64 (startP l p).2]
@[go_sem] abbrev n_pstart : FuncId := 37
@[go_sem] def pstart_T : Tab := [(48, sp_pfind), (73, sp_pmay), (74, sp_pclone), fg 13]
theorem pstart_T_ok : TabOk Tryz.prog pstart_T := (TabOk.cons sp_pfind_ok (TabOk.cons sp_pmay_ok (TabOk.cons sp_pclone_ok (TabOk.cons (fg_ok 13) TabOk.nil))))
set_option maxRecDepth 8000 in
set_option maxHeartbeats 1000000 in
theorem pstart_ok (l : List Py) (p : Py)  : PureFn Tryz.prog 37 [.sl (pys l), .agg [.c (.int .u64 (p.id : Int)), .c (.int .u64 (p.hash : Int)), .c (.int .u64 (p.chan : Int)), .c (.int .u64 (p.n : Int)), .c (.int .i64 p.state)]] (pstart_r l p) := by
  refine .of (ac37 pstart_T_ok (Nat.le_of_ble_eq_true rfl) ?_)
  simp -implicitDefEqProofs only [cdA, go_sem, Go.Proofs.Tryz.f37, reduceIte, reduceCtorEq, Nat.reduceEqDiff, Nat.reduceAdd, Nat.reduceLeDiff, Nat.reduceSub, Nat.reduceMul, Nat.reduceLT, Nat.reduceShiftRight, Nat.reduceMod, Int.reduceLE, Int.reduceLT, Int.reduceToNat, List.cons.injEq, cdB]
  have hbad : (¬ okPy l ∨ ¬ okPy1 p ∨ p.state ≠ 1) → pys (startP l p).1 = [] ∧ 1 = (startP l p).2 := fun h => by rw [startP, if_pos h]; exact ⟨rfl, rfl⟩
  by_cases hok : okPy l
  rotate_left 1
  · have e : findP l p.id = (0, 1) := by rw [findP, if_neg hok]
    rw [e]
    exact ⟨fun h => absurd rfl h, fun _ => hbad (.inl hok)⟩
  have e : findP l p.id = (((Srt.pos Py.id ltN l p.id : Nat) : Int), if Srt.thr Py.id ltN l p.id = true then 0 else 5) := by rw [findP, if_pos hok]
  have h256 := hok.1
  rw [e]
  refine ⟨fun _ => ⟨fun h1 => ⟨fun h2 => ?_, fun h2 => hbad (.inr (.inr h2))⟩, fun h1 => hbad (.inr (.inl h1))⟩, fun h => by dsimp only at h; split at h <;> cases h⟩
  have hA : ¬ (¬ okPy l ∨ ¬ okPy1 p ∨ p.state ≠ 1) := by rintro (h | h | h) <;> first | exact h hok | exact h h1 | exact h h2
  by_cases ht : Srt.thr Py.id ltN l p.id = true
  · rw [if_pos ht]
    exact ⟨fun _ => by rw [startP, if_neg hA, if_pos ht]; exact ⟨rfl, rfl⟩, fun h => absurd rfl h⟩
  rw [if_neg ht]
  refine ⟨fun h => absurd h (by dsimp only; decide), fun _ => ⟨by omega, fun _ => ⟨fun h3 => ?_, fun h3 => ?_⟩⟩⟩
  · skip
    refine ac75 pstart_T_ok (Nat.le_of_ble_eq_true rfl) ?_
    simp -implicitDefEqProofs only [cdA, go_sem, Go.Proofs.Tryz.f75, reduceIte, reduceCtorEq, Nat.reduceEqDiff, Nat.reduceAdd, Nat.reduceLeDiff, Nat.reduceSub, Nat.reduceMul, Nat.reduceLT, Nat.reduceShiftRight, Nat.reduceMod, Int.reduceLE, Int.reduceLT, Int.reduceToNat, List.cons.injEq, cdB]
    refine fun _ => SWp.loop (ι := { i : Nat // i ≤ l.length ∧ ∀ j, j < i → (l.getD j default).state = 1 }) (fun i => ⟨[(0, .vec 1 l.length), (1, .fn (.func 76) [] []), (7, .int .i64 l.length), (8, .int .i64 i.1)],
      [(1, .vec true 5 50 (pys l)), (0, .box [.c (.int .u64 p.id), .c (.int .u64 p.hash), .c (.int .u64 p.chan), .c (.int .u64 p.n), .c (.int .i64 p.state)])], 2⟩) (fun i => l.length - i.1) ⟨0, by simp⟩ ?_ ?_
    · simp [go_sem]
    · rintro ⟨i, hi, hall⟩
      refine awp_sound pstart_T_ok.toS lv75 _ _ _ rfl ?_
      simp -implicitDefEqProofs only [cdA, go_sem, reduceIte, reduceCtorEq, Nat.reduceEqDiff, Nat.reduceAdd, Nat.reduceLeDiff, Nat.reduceSub, Nat.reduceMul, Nat.reduceLT, Nat.reduceShiftRight, Nat.reduceMod, Int.reduceLE, Int.reduceLT, Int.reduceToNat, List.cons.injEq, cdB]
      refine ⟨fun h4 => ⟨by omega, by omega, ?_⟩, fun h4 => ?_⟩
      · skip
        refine ac76 pstart_T_ok (Nat.le_of_ble_eq_true rfl) ?_
        simp -implicitDefEqProofs only [cdA, go_sem, Go.Proofs.Tryz.f76, reduceIte, reduceCtorEq, Nat.reduceEqDiff, Nat.reduceAdd, Nat.reduceLeDiff, Nat.reduceSub, Nat.reduceMul, Nat.reduceLT, Nat.reduceShiftRight, Nat.reduceMod, Int.reduceLE, Int.reduceLT, Int.reduceToNat, List.cons.injEq, cdB]
        refine ⟨fun h5 => ⟨⟨i + 1, by omega, fun j hj => ?_⟩, by dsimp only; omega, i64_in _ (by omega)⟩, fun h5 => ⟨fun h6 => by omega, fun _ => ?_⟩⟩
        · by_cases hji : j = i
          · subst hji; exact h5
          · exact hall j (by omega)
        · have hi' : i < l.length := by omega
          have hidle : idle l = some i := by
            refine List.findIdx?_eq_some_iff_getElem.2 ⟨hi', ?_, fun j hj => ?_⟩
            · rw [← getD_lt hi']; exact decide_eq_true h5
            · rw [← getD_lt (by omega)]; simpa using hall j hj
          rw [i64_in _ (by omega)]
          refine ACall.opn 1 rfl (by rw [pys_length]; omega) fun c hc hcm => ?_
          refine ACall.sld ?_
          rw [pys_length] at hc
          refine ac77 pstart_T_ok (Nat.le_of_ble_eq_true rfl) ?_
          simp -implicitDefEqProofs only [cdA, go_sem, Go.Proofs.Tryz.f77, reduceIte, reduceCtorEq, Nat.reduceEqDiff, Nat.reduceAdd, Nat.reduceLeDiff, Nat.reduceSub, Nat.reduceMul, Nat.reduceLT, Nat.reduceShiftRight, Nat.reduceMod, Int.reduceLE, Int.reduceLT, Int.reduceToNat, List.cons.injEq, cdB]
          refine fun _ => ⟨⟨by omega, by omega, by omega⟩, fun h => absurd h (by omega), fun _ _ => ?_⟩
          refine ADraw.run us77_5 pstart_T_ok follows_mixed (by kernel_rfl) (by kernel_rfl) ?_
          simp -implicitDefEqProofs only [cdA, go_sem, reduceIte, reduceCtorEq, Nat.reduceEqDiff, Nat.reduceAdd, Nat.reduceLeDiff, Nat.reduceSub, Nat.reduceMul, Nat.reduceLT, Nat.reduceShiftRight, Nat.reduceMod, Int.reduceLE, Int.reduceLT, Int.reduceToNat, List.cons.injEq, cdB]
          have eF : List.take l.length (fit c 5 (pys l)) = pys l := by rw [fit_take (by rw [pys_length]; exact Nat.le_refl _) hc, List.take_of_length_le (by rw [pys_length]; exact Nat.le_refl _)]
          have e2 : ((i : Int) + 1).toNat = i + 1 := by omega
          rw [eF, e2]
          have hD : ((pys l).drop (i + 1)).length = l.length - (i + 1) := by rw [List.length_drop, pys_length]
          have e3 : ((i : Int) + (((pys l).drop (i + 1)).length : Int)).toNat = i + ((pys l).drop (i + 1)).length := by omega
          simp only [e3]
          have hE : ∀ Z : List (List C), (fit c 5 ((fit c 5 ((fit c 5 (pys l)).take i ++ ((pys l).drop (i + 1) ++ (fit c 5 (pys l)).drop (i + ((pys l).drop (i + 1)).length)))).take (i + ((pys l).drop (i + 1)).length) ++ Z)).take (i + ((pys l).drop (i + 1)).length) = pys (l.eraseIdx i) := fun Z => by
            rw [del_old (by rw [pys_length]; exact hi') (by rw [pys_length]; exact hc), pys_erase]
          rw [hE, hD]
          have hl1 : i + (l.length - (i + 1)) = (l.eraseIdx i).length := by rw [List.length_eraseIdx_of_lt hi']; omega
          rw [hl1]
          have hl2 : (l.eraseIdx i).length = l.length - 1 := List.length_eraseIdx_of_lt hi'
          have hpl : Srt.pos Py.id ltN l p.id ≤ l.length := Srt.pos_le
          refine ⟨by omega, ⟨by omega, by omega⟩, ⟨fun x hx => ?_, by omega⟩, fun _ => ⟨⟨by omega, by omega, by omega⟩, fun h7 => ?_, fun h7 => ?_⟩⟩
          · exact (of_eq_true (pys_wide l)) x (List.mem_of_mem_drop hx)
          · rw [i64_in _ (by omega), show ((Srt.pos Py.id ltN l p.id : Nat) : Int) - 1 = ((Srt.pos Py.id ltN l p.id - 1 : Nat) : Int) by omega]
            refine ACall.grow (mid := [.int .i64 _]) (pins_ok (l.eraseIdx i) p (Srt.pos Py.id ltN l p.id - 1) (by omega) (by omega)) rfl rfl (by decide) (by simp [Srt.ins_len]) (fun d hd g g' w v hv => ?_) ?_
            · simp at hd; subst hd
              cases hv with
              | c _ _ h => cases h; exact .c _ _ (.int _ _)
            · simp -implicitDefEqProofs only [cdA, go_sem, reduceIte, reduceCtorEq, Nat.reduceEqDiff, Nat.reduceAdd, Nat.reduceLeDiff, Nat.reduceSub, Nat.reduceMul, Nat.reduceLT, Nat.reduceShiftRight, Nat.reduceMod, Int.reduceLE, Int.reduceLT, Int.reduceToNat, List.cons.injEq, cdB]
              rw [startP, if_neg hA, if_neg ht, if_pos (by omega), hidle]
              dsimp only
              rw [if_pos (by omega)]
              exact ⟨⟨rfl, _, _, _, rfl⟩, rfl⟩
          · refine ACall.grow (mid := [.int .i64 _]) (pins_ok (l.eraseIdx i) p (Srt.pos Py.id ltN l p.id) (by omega) (by omega)) rfl rfl (by decide) (by simp [Srt.ins_len]) (fun d hd g g' w v hv => ?_) ?_
            · simp at hd; subst hd
              cases hv with
              | c _ _ h => cases h; exact .c _ _ (.int _ _)
            · simp -implicitDefEqProofs only [cdA, go_sem, reduceIte, reduceCtorEq, Nat.reduceEqDiff, Nat.reduceAdd, Nat.reduceLeDiff, Nat.reduceSub, Nat.reduceMul, Nat.reduceLT, Nat.reduceShiftRight, Nat.reduceMod, Int.reduceLE, Int.reduceLT, Int.reduceToNat, List.cons.injEq, cdB]
              rw [startP, if_neg hA, if_neg ht, if_pos (by omega), hidle]
              dsimp only
              rw [if_neg (by omega)]
              exact ⟨⟨rfl, _, _, _, rfl⟩, rfl⟩
      · have : idle l = none := by
          refine List.findIdx?_eq_none_iff.2 fun x hx => ?_
          obtain ⟨j, hj, rfl⟩ := mem_getD.1 hx
          simpa using hall j (by omega)
        rw [startP, if_neg hA, if_neg ht, if_pos (by omega), this]
        exact ⟨rfl, rfl⟩
  · have hpos : Srt.pos Py.id ltN l p.id ≤ l.length := Srt.pos_le
    refine ACall.grow (mid := [.int .i64 _]) (pins_ok l p (Srt.pos Py.id ltN l p.id) hpos (by omega)) rfl rfl (by decide) (by simp [Srt.ins_len]) (fun d hd g g' w v hv => ?_) ?_
    · simp at hd; subst hd
      cases hv with
      | c _ _ h => cases h; exact .c _ _ (.int _ _)
    · simp -implicitDefEqProofs only [cdA, go_sem, reduceIte, reduceCtorEq, Nat.reduceEqDiff, Nat.reduceAdd, Nat.reduceLeDiff, Nat.reduceSub, Nat.reduceMul, Nat.reduceLT, Nat.reduceShiftRight, Nat.reduceMod, Int.reduceLE, Int.reduceLT, Int.reduceToNat, List.cons.injEq, cdB]
      rw [startP, if_neg hA, if_neg ht, if_neg (by omega)]
      exact ⟨⟨rfl, _, _, _, rfl⟩, rfl⟩
def sp_pstart : List D → Option (Prop × D × Fr)
  | [.c (.sl z274), .agg [.c (.int .u64 z276), .c (.int .u64 z277), .c (.int .u64 z278), .c (.int .u64 z279), .c (.int .i64 z280)]] => some (z274 = pys (dpys z274) ∧ z276 = (z276.toNat : Int) ∧ z277 = (z277.toNat : Int) ∧ z278 = (z278.toNat : Int) ∧ z279 = (z279.toNat : Int), pstart_r (dpys z274) (⟨z276.toNat, z277.toNat, z278.toNat, z279.toNat, z280⟩ : Py), [])
  | _ => none
attribute [go_sem] sp_pstart
theorem sp_pstart_ok : ∀ rs p r fr, sp_pstart rs = some (p, r, fr) → p → FnOk Tryz.prog 37 rs r fr := by
  intro rs p r fr h hp
  unfold sp_pstart at h
  split at h <;> cases h
  obtain ⟨hc0, hc1, hc2, hc3, hc4⟩ := hp
  rename_i z274 z276 z277 z278 z279 z280
  obtain ⟨z274, rfl⟩ : ∃ m, z274 = pys m := ⟨_, hc0⟩
  obtain ⟨z276, rfl⟩ : ∃ m : Nat, z276 = m := ⟨_, hc1⟩
  obtain ⟨z277, rfl⟩ : ∃ m : Nat, z277 = m := ⟨_, hc2⟩
  obtain ⟨z278, rfl⟩ : ∃ m : Nat, z278 = m := ⟨_, hc3⟩
  obtain ⟨z279, rfl⟩ : ∃ m : Nat, z279 = m := ⟨_, hc4⟩
  simp only [Int.toNat_natCast, dpys_pys]
  exact pstart_ok z274 ⟨z276, z277, z278, z279, z280⟩
end Dm
namespace Dm
open Go Go.Proofs Go.IntWalk
@[go_sem] def wtclone_r (l : List Wt) : D := .sl (wts l)
@[go_sem] abbrev n_wtclone : FuncId := 143
@[go_sem] def wtclone_T : Tab := []
theorem wtclone_T_ok : TabOk Tryz.prog wtclone_T := TabOk.nil
set_option maxRecDepth 8000 in
set_option maxHeartbeats 1000000 in
theorem wtclone_ok (l : List Wt) (h : l.length ≤ 1000000) : PureFn Tryz.prog 143 [.sl (wts l)] (wtclone_r l) := by
  refine .of (ac143 wtclone_T_ok (Nat.le_of_ble_eq_true rfl) ?_)
  simp -implicitDefEqProofs only [cdA, go_sem, Go.Proofs.Tryz.f143, reduceIte, reduceCtorEq, Nat.reduceEqDiff, Nat.reduceAdd, Nat.reduceLeDiff, Nat.reduceSub, Nat.reduceMul, Nat.reduceLT, Nat.reduceShiftRight, Nat.reduceMod, Int.reduceLE, Int.reduceLT, Int.reduceToNat, List.cons.injEq, cdB]
  exact fun b hb => ⟨hb, fun _ => ⟨by omega, _, _, _, rfl⟩⟩
@[go_sem] def wtclone_p (l : List Wt) : Prop := (l.length ≤ 1000000)
def sp_wtclone : List D → Option (Prop × D × Fr)
  | [.c (.sl z309)] => some (z309 = wts (dwts z309) ∧ wtclone_p (dwts z309), wtclone_r (dwts z309), [])
  | _ => none
attribute [go_sem] sp_wtclone
theorem sp_wtclone_ok : ∀ rs p r fr, sp_wtclone rs = some (p, r, fr) → p → FnOk Tryz.prog 143 rs r fr := by
  intro rs p r fr h hp
  unfold sp_wtclone at h
  split at h <;> cases h
  obtain ⟨hc0, hp⟩ := hp
  rename_i z309
  obtain ⟨z309, rfl⟩ : ∃ m, z309 = wts m := ⟨_, hc0⟩
  simp only [dwts_wts]
  simp only [dwts_wts, wtclone_p] at hp
  exact wtclone_ok z309 hp
@[go_sem] def ivclone_r (l : List Iv) : D := .sl (ivs l)
@[go_sem] abbrev n_ivclone : FuncId := 144
@[go_sem] def ivclone_T : Tab := []
theorem ivclone_T_ok : TabOk Tryz.prog ivclone_T := TabOk.nil
set_option maxRecDepth 8000 in
set_option maxHeartbeats 1000000 in
theorem ivclone_ok (l : List Iv) (h : l.length ≤ 1000000) : PureFn Tryz.prog 144 [.sl (ivs l)] (ivclone_r l) := by
  refine .of (ac144 ivclone_T_ok (Nat.le_of_ble_eq_true rfl) ?_)
  simp -implicitDefEqProofs only [cdA, go_sem, Go.Proofs.Tryz.f144, reduceIte, reduceCtorEq, Nat.reduceEqDiff, Nat.reduceAdd, Nat.reduceLeDiff, Nat.reduceSub, Nat.reduceMul, Nat.reduceLT, Nat.reduceShiftRight, Nat.reduceMod, Int.reduceLE, Int.reduceLT, Int.reduceToNat, List.cons.injEq, cdB]
  exact fun b hb => ⟨hb, fun _ => ⟨by omega, _, _, _, rfl⟩⟩
@[go_sem] def ivclone_p (l : List Iv) : Prop := (l.length ≤ 1000000)
def sp_ivclone : List D → Option (Prop × D × Fr)
  | [.c (.sl z310)] => some (z310 = ivs (divs z310) ∧ ivclone_p (divs z310), ivclone_r (divs z310), [])
  | _ => none
attribute [go_sem] sp_ivclone
theorem sp_ivclone_ok : ∀ rs p r fr, sp_ivclone rs = some (p, r, fr) → p → FnOk Tryz.prog 144 rs r fr := by
  intro rs p r fr h hp
  unfold sp_ivclone at h
  split at h <;> cases h
  obtain ⟨hc0, hp⟩ := hp
  rename_i z310
  obtain ⟨z310, rfl⟩ : ∃ m, z310 = ivs m := ⟨_, hc0⟩
  simp only [divs_ivs]
  simp only [divs_ivs, ivclone_p] at hp
  exact ivclone_ok z310 hp
@[go_sem] def pyclone_r (l : List Py) : D := .sl (pys l)
@[go_sem] abbrev n_pyclone : FuncId := 74
@[go_sem] def pyclone_T : Tab := []
theorem pyclone_T_ok : TabOk Tryz.prog pyclone_T := TabOk.nil
set_option maxRecDepth 8000 in
set_option maxHeartbeats 1000000 in
theorem pyclone_ok (l : List Py) (h : l.length ≤ 1000000) : PureFn Tryz.prog 74 [.sl (pys l)] (pyclone_r l) := by
  refine .of (ac74 pyclone_T_ok (Nat.le_of_ble_eq_true rfl) ?_)
  simp -implicitDefEqProofs only [cdA, go_sem, Go.Proofs.Tryz.f74, reduceIte, reduceCtorEq, Nat.reduceEqDiff, Nat.reduceAdd, Nat.reduceLeDiff, Nat.reduceSub, Nat.reduceMul, Nat.reduceLT, Nat.reduceShiftRight, Nat.reduceMod, Int.reduceLE, Int.reduceLT, Int.reduceToNat, List.cons.injEq, cdB]
  exact fun b hb => ⟨hb, fun _ => ⟨by omega, _, _, _, rfl⟩⟩
@[go_sem] def pyclone_p (l : List Py) : Prop := (l.length ≤ 1000000)
def sp_pyclone : List D → Option (Prop × D × Fr)
  | [.c (.sl z311)] => some (z311 = pys (dpys z311) ∧ pyclone_p (dpys z311), pyclone_r (dpys z311), [])
  | _ => none
attribute [go_sem] sp_pyclone
theorem sp_pyclone_ok : ∀ rs p r fr, sp_pyclone rs = some (p, r, fr) → p → FnOk Tryz.prog 74 rs r fr := by
  intro rs p r fr h hp
  unfold sp_pyclone at h
  split at h <;> cases h
  obtain ⟨hc0, hp⟩ := hp
  rename_i z311
  obtain ⟨z311, rfl⟩ : ∃ m, z311 = pys m := ⟨_, hc0⟩
  simp only [dpys_pys]
  simp only [dpys_pys, pyclone_p] at hp
  exact pyclone_ok z311 hp
@[go_sem] def evclonep_r (l : List Ev) : D := .sl (evs l)
@[go_sem] abbrev n_evclonep : FuncId := 141
@[go_sem] def evclonep_T : Tab := []
theorem evclonep_T_ok : TabOk Tryz.prog evclonep_T := TabOk.nil
set_option maxRecDepth 8000 in
set_option maxHeartbeats 1000000 in
theorem evclonep_ok (l : List Ev) (h : l.length ≤ 1000000) : PureFn Tryz.prog 141 [.sl (evs l)] (evclonep_r l) := by
  refine .of (ac141 evclonep_T_ok (Nat.le_of_ble_eq_true rfl) ?_)
  simp -implicitDefEqProofs only [cdA, go_sem, Go.Proofs.Tryz.f141, reduceIte, reduceCtorEq, Nat.reduceEqDiff, Nat.reduceAdd, Nat.reduceLeDiff, Nat.reduceSub, Nat.reduceMul, Nat.reduceLT, Nat.reduceShiftRight, Nat.reduceMod, Int.reduceLE, Int.reduceLT, Int.reduceToNat, List.cons.injEq, cdB]
  exact fun b hb => ⟨hb, fun _ => ⟨by omega, _, _, _, rfl⟩⟩
@[go_sem] def evclonep_p (l : List Ev) : Prop := (l.length ≤ 1000000)
def sp_evclonep : List D → Option (Prop × D × Fr)
  | [.c (.sl z312)] => some (z312 = evs (devs z312) ∧ evclonep_p (devs z312), evclonep_r (devs z312), [])
  | _ => none
attribute [go_sem] sp_evclonep
theorem sp_evclonep_ok : ∀ rs p r fr, sp_evclonep rs = some (p, r, fr) → p → FnOk Tryz.prog 141 rs r fr := by
  intro rs p r fr h hp
  unfold sp_evclonep at h
  split at h <;> cases h
  obtain ⟨hc0, hp⟩ := hp
  rename_i z312
  obtain ⟨z312, rfl⟩ : ∃ m, z312 = evs m := ⟨_, hc0⟩
  simp only [devs_evs]
  simp only [devs_evs, evclonep_p] at hp
  exact evclonep_ok z312 hp
def smallW (w : Wl) : Prop := w.c.length ≤ 1000000 ∧ (∀ c ∈ w.c, c.holds.length ≤ 1000000) ∧ w.w.length ≤ 1000000 ∧ w.i.length ≤ 1000000 ∧ w.p.length ≤ 1000000 ∧ w.f.l.length ≤ 1000000
@[go_sem] def wown_r (w : Wl) : D := .agg [.sl (chs w.c), .sl (wts w.w), .sl (ivs w.i), .sl (pys w.p), .int .u64 w.f.next, .sl (evs w.f.l), .int .u64 w.next, .int .u64 w.tick]
@[go_sem] abbrev n_wown : FuncId := 86
@[go_sem] def wown_T : Tab := [(142, sp_cclone), (140, sp_hclone), (143, sp_wtclone), (144, sp_ivclone), (74, sp_pyclone), (141, sp_evclonep)]
theorem wown_T_ok : TabOk Tryz.prog wown_T := (TabOk.cons sp_cclone_ok (TabOk.cons sp_hclone_ok (TabOk.cons sp_wtclone_ok (TabOk.cons sp_ivclone_ok (TabOk.cons sp_pyclone_ok (TabOk.cons sp_evclonep_ok TabOk.nil))))))
set_option maxRecDepth 8000 in
set_option maxHeartbeats 1000000 in
theorem wown_ok (w : Wl) (h : smallW w) : PureFn Tryz.prog 86 [.agg [.sl (chs w.c), .sl (wts w.w), .sl (ivs w.i), .sl (pys w.p), .c (.int .u64 (w.f.next : Int)), .sl (evs w.f.l), .c (.int .u64 (w.next : Int)), .c (.int .u64 (w.tick : Int))]] (wown_r w) := by
  refine .of (ac86 wown_T_ok (Nat.le_of_ble_eq_true rfl) ?_)
  simp -implicitDefEqProofs only [cdA, go_sem, Go.Proofs.Tryz.f86, reduceIte, reduceCtorEq, Nat.reduceEqDiff, Nat.reduceAdd, Nat.reduceLeDiff, Nat.reduceSub, Nat.reduceMul, Nat.reduceLT, Nat.reduceShiftRight, Nat.reduceMod, Int.reduceLE, Int.reduceLT, Int.reduceToNat, List.cons.injEq, cdB]
  refine ADraw.run us86_1 wown_T_ok follows_mixed (by kernel_rfl) (by kernel_rfl) ?_
  simp -implicitDefEqProofs only [cdA, go_sem, reduceIte, reduceCtorEq, Nat.reduceEqDiff, Nat.reduceAdd, Nat.reduceLeDiff, Nat.reduceSub, Nat.reduceMul, Nat.reduceLT, Nat.reduceShiftRight, Nat.reduceMod, Int.reduceLE, Int.reduceLT, Int.reduceToNat, List.cons.injEq, cdB]
  obtain ⟨h1, h2, h3, h4, h5, h6⟩ := h
  refine ⟨h1, h3, h4, h5, h6, fun _ => SWp.loop (ι := { i : Nat // i ≤ w.c.length }) (fun i => ⟨[(1, .ref 0 0), (2, .ref 1 0), (28, .vec 2 w.c.length), (29, .int .i64 w.c.length), (30, .int .i64 i.1)],
    [(2, .vec true 7 67 (chs w.c)), (0, .box [.vec 2 w.c.length, .sl (wts w.w), .sl (ivs w.i), .sl (pys w.p), .c (.int .u64 w.f.next), .sl (evs w.f.l), .c (.int .u64 w.next), .c (.int .u64 w.tick)]),
      (1, .box [.nil, .nil, .nil, .nil, .c (.int .u64 0), .nil, .c (.int .u64 0), .c (.int .u64 0)])], 3⟩) (fun i => w.c.length - i.1) ⟨0, by omega⟩ ?_ ?_⟩
  · simp [go_sem]
  · rintro ⟨i, hi⟩
    refine awp_sound wown_T_ok.toS lv86 _ _ _ rfl ?_
    simp -implicitDefEqProofs only [cdA, go_sem, reduceIte, reduceCtorEq, Nat.reduceEqDiff, Nat.reduceAdd, Nat.reduceLeDiff, Nat.reduceSub, Nat.reduceMul, Nat.reduceLT, Nat.reduceShiftRight, Nat.reduceMod, Int.reduceLE, Int.reduceLT, Int.reduceToNat, List.cons.injEq, cdB]
    refine ⟨fun h7 => ⟨by omega, by omega, ?_⟩, fun _ => ⟨_, _, _, rfl⟩⟩
    have hi' : i < w.c.length := by omega
    have hself : w.c.set i (w.c.getD i default) = w.c := by
      rw [getD_lt hi']; exact List.set_getElem_self hi'
    have hhl := h2 _ (mem_getD.2 ⟨i, hi', rfl⟩)
    refine ADraw.run us86_5 wown_T_ok follows_mixed (by kernel_rfl) (by kernel_rfl) ?_
    simp -implicitDefEqProofs only [cdA, go_sem, reduceIte, reduceCtorEq, Nat.reduceEqDiff, Nat.reduceAdd, Nat.reduceLeDiff, Nat.reduceSub, Nat.reduceMul, Nat.reduceLT, Nat.reduceShiftRight, Nat.reduceMod, Int.reduceLE, Int.reduceLT, Int.reduceToNat, List.cons.injEq, cdB]
    exact ⟨hhl, by omega, hi', ⟨i + 1, hi'⟩, by dsimp only; omega, i64_in _ (by omega), by rw [hself]⟩
@[go_sem] def wown_p (w : Wl) : Prop := (smallW w)
def sp_wown : List D → Option (Prop × D × Fr)
  | [.agg [.c (.sl z314), .c (.sl z315), .c (.sl z316), .c (.sl z317), .c (.int .u64 z319), .c (.sl z320), .c (.int .u64 z321), .c (.int .u64 z322)]] => some (z314 = chs (dchs z314) ∧ z315 = wts (dwts z315) ∧ z316 = ivs (divs z316) ∧ z317 = pys (dpys z317) ∧ z319 = (z319.toNat : Int) ∧ z320 = evs (devs z320) ∧ z321 = (z321.toNat : Int) ∧ z322 = (z322.toNat : Int) ∧ wown_p (⟨(dchs z314), (dwts z315), (divs z316), (dpys z317), (⟨z319.toNat, (devs z320)⟩ : Fd), z321.toNat, z322.toNat⟩ : Wl), wown_r (⟨(dchs z314), (dwts z315), (divs z316), (dpys z317), (⟨z319.toNat, (devs z320)⟩ : Fd), z321.toNat, z322.toNat⟩ : Wl), [])
  | _ => none
attribute [go_sem] sp_wown
theorem sp_wown_ok : ∀ rs p r fr, sp_wown rs = some (p, r, fr) → p → FnOk Tryz.prog 86 rs r fr := by
  intro rs p r fr h hp
  unfold sp_wown at h
  split at h <;> cases h
  obtain ⟨hc0, hc1, hc2, hc3, hc4, hc5, hc6, hc7, hp⟩ := hp
  rename_i z314 z315 z316 z317 z319 z320 z321 z322
  obtain ⟨z314, rfl⟩ : ∃ m, z314 = chs m := ⟨_, hc0⟩
  obtain ⟨z315, rfl⟩ : ∃ m, z315 = wts m := ⟨_, hc1⟩
  obtain ⟨z316, rfl⟩ : ∃ m, z316 = ivs m := ⟨_, hc2⟩
  obtain ⟨z317, rfl⟩ : ∃ m, z317 = pys m := ⟨_, hc3⟩
  obtain ⟨z319, rfl⟩ : ∃ m : Nat, z319 = m := ⟨_, hc4⟩
  obtain ⟨z320, rfl⟩ : ∃ m, z320 = evs m := ⟨_, hc5⟩
  obtain ⟨z321, rfl⟩ : ∃ m : Nat, z321 = m := ⟨_, hc6⟩
  obtain ⟨z322, rfl⟩ : ∃ m : Nat, z322 = m := ⟨_, hc7⟩
  simp only [Int.toNat_natCast, dchs_chs, devs_evs, divs_ivs, dpys_pys, dwts_wts]
  simp only [Int.toNat_natCast, dchs_chs, devs_evs, divs_ivs, dpys_pys, dwts_wts, wown_p] at hp
  exact wown_ok ⟨z314, z315, z316, z317, ⟨z319, z320⟩, z321, z322⟩ hp
end Dm
namespace Dm
open Go Go.Proofs Go.IntWalk
@[go_sem] def hins_T2 : Tab := [ovk 178]
theorem hins_T2_ok : TabOk Tryz.prog hins_T2 := .cons (ov_ok 178) .nil
@[go_sem] def hins_T3 : Tab := [fg 12]
theorem hins_T3_ok : TabOk Tryz.prog hins_T3 := .cons (fg_ok 12) .nil
theorem hins_wide (l : List Hd) : Wide 2 (hds l) := of_eq_true (hds_wide l)
set_option maxRecDepth 8000 in
set_option maxHeartbeats 1000000 in
theorem hins_ok (l : List Hd) (x : Hd) (i : Nat) (hi : i ≤ l.length) (hl : l.length ≤ 1000000) :
    ACall Tryz.prog 139 [.vec 0 l.length, .int .i64 i, .vec 1 1] [(1, .vec true 2 151 (hds [x])), (0, .vec true 2 151 (hds l))] 2 fun d os _ => Grown 2 151 (hds (Srt.ins l i x)) d os := by
  have hil : (Srt.ins l i x).length = l.length + 1 := Srt.ins_len
  have hq : ∀ j os, lk j os = some (.vec true 2 151 (hds (Srt.ins l i x))) → Grown 2 151 (hds (Srt.ins l i x)) (.vec j (l.length + 1)) os := fun j os h => ⟨j, by rw [hds_length, hil], h⟩
  by_cases hin : i = l.length
  · refine ac139 hins_T3_ok (Nat.le_of_ble_eq_true rfl) ?_
    have e4 : ((1 : Int) = 0) = False := eq_false (by decide)
    subst hin
    simp -implicitDefEqProofs only [cdA, go_sem, Go.Proofs.Tryz.f139, e4, decide_true, reduceIte, reduceCtorEq, Nat.reduceEqDiff, Nat.reduceAdd, Nat.reduceLeDiff, Nat.reduceSub, Nat.reduceMul, Nat.reduceLT, Nat.reduceShiftRight, Nat.reduceMod, Int.reduceLE, Int.reduceLT, Int.reduceToNat, List.cons.injEq, cdB]
    refine ⟨Int.le_refl _, fun h => h.elim, fun _ => ⟨by omega, hq _ _ ?_⟩⟩
    rw [lk_cons, if_neg (by decide), lk_hd]
    simp [Srt.ins]
  · have hlt : i < l.length := by omega
    refine ACall.opn 0 rfl (by rw [hds_length]; omega) fun c hc hcm => ?_
    refine ACall.sld ?_
    rw [hds_length] at hc
    refine ac139 hins_T2_ok (Nat.le_of_ble_eq_true rfl) ?_
    have e1 : IntKind.i64.wrap ((l.length : Int) + 1) = ((l.length + 1 : Nat) : Int) := by rw [i64_in _ (by omega)]; omega
    have e2 : IntKind.i64.wrap ((i : Int) + 1) = ((i + 1 : Nat) : Int) := by rw [i64_in _ (by omega)]; omega
    have e3 : ((i : Int) = (l.length : Int)) = False := eq_false (by omega)
    have e4 : ((1 : Int) = 0) = False := eq_false (by decide)
    have e5 : IntKind.i64.wrap ((l.length : Int) + 1 - (i : Int)) = ((l.length + 1 - i : Nat) : Int) := by rw [i64_in _ (by omega)]; omega
    have e6 : ((l.length : Int) + 1).toNat = l.length + 1 := by omega
    have e7 : ((i : Int) + 1).toNat = i + 1 := by omega
    have e8 : i + (l.length + 1 - i) = l.length + 1 := by omega
    simp -implicitDefEqProofs only [cdA, go_sem, Go.Proofs.Tryz.f139, e3, e4, e1, e2, e5, e6, e7, e8, decide_false, reduceIte, reduceCtorEq, Nat.reduceEqDiff, Nat.reduceAdd, Nat.reduceLeDiff, Nat.reduceSub, Nat.reduceMul, Nat.reduceLT, Nat.reduceShiftRight, Nat.reduceMod, Int.reduceLE, Int.reduceLT, Int.reduceToNat, List.cons.injEq, cdB]
    refine ⟨by omega, fun _ => ⟨fun h1 => ⟨by omega, by omega, fun c1 h2 h3 => ⟨by omega, ?_⟩⟩, fun h1 => ⟨by omega, by omega, ?_, ?_⟩⟩⟩
    · refine ADraw.run us139_11 hins_T2_ok follows_mixed (by kernel_rfl) (by kernel_rfl) ?_
      simp -implicitDefEqProofs only [cdA, go_sem, e1, e2, e5, e6, e7, e8, reduceIte, reduceCtorEq, Nat.reduceEqDiff, Nat.reduceAdd, Nat.reduceLeDiff, Nat.reduceSub, Nat.reduceMul, Nat.reduceLT, Nat.reduceShiftRight, Nat.reduceMod, Int.reduceLE, Int.reduceLT, Int.reduceToNat, List.cons.injEq, cdB]
      refine ⟨by omega, by omega, fun y hy => fit_wide (hins_wide l) y (List.mem_of_mem_take (List.mem_of_mem_drop hy)), ?_⟩
      have := ins_new (sz := 2) (c := c) (c1 := c1) (i := i) (E := hds l) (x := x.enc) (z := [C.int .u64 0, C.int .u64 0]) (by rw [hds_length]; exact hlt) (by rw [hds_length]; exact hc) (by rw [hds_length]; exact h2)
      rw [hds_length] at this
      refine hq _ _ ?_
      rw [lk_hd]
      congr 2
      rw [show hds (List.take (l.length + 1 - i) [x]) = List.take (l.length + 1 - i) [x.enc] by simp [hds], this]
      simp [hds, Srt.ins]
    · exact ⟨_, 65, 4, _, rfl, rfl, rfl, rfl, by kernel_rfl, elOf_65⟩
    · refine ADraw.run us139_15 hins_T2_ok follows_mixed (by kernel_rfl) (by kernel_rfl) ?_
      simp -implicitDefEqProofs only [cdA, go_sem, e1, e2, e5, e6, e7, e8, reduceIte, reduceCtorEq, Nat.reduceEqDiff, Nat.reduceAdd, Nat.reduceLeDiff, Nat.reduceSub, Nat.reduceMul, Nat.reduceLT, Nat.reduceShiftRight, Nat.reduceMod, Int.reduceLE, Int.reduceLT, Int.reduceToNat, List.cons.injEq, cdB]
      refine ⟨by omega, by omega, fun y hy => fit_wide (hins_wide l) y (List.mem_of_mem_take (List.mem_of_mem_drop hy)), by omega, ?_⟩
      have := ins_old (sz := 2) (c := c) (i := i) (E := hds l) (x := x.enc) (by rw [hds_length]; exact hlt) (by rw [hds_length]; omega)
      rw [hds_length] at this
      refine hq _ _ ?_
      rw [lk_hd]
      congr 2
      rw [show hds (List.take (l.length + 1 - i) [x]) = List.take (l.length + 1 - i) [x.enc] by simp [hds], this]
      simp [hds, Srt.ins]

@[go_sem] def hclonef_r (l : List Hd) : D := .vec 0 l.length
@[go_sem] def hclonef_fr (l : List Hd) : Fr := [(2, 151, true, hds l)]
@[go_sem] abbrev n_hclonef : FuncId := 140
@[go_sem] def hclonef_T : Tab := []
theorem hclonef_T_ok : TabOk Tryz.prog hclonef_T := TabOk.nil
set_option maxRecDepth 8000 in
set_option maxHeartbeats 1000000 in
theorem hclonef_ok (l : List Hd) (hl : l.length ≤ 1000000) : FreshFn Tryz.prog 140 [.sl (hds l)] (hclonef_r l) (hclonef_fr l) := by
  refine .of (ac140 hclonef_T_ok (Nat.le_of_ble_eq_true rfl) ?_)
  simp -implicitDefEqProofs only [cdA, go_sem, Go.Proofs.Tryz.f140, reduceIte, reduceCtorEq, Nat.reduceEqDiff, Nat.reduceAdd, Nat.reduceLeDiff, Nat.reduceSub, Nat.reduceMul, Nat.reduceLT, Nat.reduceShiftRight, Nat.reduceMod, Int.reduceLE, Int.reduceLT, Int.reduceToNat, List.cons.injEq, cdB]
  refine fun b hb => ⟨fun h => ?_, fun h => ?_⟩
  · exact ⟨[none], by simp [go_sem, hb h], by cases l <;> simp_all [go_sem, hds]⟩
  · exact ⟨by omega, [some 0], by simp [go_sem]⟩
@[go_sem] def hclonef_p (l : List Hd) : Prop := (l.length ≤ 1000000)
def sp_hclonef : List D → Option (Prop × D × Fr)
  | [.c (.sl z186)] => some (z186 = hds (dhds z186) ∧ hclonef_p (dhds z186), hclonef_r (dhds z186), hclonef_fr (dhds z186))
  | _ => none
attribute [go_sem] sp_hclonef
theorem sp_hclonef_ok : ∀ rs p r fr, sp_hclonef rs = some (p, r, fr) → p → FnOk Tryz.prog 140 rs r fr := by
  intro rs p r fr h hp
  unfold sp_hclonef at h
  split at h <;> cases h
  obtain ⟨hc0, hp⟩ := hp
  rename_i z186
  obtain ⟨z186, rfl⟩ : ∃ m, z186 = hds m := ⟨_, hc0⟩
  simp only [dhds_hds]
  simp only [dhds_hds, hclonef_p] at hp
  exact (show FnOk _ _ _ _ _ from And.intro rfl (hclonef_ok z186 hp))
def bsH (l : List Hd) (id : Nat) (i j : Nat) : Nat :=
  if h : i < j then (if (l.getD ((i + j) / 2) default).id < id then bsH l id ((i + j) / 2 + 1) j else bsH l id i ((i + j) / 2)) else i
termination_by j - i
decreasing_by all_goals omega
theorem bsH_pos {l : List Hd} {id : Nat} (hu : Srt.Up Hd.key ltN l) : ∀ (m i j : Nat), j - i ≤ m → i ≤ j → j ≤ l.length → (∀ k, k < i → (l.getD k default).id < id) → (∀ k, j ≤ k → k < l.length → ¬ (l.getD k default).id < id) → bsH l id i j = Srt.pos Hd.key ltN l id := by
  intro m
  induction m with
  | zero =>
    intro i j hm hij hj hlo hup
    rw [bsH, dif_neg (by omega)]
    exact (Srt.pos_eq (by omega) hlo (fun h => hup i (by omega) h)).symm
  | succ m ih =>
    intro i j hm hij hj hlo hup
    rw [bsH]
    split
    · rename_i hlt
      have hup2 := Srt.up_get.1 hu
      split
      · rename_i h5
        refine ih _ _ (by omega) (by omega) hj (fun k hk => ?_) hup
        by_cases hkm : k = (i + j) / 2
        · rw [hkm]; exact h5
        · have := hup2 k ((i + j) / 2) (by omega) (by omega)
          simp only [ltN, Hd.key] at this; omega
      · rename_i h5
        refine ih _ _ (by omega) (by omega) (by omega) hlo (fun k hk1 hk2 => ?_)
        by_cases hkm : k = (i + j) / 2
        · rw [hkm]; exact h5
        · have := hup2 ((i + j) / 2) k (by omega) (by omega)
          simp only [ltN, Hd.key] at this; omega
    · exact (Srt.pos_eq (by omega) hlo (fun h => hup i (by omega) h)).symm
def holdE (c : Ch) (id n : Nat) : Int :=
  if ¬ okCh c ∨ n = 0 ∨ ¬ n ≤ MM then 1 else if c.op = false then 14 else if Srt.thr Hd.key ltN c.holds id = true then 6 else if c.holds.length = 64 then 7 else if c.loc < c.res ∨ c.loc - c.res < n then 9 else if c.most - held c.holds < n then 8 else 0
def holdC (c : Ch) (id n : Nat) : Ch × Int := if holdE c id n = 0 then (⟨c.id, c.loc - n, c.rem, c.res, c.most, Srt.ins c.holds (Srt.pos Hd.key ltN c.holds id) ⟨id, n⟩, c.op⟩, 0) else (default, holdE c id n)
@[go_sem] def chold_r (c : Ch) (id : Nat) (n : Nat) : D := .tup [.agg [.int .u64 (holdC c id n).1.id, .int .u64 (holdC c id n).1.loc, .int .u64 (holdC c id n).1.rem, .int .u64 (holdC c id n).1.res, .int .u64 (holdC c id n).1.most, .sl (hds (holdC c id n).1.holds), .bool (holdC c id n).1.op], .int .i64 (holdC c id n).2]
@[go_sem] abbrev n_chold : FuncId := 82
@[go_sem] def chold_T : Tab := [(88, sp_csums), (29, sp_moncheck), (140, sp_hclonef), (138, sp_horder)]
theorem chold_T_ok : TabOk Tryz.prog chold_T := (TabOk.cons sp_csums_ok (TabOk.cons sp_moncheck_ok (TabOk.cons sp_hclonef_ok (TabOk.cons sp_horder_ok TabOk.nil))))
set_option maxRecDepth 8000 in
set_option maxHeartbeats 1000000 in
theorem chold_ok (c : Ch) (id : Nat) (n : Nat)  : PureFn Tryz.prog 82 [.agg [.c (.int .u64 (c.id : Int)), .c (.int .u64 (c.loc : Int)), .c (.int .u64 (c.rem : Int)), .c (.int .u64 (c.res : Int)), .c (.int .u64 (c.most : Int)), .sl (hds c.holds), .c (.bool c.op)], .c (.int .u64 (id : Int)), .c (.int .u64 (n : Int))] (chold_r c id n) := by
  refine .of (ac82 chold_T_ok (Nat.le_of_ble_eq_true rfl) ?_)
  simp -implicitDefEqProofs only [cdA, go_sem, Go.Proofs.Tryz.f82, reduceIte, reduceCtorEq, Nat.reduceEqDiff, Nat.reduceAdd, Nat.reduceLeDiff, Nat.reduceSub, Nat.reduceMul, Nat.reduceLT, Nat.reduceShiftRight, Nat.reduceMod, Int.reduceLE, Int.reduceLT, Int.reduceToNat, List.cons.injEq, cdB]
  refine ac137 chold_T_ok (Nat.le_of_ble_eq_true rfl) ?_
  simp -implicitDefEqProofs only [cdA, go_sem, Go.Proofs.Tryz.f137, reduceIte, reduceCtorEq, Nat.reduceEqDiff, Nat.reduceAdd, Nat.reduceLeDiff, Nat.reduceSub, Nat.reduceMul, Nat.reduceLT, Nat.reduceShiftRight, Nat.reduceMod, Int.reduceLE, Int.reduceLT, Int.reduceToNat, List.cons.injEq, cdB]
  refine fun _ => SWp.loop (ι := { x : Nat × Nat // x.1 ≤ x.2 ∧ x.2 ≤ c.holds.length ∧ bsH c.holds id x.1 x.2 = bsH c.holds id 0 c.holds.length }) (fun x => ⟨[(0, .sl (hds c.holds)), (1, .int .u64 id), (2, .fn (.func 138) [] []), (8, .int .i64 c.holds.length), (9, .int .i64 x.1.1), (10, .int .i64 x.1.2)], [(0, .box [.int .u64 c.id, .int .u64 c.loc, .int .u64 c.rem, .int .u64 c.res, .int .u64 c.most, .sl (hds c.holds), .bool c.op]), (1, .box [.int .u64 0, .int .u64 0, .int .u64 0, .int .u64 0, .int .u64 0, .nil, .bool false])], 2⟩) (fun x => x.1.2 - x.1.1) ⟨(0, c.holds.length), by simp⟩ ?_ ?_
  · simp [go_sem]
  · rintro ⟨⟨i, j⟩, hij, hj, hb⟩
    dsimp only at hij hj hb
    refine awp_sound chold_T_ok.toS lv137 _ _ _ rfl ?_
    simp -implicitDefEqProofs only [cdA, go_sem, reduceIte, reduceCtorEq, Nat.reduceEqDiff, Nat.reduceAdd, Nat.reduceLeDiff, Nat.reduceSub, Nat.reduceMul, Nat.reduceLT, Nat.reduceShiftRight, Nat.reduceMod, Int.reduceLE, Int.reduceLT, Int.reduceToNat, List.cons.injEq, cdB]
    rw [mid_eq hij hj ‹_›]
    have hbad : ∀ k, holdE c id n = k → ¬ k = 0 → (0 = ((holdC c id n).1.id : Int) ∧ 0 = ((holdC c id n).1.loc : Int) ∧ 0 = ((holdC c id n).1.rem : Int) ∧ 0 = ((holdC c id n).1.res : Int) ∧ 0 = ((holdC c id n).1.most : Int) ∧ hds (holdC c id n).1.holds = [] ∧ false = (holdC c id n).1.op) ∧ k = (holdC c id n).2 := fun k hk h0 => by
      have : holdC c id n = (default, k) := by rw [holdC, if_neg (by rw [hk]; exact h0), hk]
      rw [this]; exact ⟨⟨rfl, rfl, rfl, rfl, rfl, rfl, rfl⟩, rfl⟩
    refine ⟨fun h4 => ?_, fun h4 => ?_⟩
    · have hm : (i + j) / 2 < c.holds.length := by omega
      rw [bsH, dif_pos (by omega)] at hb
      rw [cmpS_neg, Int.toNat_natCast]
      refine ⟨⟨by omega, by omega⟩, fun h5 => ?_, fun h5 => ?_⟩
      · rw [if_pos (by omega)] at hb
        exact ⟨⟨((i + j) / 2 + 1, j), by dsimp only; omega, hj, hb⟩, by dsimp only; omega, i64_in _ (by omega), rfl⟩
      · rw [if_neg (by omega)] at hb
        exact ⟨⟨(i, (i + j) / 2), by dsimp only; omega, by dsimp only; omega, hb⟩, by dsimp only; omega, rfl, rfl⟩
    · rw [bsH, dif_neg (by omega)] at hb
      have hok : (sumsC c).2.2 = 0 ↔ okCh c := sumsC_0
      have hpos : okCh c → Srt.pos Hd.key ltN c.holds id = i := fun h => by
        rw [hb]
        exact (bsH_pos ((Srt.chn_up (lt := ltN) Srt.totNat).1 h.2.2.2.2.2.1) _ 0 c.holds.length (Nat.le_refl _) (by omega) (Nat.le_refl _) (fun k hk => absurd hk (by omega)) (fun k h1 h2 => by omega)).symm
      rw [hok]
      have hthr : okCh c → Srt.thr Hd.key ltN c.holds id = decide (i < c.holds.length ∧ (c.holds.getD i default).id = id) := fun h => by rw [Srt.thr, hpos h]; rfl
      have hmon : monS [n] = 0 ↔ n ≤ MM := mon1_0
      have e1 : ∀ h : okCh c, (sumsC c).1 = held c.holds := fun h => by rw [sumsC, if_pos h]
      refine ⟨fun h6 => ⟨h6, fun ho => ⟨fun hn => ⟨fun hm => ⟨fun hop => ⟨fun ht => hbad 6 ?_ (by decide), fun ht _ => ⟨fun h64 => hbad 7 ?_ (by decide), fun h64 => ⟨fun hl => ⟨fun hx => hbad 9 ?_ (by decide), fun hx => ⟨fun hy => hbad 8 ?_ (by decide), fun hy => ⟨by have := ho.2.2.1; omega, ?_⟩⟩⟩, fun hl => hbad 9 ?_ (by decide)⟩⟩⟩, fun hop => hbad 14 ?_ (by decide)⟩, fun hm => hbad 1 ?_ (by decide)⟩, fun hn => hbad 1 ?_ (by decide)⟩, fun ho => hbad 1 ?_ (by decide)⟩,
        fun h6 => ⟨fun ho => ⟨fun hn => ⟨fun hm => ⟨fun hop _ => ⟨fun h64 => hbad 7 ?_ (by decide), fun h64 => ⟨fun hl => ⟨fun hx => hbad 9 ?_ (by decide), fun hx => ⟨fun hy => hbad 8 ?_ (by decide), fun hy => ⟨by have := ho.2.2.1; omega, ?_⟩⟩⟩, fun hl => hbad 9 ?_ (by decide)⟩⟩, fun hop => hbad 14 ?_ (by decide)⟩, fun hm => hbad 1 ?_ (by decide)⟩, fun hn => hbad 1 ?_ (by decide)⟩, fun ho => hbad 1 ?_ (by decide)⟩⟩
      all_goals first | (unfold holdE; rw [if_pos (.inl ho)]; done) | skip
      all_goals first | (unfold holdE; rw [if_pos (.inr (.inl (by omega)))]; done) | skip
      all_goals first | (unfold holdE; rw [if_pos (.inr (.inr fun h => hm (hmon.2 h)))]; done) | skip
      all_goals
        have hA : ¬ (¬ okCh c ∨ n = 0 ∨ ¬ n ≤ MM) := by
          rintro (h | h | h)
          · exact h ho
          · exact hn (by omega)
          · exact h (hmon.1 hm)
        have q4 : held c.holds ≤ c.most := ho.2.2.2.2.2.2.1
        have q2 : c.most ≤ MM := ho.2.1
        have q3 : c.loc ≤ MM := ho.2.2.2.2.2.2.2.1
        have e2 := e1 ho
        unfold MM at q2 q3
      all_goals first | (unfold holdE; rw [if_neg hA, if_pos (by simpa using hop)]; done) | skip
      all_goals have hop' : ¬ c.op = false := by rw [hop]; decide
      all_goals first
        | (unfold holdE; rw [if_neg hA, if_neg hop', if_pos (by rw [hthr ho]; exact decide_eq_true ⟨by omega, by have := cmpS_0.1 ht; omega⟩)]; done)
        | skip
      all_goals
        have ht' : ¬ Srt.thr Hd.key ltN c.holds id = true := by
          rw [hthr ho, decide_eq_true_eq]
          rintro ⟨h1, h2⟩
          first | exact ht (cmpS_0.2 (by omega)) | omega
      all_goals first
        | (unfold holdE; rw [if_neg hA, if_neg hop', if_neg ht', if_pos (by omega)]; done)
        | skip
      all_goals have h64' : ¬ c.holds.length = 64 := by omega
      all_goals first
        | (unfold holdE; rw [if_neg hA, if_neg hop', if_neg ht', if_neg h64', if_pos (.inl (by omega))]; done)
        | (rw [u64_in ((c.loc : Int) - _) (by omega)] at hx; unfold holdE; rw [if_neg hA, if_neg hop', if_neg ht', if_neg h64', if_pos (by omega)]; done)
        | skip
      all_goals
        rw [u64_in ((c.loc : Int) - _) (by omega)] at hx
        have h9' : ¬ (c.loc < c.res ∨ c.loc - c.res < n) := by omega
        rw [e2, u64_in ((c.most : Int) - _) (by omega)] at hy
      all_goals first
        | (unfold holdE; rw [if_neg hA, if_neg hop', if_neg ht', if_neg h64', if_neg h9', if_pos (by omega)]; done)
        | skip
      all_goals
        have h0 : holdE c id n = 0 := by unfold holdE; rw [if_neg hA, if_neg hop', if_neg ht', if_neg h64', if_neg h9', if_neg (by omega)]
        have h20 := ho.2.2.1
        refine ACall.grow (mid := [.int .i64 _]) (hins_ok c.holds ⟨id, n⟩ i (by omega) (by omega)) rfl rfl (by decide) (by simp [Srt.ins_len]) (fun d hd g g' w v hv => ?_) ?_
      all_goals first
        | (simp at hd; subst hd
           cases hv with
           | c _ _ h => cases h; exact .c _ _ (.int _ _))
        | skip
      all_goals
        simp -implicitDefEqProofs only [cdA, go_sem, reduceIte, reduceCtorEq, Nat.reduceEqDiff, Nat.reduceAdd, Nat.reduceLeDiff, Nat.reduceSub, Nat.reduceMul, Nat.reduceLT, Nat.reduceShiftRight, Nat.reduceMod, Int.reduceLE, Int.reduceLT, Int.reduceToNat, List.cons.injEq, cdB]
        rw [holdC, if_pos h0, hpos ho, u64_in ((c.loc : Int) - _) (by omega)]
        exact ⟨⟨rfl, by dsimp only; omega, rfl, rfl, rfl, ⟨rfl, _, _, _, rfl⟩, rfl⟩, rfl⟩
def sp_chold : List D → Option (Prop × D × Fr)
  | [.agg [.c (.int .u64 z188), .c (.int .u64 z189), .c (.int .u64 z190), .c (.int .u64 z191), .c (.int .u64 z192), .c (.sl z193), .c (.bool z194)], .c (.int .u64 z195), .c (.int .u64 z196)] => some (z188 = (z188.toNat : Int) ∧ z189 = (z189.toNat : Int) ∧ z190 = (z190.toNat : Int) ∧ z191 = (z191.toNat : Int) ∧ z192 = (z192.toNat : Int) ∧ z193 = hds (dhds z193) ∧ z195 = (z195.toNat : Int) ∧ z196 = (z196.toNat : Int), chold_r (⟨z188.toNat, z189.toNat, z190.toNat, z191.toNat, z192.toNat, (dhds z193), z194⟩ : Ch) z195.toNat z196.toNat, [])
  | _ => none
attribute [go_sem] sp_chold
theorem sp_chold_ok : ∀ rs p r fr, sp_chold rs = some (p, r, fr) → p → FnOk Tryz.prog 82 rs r fr := by
  intro rs p r fr h hp
  unfold sp_chold at h
  split at h <;> cases h
  obtain ⟨hc0, hc1, hc2, hc3, hc4, hc5, hc6, hc7⟩ := hp
  rename_i z188 z189 z190 z191 z192 z193 z194 z195 z196
  obtain ⟨z188, rfl⟩ : ∃ m : Nat, z188 = m := ⟨_, hc0⟩
  obtain ⟨z189, rfl⟩ : ∃ m : Nat, z189 = m := ⟨_, hc1⟩
  obtain ⟨z190, rfl⟩ : ∃ m : Nat, z190 = m := ⟨_, hc2⟩
  obtain ⟨z191, rfl⟩ : ∃ m : Nat, z191 = m := ⟨_, hc3⟩
  obtain ⟨z192, rfl⟩ : ∃ m : Nat, z192 = m := ⟨_, hc4⟩
  obtain ⟨z193, rfl⟩ : ∃ m, z193 = hds m := ⟨_, hc5⟩
  obtain ⟨z195, rfl⟩ : ∃ m : Nat, z195 = m := ⟨_, hc6⟩
  obtain ⟨z196, rfl⟩ : ∃ m : Nat, z196 = m := ⟨_, hc7⟩
  simp only [Int.toNat_natCast, dhds_hds]
  exact chold_ok ⟨z188, z189, z190, z191, z192, z193, z194⟩ z195 z196
end Dm
namespace Dm
open Go Go.Proofs Go.IntWalk
def lholdL (l : List Ch) (id h n : Nat) : List Ch × Int :=
  if okLd l then (if Srt.thr Ch.id ltN l id = true then (if (whereI l h).2 = 0 then ([], 6) else if holdE (l.getD (Srt.pos Ch.id ltN l id) default) h n = 0 then (l.set (Srt.pos Ch.id ltN l id) (holdC (l.getD (Srt.pos Ch.id ltN l id) default) h n).1, 0) else ([], holdE (l.getD (Srt.pos Ch.id ltN l id) default) h n)) else ([], 5)) else ([], 1)
theorem holdC_2 {c : Ch} {id n : Nat} : (holdC c id n).2 = holdE c id n := by
  unfold holdC
  split
  · rename_i h; exact h.symm
  · rfl
@[go_sem] def lhold_r (l : List Ch) (id : Nat) (h : Nat) (n : Nat) : D := .tup [.sl (chs (lholdL l id h n).1), .int .i64 (lholdL l id h n).2]
@[go_sem] abbrev n_lhold : FuncId := 40
@[go_sem] def lhold_T : Tab := [(136, sp_place), (81, sp_lwhere), (82, sp_chold), (123, sp_owns)]
theorem lhold_T_ok : TabOk Tryz.prog lhold_T := (TabOk.cons sp_place_ok (TabOk.cons sp_lwhere_ok (TabOk.cons sp_chold_ok (TabOk.cons sp_owns_ok TabOk.nil))))
set_option maxRecDepth 8000 in
set_option maxHeartbeats 1000000 in
theorem lhold_ok (l : List Ch) (id : Nat) (h : Nat) (n : Nat)  : PureFn Tryz.prog 40 [.sl (chs l), .c (.int .u64 (id : Int)), .c (.int .u64 (h : Int)), .c (.int .u64 (n : Int))] (lhold_r l id h n) := by
  refine .of (ac40 lhold_T_ok (Nat.le_of_ble_eq_true rfl) ?_)
  simp -implicitDefEqProofs only [cdA, go_sem, Go.Proofs.Tryz.f40, reduceIte, reduceCtorEq, Nat.reduceEqDiff, Nat.reduceAdd, Nat.reduceLeDiff, Nat.reduceSub, Nat.reduceMul, Nat.reduceLT, Nat.reduceShiftRight, Nat.reduceMod, Int.reduceLE, Int.reduceLT, Int.reduceToNat, List.cons.injEq, cdB]
  refine ac79 lhold_T_ok (Nat.le_of_ble_eq_true rfl) ?_
  simp -implicitDefEqProofs only [cdA, go_sem, Go.Proofs.Tryz.f79, reduceIte, reduceCtorEq, Nat.reduceEqDiff, Nat.reduceAdd, Nat.reduceLeDiff, Nat.reduceSub, Nat.reduceMul, Nat.reduceLT, Nat.reduceShiftRight, Nat.reduceMod, Int.reduceLE, Int.reduceLT, Int.reduceToNat, List.cons.injEq, cdB]
  by_cases hok : okLd l
  · by_cases ht : Srt.thr Ch.id ltN l id = true
    · have e1 : placeL l id = (((Srt.pos Ch.id ltN l id : Nat) : Int), 0) := by rw [placeL, if_pos hok, if_pos ht]
      have hp : Srt.pos Ch.id ltN l id < l.length := by
        unfold Srt.thr at ht
        exact (of_decide_eq_true ht).1
      rw [e1, Int.toNat_natCast, lholdL, if_pos hok, if_pos ht]
      refine ⟨fun _ => ⟨⟨by omega, by omega⟩, ?_⟩, fun h => absurd rfl h⟩
      refine ac80 lhold_T_ok (Nat.le_of_ble_eq_true rfl) ?_
      simp -implicitDefEqProofs only [cdA, go_sem, Go.Proofs.Tryz.f80, reduceIte, reduceCtorEq, Nat.reduceEqDiff, Nat.reduceAdd, Nat.reduceLeDiff, Nat.reduceSub, Nat.reduceMul, Nat.reduceLT, Nat.reduceShiftRight, Nat.reduceMod, Int.reduceLE, Int.reduceLT, Int.reduceToNat, List.cons.injEq, cdB]
      have h32 : l.length ≤ 1000000 ∧ ∀ c ∈ l, c.holds.length ≤ 1000000 := ⟨by have := hok.1; omega, fun c hc => by have := (hok.2.1 c hc).2.2.1; omega⟩
      refine ⟨fun hw => ⟨fun h6 => absurd h6 (by decide), fun _ => ?_⟩, fun hw => ⟨fun h0 => ?_, fun h0 => ?_⟩⟩
      · rw [if_pos hw]; exact ⟨rfl, rfl⟩
      · rw [holdC_2] at h0
        rw [if_neg hw, if_pos h0]
        exact ⟨h32, by omega, hp, ⟨by simp, _, _, _, rfl⟩, rfl⟩
      · rw [holdC_2] at h0 ⊢
        rw [if_neg hw, if_neg h0]
        exact ⟨rfl, rfl⟩
    · have e1 : placeL l id = (0, 5) := by rw [placeL, if_pos hok, if_neg ht]
      have e2 : lholdL l id h n = ([], 5) := by rw [lholdL, if_pos hok, if_neg ht]
      rw [e1, e2]
      exact ⟨fun h => absurd h (by decide), fun _ => ⟨rfl, rfl⟩⟩
  · have e1 : placeL l id = (0, 1) := by rw [placeL, if_neg hok]
    have e2 : lholdL l id h n = ([], 1) := by rw [lholdL, if_neg hok]
    rw [e1, e2]
    exact ⟨fun h => absurd h (by decide), fun _ => ⟨rfl, rfl⟩⟩
def sp_lhold : List D → Option (Prop × D × Fr)
  | [.c (.sl z197), .c (.int .u64 z198), .c (.int .u64 z199), .c (.int .u64 z200)] => some (z197 = chs (dchs z197) ∧ z198 = (z198.toNat : Int) ∧ z199 = (z199.toNat : Int) ∧ z200 = (z200.toNat : Int), lhold_r (dchs z197) z198.toNat z199.toNat z200.toNat, [])
  | _ => none
attribute [go_sem] sp_lhold
theorem sp_lhold_ok : ∀ rs p r fr, sp_lhold rs = some (p, r, fr) → p → FnOk Tryz.prog 40 rs r fr := by
  intro rs p r fr h hp
  unfold sp_lhold at h
  split at h <;> cases h
  obtain ⟨hc0, hc1, hc2, hc3⟩ := hp
  rename_i z197 z198 z199 z200
  obtain ⟨z197, rfl⟩ : ∃ m, z197 = chs m := ⟨_, hc0⟩
  obtain ⟨z198, rfl⟩ : ∃ m : Nat, z198 = m := ⟨_, hc1⟩
  obtain ⟨z199, rfl⟩ : ∃ m : Nat, z199 = m := ⟨_, hc2⟩
  obtain ⟨z200, rfl⟩ : ∃ m : Nat, z200 = m := ⟨_, hc3⟩
  simp only [Int.toNat_natCast, dchs_chs]
  exact lhold_ok z197 z198 z199 z200
end Dm
namespace Dm
open Go Go.Proofs Go.IntWalk
theorem hold_perm {l : List Hd} {i : Nat} {x : Hd} : List.Perm (Srt.ins l i x) (x :: l) := Srt.ins_perm
theorem split_at {l : List Ch} {p : Nat} (hp : p < l.length) : l = l.take p ++ l.getD p default :: l.drop (p + 1) := by
  rw [getD_lt hp, List.getElem_cons_drop, List.take_append_drop]
theorem split_set {l : List Ch} {p : Nat} {d : Ch} (hp : p < l.length) : l.set p d = l.take p ++ d :: l.drop (p + 1) := by
  rw [List.set_eq_take_append_cons_drop, if_pos hp]
theorem hidL_set {l : List Ch} {p : Nat} {d : Ch} {x : Hd} (hp : p < l.length) (hd : d.holds.Perm (x :: (l.getD p default).holds)) : (hidL (l.set p d)).Perm (x.id :: hidL l) := by
  conv => rhs; rw [split_at hp]
  rw [split_set hp]
  simp only [hidL, List.flatMap_append, List.flatMap_cons]
  have h1 := hd.map Hd.id
  rw [List.map_cons] at h1
  refine (List.Perm.append_left _ (h1.append_right _)).trans ?_
  exact List.perm_middle
theorem held_ins {l : List Hd} {i : Nat} {x : Hd} : held (Srt.ins l i x) = x.n + held l := by
  unfold held
  rw [((hold_perm (l := l) (i := i) (x := x)).map Hd.n).sum_nat, List.map_cons, List.sum_cons]
theorem totL_set {l : List Ch} {p : Nat} {d : Ch} (hp : p < l.length) (hd : allC d = allC (l.getD p default)) : totL (l.set p d) = totL l := by
  conv => rhs; rw [split_at hp]
  rw [split_set hp]
  simp only [totL, List.map_append, List.map_cons, List.sum_append, List.sum_cons, hd]
theorem hold_okCh {c : Ch} {h n : Nat} (he : holdE c h n = 0) (hok : okCh c) : okCh (holdC c h n).1 ∧ allC (holdC c h n).1 = allC c := by
  have e : holdC c h n = (⟨c.id, c.loc - n, c.rem, c.res, c.most, Srt.ins c.holds (Srt.pos Hd.key ltN c.holds h) ⟨h, n⟩, c.op⟩, 0) := by rw [holdC, if_pos he]
  obtain ⟨o1, o2, o3, o4, o5, o6, o7, o8, o9, o10⟩ := hok
  have hok : okCh c := ⟨o1, o2, o3, o4, o5, o6, o7, o8, o9, o10⟩
  unfold holdE at he
  split at he
  · cases he
  split at he
  · cases he
  split at he
  · cases he
  split at he
  · cases he
  split at he
  · cases he
  split at he
  · cases he
  rename_i h1 h2 h3 h4 h5 h6
  have hn0 : n ≠ 0 := fun h => h1 (.inr (.inl h))
  have h7 := held_ins (l := c.holds) (i := Srt.pos Hd.key ltN c.holds h) (x := ⟨h, n⟩)
  have hu : Srt.Up Hd.key ltN c.holds := (Srt.chn_up (lt := ltN) Srt.totNat).1 o6
  have hle : n ≤ c.loc := by omega
  have hnew : okCh (holdC c h n).1 := by
    rw [e]
    refine ⟨o1, o2, ?_, fun hop => absurd hop h2, fun y hy => ?_, ?_, ?_, ?_, o9, ?_⟩
    · dsimp only; rw [Srt.ins_len]; omega
    · rcases List.mem_cons.1 (hold_perm.mem_iff.1 hy) with rfl | hy
      · exact hn0
      · exact o5 y hy
    · exact (Srt.chn_up (lt := ltN) Srt.totNat).2 (Srt.ins_up (x := (⟨h, n⟩ : Hd)) (Srt.totNat) hu h3)
    · dsimp only; rw [h7]; dsimp only; omega
    · dsimp only; omega
    · dsimp only; rw [h7]; dsimp only; omega
  refine ⟨hnew, ?_⟩
  have a1 : allC c = held c.holds + c.loc + c.rem := by unfold allC sumsC; rw [if_pos hok]
  have a2 : allC (holdC c h n).1 = held (holdC c h n).1.holds + (holdC c h n).1.loc + (holdC c h n).1.rem := by unfold allC sumsC; rw [if_pos hnew]
  rw [a1, a2, e]
  dsimp only
  rw [h7]; dsimp only; omega
theorem where_0 {l : List Ch} {h : Nat} (hok : okLd l) : (whereI l h).2 = 0 ↔ h ∈ hidL l := by
  have hnd : ((hm 0 l).map (·.1)).Nodup := by rw [hm_keys]; exact hok.2.2.2.1
  rw [whereI, if_pos hok]
  constructor
  · cases hx : nlk h (hm 0 l) with
    | none => intro h; cases h
    | some i =>
      intro _
      have := (nlk_some hnd).1 hx
      rw [← hm_keys (s := 0)]
      exact List.mem_map.2 ⟨_, this, rfl⟩
  · intro hh
    rw [← hm_keys (s := 0)] at hh
    obtain ⟨⟨k, a⟩, h1, h2⟩ := List.mem_map.1 hh
    dsimp only at h2
    subst h2
    rw [(nlk_some hnd).2 h1]
end Dm
namespace Dm
open Go Go.Proofs Go.IntWalk
theorem lhold_at {l : List Ch} {id h n : Nat} (h0 : (lholdL l id h n).2 = 0) : okLd l ∧ ∃ c ∈ l, c.id = id ∧ Srt.pos Ch.id ltN l id < l.length ∧ l.getD (Srt.pos Ch.id ltN l id) default = c ∧ h ∉ hidL l ∧ holdE c h n = 0 ∧ lholdL l id h n = (l.set (Srt.pos Ch.id ltN l id) (holdC c h n).1, 0) := by
  by_cases hok : okLd l
  · by_cases ht : Srt.thr Ch.id ltN l id = true
    · by_cases hw : (whereI l h).2 = 0
      · rw [lholdL, if_pos hok, if_pos ht, if_pos hw] at h0; cases h0
      · by_cases he : holdE (l.getD (Srt.pos Ch.id ltN l id) default) h n = 0
        · have h2 := ht
          unfold Srt.thr at h2
          obtain ⟨hp, hpi⟩ := of_decide_eq_true h2
          refine ⟨hok, _, mem_getD.2 ⟨_, hp, rfl⟩, hpi, hp, rfl, fun h => hw ((where_0 hok).2 h), he, ?_⟩
          rw [lholdL, if_pos hok, if_pos ht, if_neg hw, if_pos he]
        · rw [lholdL, if_pos hok, if_pos ht, if_neg hw, if_neg he] at h0; exact absurd h0 he
    · rw [lholdL, if_pos hok, if_neg ht] at h0; cases h0
  · rw [lholdL, if_neg hok] at h0; cases h0
theorem lhold_fine {l : List Ch} {id h n : Nat} (h0 : (lholdL l id h n).2 = 0) : okLd (lholdL l id h n).1 := by
  obtain ⟨hok, c, hc, hid, hp, hcp, hw, he, e⟩ := lhold_at h0
  have hu : Srt.Up Ch.id ltN l := (Srt.chn_up (lt := ltN) Srt.totNat).1 hok.2.2.1
  obtain ⟨hok', hall⟩ := hold_okCh he (hok.2.1 c hc)
  have eid : (holdC c h n).1.id = c.id := by rw [holdC, if_pos he]
  have ehl : (holdC c h n).1.holds.Perm (⟨h, n⟩ :: c.holds) := by rw [holdC, if_pos he]; exact hold_perm
  generalize Srt.pos Ch.id ltN l id = p at *
  have hpm := hidL_set (l := l) (p := p) (d := (holdC c h n).1) (x := ⟨h, n⟩) hp (by rw [hcp]; exact ehl)
  rw [e]
  refine ⟨by rw [List.length_set]; exact hok.1, fun d hd => ?_, ?_, ?_, ?_⟩
  · rcases List.mem_or_eq_of_mem_set hd with h | rfl
    · exact hok.2.1 d h
    · exact hok'
  · exact (Srt.chn_up (lt := ltN) Srt.totNat).2 (Srt.set_up hu hp (by rw [hcp]; exact eid))
  · rw [hpm.nodup_iff, List.nodup_cons]; exact ⟨hw, hok.2.2.2.1⟩
  · rw [totL_set hp (by rw [hcp]; exact hall)]; exact hok.2.2.2.2
theorem start_len {l : List Py} {p : Py} : (startP l p).1.length ≤ 257 := by
  unfold startP
  split
  · simp
  · rename_i hA
    have hok : okPy l := Decidable.byContradiction fun h => hA (.inl h)
    have := hok.1
    split
    · simp
    · split
      · split
        · simp
        · rename_i k hk
          dsimp only
          have hkl : k < l.length := by
            unfold idle at hk
            exact (List.findIdx?_eq_some_iff_getElem.1 hk).1
          rw [Srt.ins_len, List.length_eraseIdx_of_lt hkl]; omega
      · dsimp only
        rw [Srt.ins_len]; omega
theorem add_len {f : Fd} {k : Int} {a n : Nat} : (addF f k a n).1.l.length ≤ 64 := by
  unfold addF
  split
  · rename_i h
    have := h.1.2.2.1
    split
    · simp
    · dsimp only
      rw [List.length_drop, List.length_append, List.length_singleton]; omega
  · simp
theorem small_ok {w : Wl} (h : okW w) : smallW w := by
  obtain ⟨h1, h2, h3, h4, _⟩ := h
  have h7 := h3.2.2.1
  refine ⟨by have := h1.1; omega, fun c hc => by have := (h1.2.1 c hc).2.2.1; omega, by omega, by have := h2.1; omega, ?_, by omega⟩
  rename_i h8
  have h9 := h8.2.2.2
  have : okPy w.p := by
    unfold agrL at h9
    split at h9
    · rename_i h; exact h.1
    · cases h9
  have := this.1; omega
end Dm
namespace Dm
open Go Go.Proofs Go.IntWalk
@[go_sem] def lins_T2 : Tab := [ovk 168]
theorem lins_T2_ok : TabOk Tryz.prog lins_T2 := .cons (ov_ok 168) .nil
@[go_sem] def lins_T3 : Tab := [fg 12]
theorem lins_T3_ok : TabOk Tryz.prog lins_T3 := .cons (fg_ok 12) .nil
theorem lins_wide (l : List Ch) : Wide 7 (chs l) := of_eq_true (chs_wide l)
set_option maxRecDepth 8000 in
set_option maxHeartbeats 1000000 in
theorem lins_ok (l : List Ch) (x : Ch) (i : Nat) (hi : i ≤ l.length) (hl : l.length ≤ 1000000) :
    ACall Tryz.prog 122 [.vec 0 l.length, .int .i64 i, .vec 1 1] [(1, .vec true 7 67 (chs [x])), (0, .vec true 7 67 (chs l))] 2 fun d os _ => Grown 7 67 (chs (Srt.ins l i x)) d os := by
  have hil : (Srt.ins l i x).length = l.length + 1 := Srt.ins_len
  have hq : ∀ j os, lk j os = some (.vec true 7 67 (chs (Srt.ins l i x))) → Grown 7 67 (chs (Srt.ins l i x)) (.vec j (l.length + 1)) os := fun j os h => ⟨j, by rw [chs_length, hil], h⟩
  by_cases hin : i = l.length
  · refine ac122 lins_T3_ok (Nat.le_of_ble_eq_true rfl) ?_
    have e4 : ((1 : Int) = 0) = False := eq_false (by decide)
    subst hin
    simp -implicitDefEqProofs only [cdA, go_sem, Go.Proofs.Tryz.f122, e4, decide_true, reduceIte, reduceCtorEq, Nat.reduceEqDiff, Nat.reduceAdd, Nat.reduceLeDiff, Nat.reduceSub, Nat.reduceMul, Nat.reduceLT, Nat.reduceShiftRight, Nat.reduceMod, Int.reduceLE, Int.reduceLT, Int.reduceToNat, List.cons.injEq, cdB]
    refine ⟨Int.le_refl _, fun h => h.elim, fun _ => ⟨by omega, hq _ _ ?_⟩⟩
    rw [lk_cons, if_neg (by decide), lk_hd]
    simp [Srt.ins]
  · have hlt : i < l.length := by omega
    refine ACall.opn 0 rfl (by rw [chs_length]; omega) fun c hc hcm => ?_
    refine ACall.sld ?_
    rw [chs_length] at hc
    refine ac122 lins_T2_ok (Nat.le_of_ble_eq_true rfl) ?_
    have e1 : IntKind.i64.wrap ((l.length : Int) + 1) = ((l.length + 1 : Nat) : Int) := by rw [i64_in _ (by omega)]; omega
    have e2 : IntKind.i64.wrap ((i : Int) + 1) = ((i + 1 : Nat) : Int) := by rw [i64_in _ (by omega)]; omega
    have e3 : ((i : Int) = (l.length : Int)) = False := eq_false (by omega)
    have e4 : ((1 : Int) = 0) = False := eq_false (by decide)
    have e5 : IntKind.i64.wrap ((l.length : Int) + 1 - (i : Int)) = ((l.length + 1 - i : Nat) : Int) := by rw [i64_in _ (by omega)]; omega
    have e6 : ((l.length : Int) + 1).toNat = l.length + 1 := by omega
    have e7 : ((i : Int) + 1).toNat = i + 1 := by omega
    have e8 : i + (l.length + 1 - i) = l.length + 1 := by omega
    simp -implicitDefEqProofs only [cdA, go_sem, Go.Proofs.Tryz.f122, e3, e4, e1, e2, e5, e6, e7, e8, decide_false, reduceIte, reduceCtorEq, Nat.reduceEqDiff, Nat.reduceAdd, Nat.reduceLeDiff, Nat.reduceSub, Nat.reduceMul, Nat.reduceLT, Nat.reduceShiftRight, Nat.reduceMod, Int.reduceLE, Int.reduceLT, Int.reduceToNat, List.cons.injEq, cdB]
    refine ⟨by omega, fun _ => ⟨fun h1 => ⟨by omega, by omega, fun c1 h2 h3 => ⟨by omega, ?_⟩⟩, fun h1 => ⟨by omega, by omega, ?_, ?_⟩⟩⟩
    · refine ADraw.run us122_11 lins_T2_ok follows_mixed (by kernel_rfl) (by kernel_rfl) ?_
      simp -implicitDefEqProofs only [cdA, go_sem, e1, e2, e5, e6, e7, e8, reduceIte, reduceCtorEq, Nat.reduceEqDiff, Nat.reduceAdd, Nat.reduceLeDiff, Nat.reduceSub, Nat.reduceMul, Nat.reduceLT, Nat.reduceShiftRight, Nat.reduceMod, Int.reduceLE, Int.reduceLT, Int.reduceToNat, List.cons.injEq, cdB]
      refine ⟨by omega, by omega, fun y hy => fit_wide (lins_wide l) y (List.mem_of_mem_take (List.mem_of_mem_drop hy)), ?_⟩
      have := ins_new (sz := 7) (c := c) (c1 := c1) (i := i) (E := chs l) (x := x.enc) (z := [C.int .u64 0, C.int .u64 0, C.int .u64 0, C.int .u64 0, C.int .u64 0, C.sl [], C.bool false]) (by rw [chs_length]; exact hlt) (by rw [chs_length]; exact hc) (by rw [chs_length]; exact h2)
      rw [chs_length] at this
      refine hq _ _ ?_
      rw [lk_hd]
      congr 2
      rw [show chs (List.take (l.length + 1 - i) [x]) = List.take (l.length + 1 - i) [x.enc] by simp [chs], this]
      simp [chs, Srt.ins]
    · exact ⟨_, 22, 4, _, rfl, rfl, rfl, rfl, by kernel_rfl, elOf_22⟩
    · refine ADraw.run us122_15 lins_T2_ok follows_mixed (by kernel_rfl) (by kernel_rfl) ?_
      simp -implicitDefEqProofs only [cdA, go_sem, e1, e2, e5, e6, e7, e8, reduceIte, reduceCtorEq, Nat.reduceEqDiff, Nat.reduceAdd, Nat.reduceLeDiff, Nat.reduceSub, Nat.reduceMul, Nat.reduceLT, Nat.reduceShiftRight, Nat.reduceMod, Int.reduceLE, Int.reduceLT, Int.reduceToNat, List.cons.injEq, cdB]
      refine ⟨by omega, by omega, fun y hy => fit_wide (lins_wide l) y (List.mem_of_mem_take (List.mem_of_mem_drop hy)), by omega, ?_⟩
      have := ins_old (sz := 7) (c := c) (i := i) (E := chs l) (x := x.enc) (by rw [chs_length]; exact hlt) (by rw [chs_length]; omega)
      rw [chs_length] at this
      refine hq _ _ ?_
      rw [lk_hd]
      congr 2
      rw [show chs (List.take (l.length + 1 - i) [x]) = List.take (l.length + 1 - i) [x.enc] by simp [chs], this]
      simp [chs, Srt.ins]

def chkC (c : Ch) : Int := if okCh c then 0 else 1
@[go_sem] def ccheck_r (c : Ch) : D := .int .i64 (chkC c)
@[go_sem] abbrev n_ccheck : FuncId := 119
@[go_sem] def ccheck_T : Tab := [(88, sp_csums)]
theorem ccheck_T_ok : TabOk Tryz.prog ccheck_T := (TabOk.cons sp_csums_ok TabOk.nil)
set_option maxRecDepth 8000 in
set_option maxHeartbeats 1000000 in
theorem ccheck_ok (c : Ch)  : PureFn Tryz.prog 119 [.agg [.c (.int .u64 (c.id : Int)), .c (.int .u64 (c.loc : Int)), .c (.int .u64 (c.rem : Int)), .c (.int .u64 (c.res : Int)), .c (.int .u64 (c.most : Int)), .sl (hds c.holds), .c (.bool c.op)]] (ccheck_r c) := by
  refine .of (ac119 ccheck_T_ok (Nat.le_of_ble_eq_true rfl) ?_)
  simp -implicitDefEqProofs only [cdA, go_sem, Go.Proofs.Tryz.f119, reduceIte, reduceCtorEq, Nat.reduceEqDiff, Nat.reduceAdd, Nat.reduceLeDiff, Nat.reduceSub, Nat.reduceMul, Nat.reduceLT, Nat.reduceShiftRight, Nat.reduceMod, Int.reduceLE, Int.reduceLT, Int.reduceToNat, List.cons.injEq, cdB]
  unfold sumsC chkC
  split <;> rfl
def sp_ccheck : List D → Option (Prop × D × Fr)
  | [.agg [.c (.int .u64 z364), .c (.int .u64 z365), .c (.int .u64 z366), .c (.int .u64 z367), .c (.int .u64 z368), .c (.sl z369), .c (.bool z370)]] => some (z364 = (z364.toNat : Int) ∧ z365 = (z365.toNat : Int) ∧ z366 = (z366.toNat : Int) ∧ z367 = (z367.toNat : Int) ∧ z368 = (z368.toNat : Int) ∧ z369 = hds (dhds z369), ccheck_r (⟨z364.toNat, z365.toNat, z366.toNat, z367.toNat, z368.toNat, (dhds z369), z370⟩ : Ch), [])
  | _ => none
attribute [go_sem] sp_ccheck
theorem sp_ccheck_ok : ∀ rs p r fr, sp_ccheck rs = some (p, r, fr) → p → FnOk Tryz.prog 119 rs r fr := by
  intro rs p r fr h hp
  unfold sp_ccheck at h
  split at h <;> cases h
  obtain ⟨hc0, hc1, hc2, hc3, hc4, hc5⟩ := hp
  rename_i z364 z365 z366 z367 z368 z369 z370
  obtain ⟨z364, rfl⟩ : ∃ m : Nat, z364 = m := ⟨_, hc0⟩
  obtain ⟨z365, rfl⟩ : ∃ m : Nat, z365 = m := ⟨_, hc1⟩
  obtain ⟨z366, rfl⟩ : ∃ m : Nat, z366 = m := ⟨_, hc2⟩
  obtain ⟨z367, rfl⟩ : ∃ m : Nat, z367 = m := ⟨_, hc3⟩
  obtain ⟨z368, rfl⟩ : ∃ m : Nat, z368 = m := ⟨_, hc4⟩
  obtain ⟨z369, rfl⟩ : ∃ m, z369 = hds m := ⟨_, hc5⟩
  simp only [Int.toNat_natCast, dhds_hds]
  exact ccheck_ok ⟨z364, z365, z366, z367, z368, z369, z370⟩
def openL (l : List Ch) (c : Ch) : List Ch × Int :=
  if ¬ okCh c ∨ c.op = false ∨ 0 < c.holds.length ∨ ¬ okLd l then ([], 1) else if Srt.thr Ch.id ltN l c.id = true then ([], 6) else if l.length = 32 then ([], 7) else if okLd (Srt.ins l (Srt.pos Ch.id ltN l c.id) c) then (Srt.ins l (Srt.pos Ch.id ltN l c.id) c, 0) else ([], 8)
@[go_sem] def lopen_r (l : List Ch) (c : Ch) : D := .tup [.sl (chs (openL l c).1), .int .i64 (openL l c).2]
@[go_sem] abbrev n_lopen : FuncId := 68
@[go_sem] def lopen_T : Tab := [(119, sp_ccheck), (43, sp_lcheck), (121, sp_lorder), (124, sp_own), (123, sp_owns)]
theorem lopen_T_ok : TabOk Tryz.prog lopen_T := (TabOk.cons sp_ccheck_ok (TabOk.cons sp_lcheck_ok (TabOk.cons sp_lorder_ok (TabOk.cons sp_own_ok (TabOk.cons sp_owns_ok TabOk.nil)))))
set_option maxRecDepth 8000 in
set_option maxHeartbeats 1000000 in
theorem lopen_ok (l : List Ch) (c : Ch)  : PureFn Tryz.prog 68 [.sl (chs l), .agg [.c (.int .u64 (c.id : Int)), .c (.int .u64 (c.loc : Int)), .c (.int .u64 (c.rem : Int)), .c (.int .u64 (c.res : Int)), .c (.int .u64 (c.most : Int)), .sl (hds c.holds), .c (.bool c.op)]] (lopen_r l c) := by
  refine .of (ac68 lopen_T_ok (Nat.le_of_ble_eq_true rfl) ?_)
  simp -implicitDefEqProofs only [cdA, go_sem, Go.Proofs.Tryz.f68, reduceIte, reduceCtorEq, Nat.reduceEqDiff, Nat.reduceAdd, Nat.reduceLeDiff, Nat.reduceSub, Nat.reduceMul, Nat.reduceLT, Nat.reduceShiftRight, Nat.reduceMod, Int.reduceLE, Int.reduceLT, Int.reduceToNat, List.cons.injEq, cdB]
  have hbad : (¬ okCh c ∨ c.op = false ∨ 0 < c.holds.length ∨ ¬ okLd l) → chs (openL l c).1 = [] ∧ 1 = (openL l c).2 := fun h => by rw [openL, if_pos h]; exact ⟨rfl, rfl⟩
  have hc0 : chkC c = 0 ↔ okCh c := by unfold chkC; split <;> rename_i h <;> simp only [h] <;> decide
  have hl0 : chkL l = 0 ↔ okLd l := by unfold chkL; split <;> rename_i h <;> simp only [h] <;> decide
  refine ⟨fun h1 => ⟨fun h2 _ => ⟨fun h3 => ⟨fun h4 => ?_, fun h4 => hbad (.inr (.inr (.inr fun h => h4 (hl0.2 h))))⟩, fun h3 => hbad (.inr (.inr (.inl (by omega))))⟩, fun h2 => hbad (.inr (.inl (by simpa using h2)))⟩, fun h1 => hbad (.inl fun h => h1 (hc0.2 h))⟩
  have hok := hl0.1 h4
  have hcc := hc0.1 h1
  have hop : c.op = true := by simpa using h2
  have hA : ¬ (¬ okCh c ∨ c.op = false ∨ 0 < c.holds.length ∨ ¬ okLd l) := by
    rintro (h | h | h | h)
    · exact h hcc
    · rw [hop] at h; cases h
    · omega
    · exact h hok
  have hu : Srt.Up Ch.id ltN l := (Srt.chn_up (lt := ltN) Srt.totNat).1 hok.2.2.1
  have hl32 := hok.1
  refine ac120 lopen_T_ok (Nat.le_of_ble_eq_true rfl) ?_
  simp -implicitDefEqProofs only [cdA, go_sem, Go.Proofs.Tryz.f120, reduceIte, reduceCtorEq, Nat.reduceEqDiff, Nat.reduceAdd, Nat.reduceLeDiff, Nat.reduceSub, Nat.reduceMul, Nat.reduceLT, Nat.reduceShiftRight, Nat.reduceMod, Int.reduceLE, Int.reduceLT, Int.reduceToNat, List.cons.injEq, cdB]
  refine fun _ => SWp.loop (ι := { x : Nat × Nat // x.1 ≤ x.2 ∧ x.2 ≤ l.length ∧ (∀ k, k < x.1 → (l.getD k default).id < c.id) ∧ ∀ k, x.2 ≤ k → k < l.length → ¬ (l.getD k default).id < c.id }) (fun x => ⟨[(0, .sl (chs l)), (1, .c (.int .u64 c.id)), (2, .fn (.func 121) [] []), (8, .int .i64 l.length), (9, .int .i64 x.1.1), (10, .int .i64 x.1.2)],
    [(0, .box [.c (.int .u64 c.id), .c (.int .u64 c.loc), .c (.int .u64 c.rem), .c (.int .u64 c.res), .c (.int .u64 c.most), .sl (hds c.holds), .c (.bool c.op)])], 1⟩) (fun x => x.1.2 - x.1.1) ⟨(0, l.length), by simp, by simp, fun k hk => absurd hk (by simp), fun k h1 h2 => absurd h1 (by simpa using h2)⟩ ?_ ?_
  · simp [go_sem]
  · rintro ⟨⟨i, j⟩, hij, hj, hlo, hup⟩
    dsimp only at hij hj hlo hup
    refine awp_sound lopen_T_ok.toS lv120 _ _ _ rfl ?_
    simp -implicitDefEqProofs only [cdA, go_sem, reduceIte, reduceCtorEq, Nat.reduceEqDiff, Nat.reduceAdd, Nat.reduceLeDiff, Nat.reduceSub, Nat.reduceMul, Nat.reduceLT, Nat.reduceShiftRight, Nat.reduceMod, Int.reduceLE, Int.reduceLT, Int.reduceToNat, List.cons.injEq, cdB]
    rw [mid_eq hij hj ‹_›]
    refine ⟨fun h4 => ?_, fun h4 => ?_⟩
    · have hm : (i + j) / 2 < l.length := by omega
      rw [cmpS_neg, Int.toNat_natCast]
      refine ⟨by omega, fun h5 => ⟨⟨((i + j) / 2 + 1, j), by dsimp only; omega, hj, fun k hk => ?_, hup⟩, by dsimp only; omega, i64_in _ (by omega), rfl⟩, fun h5 => ⟨⟨(i, (i + j) / 2), by dsimp only; omega, by dsimp only; omega, hlo, fun k hk1 hk2 => ?_⟩, by dsimp only; omega, rfl, rfl⟩⟩
      · dsimp only at hk
        by_cases hkm : k = (i + j) / 2
        · rw [hkm]; omega
        · have := Srt.up_get.1 hu k _ (by omega) hm
          simp only [ltN] at this; omega
      · dsimp only at hk1
        by_cases hkm : k = (i + j) / 2
        · rw [hkm]; omega
        · have := Srt.up_get.1 hu ((i + j) / 2) k (by omega) hk2
          simp only [ltN] at this; omega
    · have hp : Srt.pos Ch.id ltN l c.id = i := Srt.pos_eq (by omega) hlo (fun h => hup i (by omega) h)
      have hth : Srt.thr Ch.id ltN l c.id = decide (i < l.length ∧ (l.getD i default).id = c.id) := by rw [Srt.thr, hp]
      refine ⟨fun h5 => ⟨by omega, fun h6 => ?_, fun h6 _ => ⟨fun h7 => ?_, fun h7 => ?_⟩⟩, fun h5 _ => ⟨fun h7 => ?_, fun h7 => ?_⟩⟩
      · rw [openL, if_neg hA, if_pos (by rw [hth]; exact decide_eq_true ⟨by omega, by have := cmpS_0.1 h6; omega⟩)]; exact ⟨rfl, rfl⟩
      · have ht : ¬ Srt.thr Ch.id ltN l c.id = true := by rw [hth, decide_eq_true_eq]; rintro ⟨h8, h9⟩; exact h6 (cmpS_0.2 (by omega))
        rw [openL, if_neg hA, if_neg ht, if_pos (by omega)]; exact ⟨rfl, rfl⟩
      · have ht : ¬ Srt.thr Ch.id ltN l c.id = true := by rw [hth, decide_eq_true_eq]; rintro ⟨h8, h9⟩; exact h6 (cmpS_0.2 (by omega))
        refine ADraw.tail 6 us68_8 lopen_T_ok follows_mixed (by kernel_rfl) (by kernel_rfl) (by kernel_rfl) (by kernel_rfl) ?_
        simp -implicitDefEqProofs only [cdA, go_sem, List.take_succ_cons, List.take_zero, List.drop_succ_cons, List.drop_zero, reduceIte, reduceCtorEq, Nat.reduceEqDiff, Nat.reduceAdd, Nat.reduceLeDiff, Nat.reduceSub, Nat.reduceMul, Nat.reduceLT, Nat.reduceShiftRight, Nat.reduceMod, Int.reduceLE, Int.reduceLT, Int.reduceToNat, List.cons.injEq, cdB]
        refine ⟨⟨by omega, fun d hd => by have := (hok.2.1 d hd).2.2.1; omega⟩, by omega, ?_⟩
        refine ACall.grow (mid := [.int .i64 _]) (lins_ok l c i (by omega) (by omega)) rfl rfl (by decide) (by simp [Srt.ins_len]) (fun d hd g g' w v hv => ?_) ?_
        · simp at hd; subst hd
          cases hv with
          | c _ _ h => cases h; exact .c _ _ (.int _ _)
        · simp -implicitDefEqProofs only [cdA, go_sem, reduceIte, reduceCtorEq, Nat.reduceEqDiff, Nat.reduceAdd, Nat.reduceLeDiff, Nat.reduceSub, Nat.reduceMul, Nat.reduceLT, Nat.reduceShiftRight, Nat.reduceMod, Int.reduceLE, Int.reduceLT, Int.reduceToNat, List.cons.injEq, cdB]
          have hl0' : chkL (Srt.ins l i c) = 0 ↔ okLd (Srt.ins l i c) := by unfold chkL; split <;> rename_i h <;> simp only [h] <;> decide
          refine ⟨fun h8 => ?_, fun h8 => ?_⟩
          · rw [openL, if_neg hA, if_neg ht, if_neg (by omega), hp, if_pos (hl0'.1 h8)]; exact ⟨⟨rfl, _, _, _, rfl⟩, rfl⟩
          · rw [openL, if_neg hA, if_neg ht, if_neg (by omega), hp, if_neg fun h => h8 (hl0'.2 h)]; exact ⟨rfl, rfl⟩
      · have ht : ¬ Srt.thr Ch.id ltN l c.id = true := by rw [hth, decide_eq_true_eq]; omega
        rw [openL, if_neg hA, if_neg ht, if_pos (by omega)]; exact ⟨rfl, rfl⟩
      · have ht : ¬ Srt.thr Ch.id ltN l c.id = true := by rw [hth, decide_eq_true_eq]; omega
        refine ADraw.tail 6 us68_8 lopen_T_ok follows_mixed (by kernel_rfl) (by kernel_rfl) (by kernel_rfl) (by kernel_rfl) ?_
        simp -implicitDefEqProofs only [cdA, go_sem, List.take_succ_cons, List.take_zero, List.drop_succ_cons, List.drop_zero, reduceIte, reduceCtorEq, Nat.reduceEqDiff, Nat.reduceAdd, Nat.reduceLeDiff, Nat.reduceSub, Nat.reduceMul, Nat.reduceLT, Nat.reduceShiftRight, Nat.reduceMod, Int.reduceLE, Int.reduceLT, Int.reduceToNat, List.cons.injEq, cdB]
        refine ⟨⟨by omega, fun d hd => by have := (hok.2.1 d hd).2.2.1; omega⟩, by omega, ?_⟩
        refine ACall.grow (mid := [.int .i64 _]) (lins_ok l c i (by omega) (by omega)) rfl rfl (by decide) (by simp [Srt.ins_len]) (fun d hd g g' w v hv => ?_) ?_
        · simp at hd; subst hd
          cases hv with
          | c _ _ h => cases h; exact .c _ _ (.int _ _)
        · simp -implicitDefEqProofs only [cdA, go_sem, reduceIte, reduceCtorEq, Nat.reduceEqDiff, Nat.reduceAdd, Nat.reduceLeDiff, Nat.reduceSub, Nat.reduceMul, Nat.reduceLT, Nat.reduceShiftRight, Nat.reduceMod, Int.reduceLE, Int.reduceLT, Int.reduceToNat, List.cons.injEq, cdB]
          have hl0' : chkL (Srt.ins l i c) = 0 ↔ okLd (Srt.ins l i c) := by unfold chkL; split <;> rename_i h <;> simp only [h] <;> decide
          refine ⟨fun h8 => ?_, fun h8 => ?_⟩
          · rw [openL, if_neg hA, if_neg ht, if_neg (by omega), hp, if_pos (hl0'.1 h8)]; exact ⟨⟨rfl, _, _, _, rfl⟩, rfl⟩
          · rw [openL, if_neg hA, if_neg ht, if_neg (by omega), hp, if_neg fun h => h8 (hl0'.2 h)]; exact ⟨rfl, rfl⟩
def sp_lopen : List D → Option (Prop × D × Fr)
  | [.c (.sl z371), .agg [.c (.int .u64 z373), .c (.int .u64 z374), .c (.int .u64 z375), .c (.int .u64 z376), .c (.int .u64 z377), .c (.sl z378), .c (.bool z379)]] => some (z371 = chs (dchs z371) ∧ z373 = (z373.toNat : Int) ∧ z374 = (z374.toNat : Int) ∧ z375 = (z375.toNat : Int) ∧ z376 = (z376.toNat : Int) ∧ z377 = (z377.toNat : Int) ∧ z378 = hds (dhds z378), lopen_r (dchs z371) (⟨z373.toNat, z374.toNat, z375.toNat, z376.toNat, z377.toNat, (dhds z378), z379⟩ : Ch), [])
  | _ => none
attribute [go_sem] sp_lopen
theorem sp_lopen_ok : ∀ rs p r fr, sp_lopen rs = some (p, r, fr) → p → FnOk Tryz.prog 68 rs r fr := by
  intro rs p r fr h hp
  unfold sp_lopen at h
  split at h <;> cases h
  obtain ⟨hc0, hc1, hc2, hc3, hc4, hc5, hc6⟩ := hp
  rename_i z371 z373 z374 z375 z376 z377 z378 z379
  obtain ⟨z371, rfl⟩ : ∃ m, z371 = chs m := ⟨_, hc0⟩
  obtain ⟨z373, rfl⟩ : ∃ m : Nat, z373 = m := ⟨_, hc1⟩
  obtain ⟨z374, rfl⟩ : ∃ m : Nat, z374 = m := ⟨_, hc2⟩
  obtain ⟨z375, rfl⟩ : ∃ m : Nat, z375 = m := ⟨_, hc3⟩
  obtain ⟨z376, rfl⟩ : ∃ m : Nat, z376 = m := ⟨_, hc4⟩
  obtain ⟨z377, rfl⟩ : ∃ m : Nat, z377 = m := ⟨_, hc5⟩
  obtain ⟨z378, rfl⟩ : ∃ m, z378 = hds m := ⟨_, hc6⟩
  simp only [Int.toNat_natCast, dchs_chs, dhds_hds]
  exact lopen_ok z371 ⟨z373, z374, z375, z376, z377, z378, z379⟩
end Dm
