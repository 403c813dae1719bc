import Derived.Test.YtceoichdaepegaaGreatP6
import Derived.Ground.SlsfProg
import Derived.Shelf.Lay
set_option linter.unusedSimpArgs false
set_option linter.unusedVariables false
set_option linter.unusedSectionVars false
namespace Go.Proofs
open Go.Shelf Go.RowKit Go.Lib Go.Sort
shelf_lay_g SlLaysF0.n6 Slsf 6 at Tryz 125 as Tryz.sortMk
end Go.Proofs
namespace Dm
open Go Go.Proofs Go.IntWalk
abbrev ltM (a b : Int × Nat) : Prop := b.1 < a.1 ∨ (a.1 = b.1 ∧ a.2 < b.2)
instance : DecidableRel ltM := fun a b => by unfold ltM; infer_instance
theorem totM : Srt.Tot ltM := ⟨fun a => by unfold ltM; omega, fun h h' => by unfold ltM at *; omega, fun a b => by
  unfold ltM
  have : a = b ↔ a.1 = b.1 ∧ a.2 = b.2 := Prod.ext_iff
  rw [this]; omega⟩
def Mk.key (m : Mk) : Int × Nat := (fkey m.s, m.id)
theorem mkO_neg {a b : Mk} : mkO a b < 0 ↔ ltM a.key b.key := by
  unfold mkO orS ltM Mk.key cmpS
  by_cases h1 : fkey b.s < fkey a.s
  · simp [h1]
  · by_cases h2 : fkey a.s < fkey b.s
    · simp [h1, h2]; omega
    · by_cases h3 : (a.id : Int) < b.id
      · simp [h1, h2, h3]; omega
      · by_cases h4 : (b.id : Int) < a.id
        · simp [h1, h2, h3, h4]; omega
        · simp [h1, h2, h3, h4]; omega
def ordM (l : List Mk) : List Mk := l.foldl (Srt.put Mk.key ltM) []
def elig (n : Nat) (c : Ch) : Bool := c.op && decide (max n 1 ≤ (roomC c).1)
def mkOf (w : List Wt) (n : Nat) (c : Ch) : Mk := ⟨c.id, (oneS c (weighS w c.id) (fofi n)).1⟩
def mksOf (l : List Ch) (w : List Wt) (n : Nat) : List Mk := (l.filter (elig n)).map (mkOf w n)
def ordL (l : List Ch) (w : List Wt) (n : Nat) : List Nat × Int := if okLd l then ((ordM (mksOf l w n)).map Mk.id, 0) else ([], 1)
theorem mksOf_succ {l : List Ch} {w : List Wt} {n i : Nat} (h : i < l.length) : mksOf (l.take (i + 1)) w n = mksOf (l.take i) w n ++ (if elig n (l.getD i default) = true then [mkOf w n (l.getD i default)] else []) := by
  rw [take_succ h, mksOf, List.filter_append, List.map_append]
  congr 1
  generalize l.getD i default = x
  by_cases h : elig n x = true <;> simp [h]
theorem mksOf_len {l : List Ch} {w : List Wt} {n : Nat} : (mksOf l w n).length ≤ l.length := by
  rw [mksOf, List.length_map]; exact List.length_filter_le _ _
theorem flo_canon {n : Nat} (h : fnan (flo .f64 n) = true) : flo .f64 n = none := by
  rw [fnan_key, decide_eq_true_iff, flo_key, dkey_nan (read_dbl n)] at h
  exact flo_nan h
theorem far_canon {op : BinOp} {a b : Option Nat} (h : fnan (far op a b) = true) : far op a b = none := by
  unfold far at *
  cases a with
  | none => rfl
  | some x => cases b with
    | none => rfl
    | some y =>
      simp only at *
      have key : ∀ o : Option Nat, fnan (o.bind (flo .f64)) = true → o.bind (flo .f64) = none := fun o ho => by
        cases o with
        | none => rfl
        | some z => exact flo_canon ho
      split at h <;> exact key _ h
theorem ordM_put {l : List Mk} : ∀ {m : List Mk}, Srt.Up Mk.key ltM m → Srt.Up Mk.key ltM (l.foldl (Srt.put Mk.key ltM) m) := by
  induction l with
  | nil => exact fun h => h
  | cons x l ih => exact fun h => ih (Srt.put_up totM h)
theorem ordM_up {l : List Mk} : Srt.Up Mk.key ltM (ordM l) := ordM_put .nil
theorem ordM_mem {l : List Mk} (hd : (l.map Mk.id).Nodup) {x : Mk} : x ∈ ordM l ↔ x ∈ l := by
  have key : ∀ (l m : List Mk), Srt.Up Mk.key ltM m → ((m ++ l).map Mk.id).Nodup → ∀ x, x ∈ l.foldl (Srt.put Mk.key ltM) m ↔ x ∈ m ∨ x ∈ l := by
    intro l
    induction l with
    | nil => intro m _ _ x; simp
    | cons y l ih =>
      intro m hu hn x
      rw [List.foldl_cons, ih _ (Srt.put_up totM hu) ?_]
      · rw [Srt.mem_put totM hu]
        simp only [List.mem_cons]
        constructor
        · rintro ((h | h) | h)
          · exact .inr (.inl h)
          · exact .inl h.1
          · exact .inr (.inr h)
        · rintro (h | h | h)
          · refine .inl (.inr ⟨h, fun he => ?_⟩)
            have : x.id = y.id := congrArg Prod.snd he
            rw [List.map_append, List.nodup_append] at hn
            exact hn.2.2 _ (List.mem_map.2 ⟨x, h, rfl⟩) _ (by simp) this
          · exact .inl (.inl h)
          · exact .inr h
      · have hp : (Srt.put Mk.key ltM m y).Perm (m ++ [y]) := by
          have ht : ¬ Srt.thr Mk.key ltM m y.key = true := fun h => by
            obtain ⟨z, hz, he⟩ := (Srt.thr_iff totM hu).1 h
            have : z.id = y.id := congrArg Prod.snd he
            rw [List.map_append, List.nodup_append] at hn
            exact hn.2.2 _ (List.mem_map.2 ⟨z, hz, rfl⟩) _ (by simp) this
          rw [Srt.put, if_neg ht]
          exact Srt.ins_perm.trans (List.perm_append_comm (l₁ := [y]))
        have := (hp.append_right l).map Mk.id
        rw [List.append_assoc] at this
        exact this.nodup_iff.2 hn
  have := key l [] .nil (by simpa using hd) x
  simpa [ordM] using this
theorem ordM_eq {l m : List Mk} (hd : (l.map Mk.id).Nodup) (hu : Srt.Up Mk.key ltM m) (hm : ∀ x, x ∈ m ↔ x ∈ l) : m = ordM l :=
  Srt.ext totM hu ordM_up fun x => by rw [hm, ordM_mem hd]
theorem mksOf_ids {l : List Ch} {w : List Wt} {n : Nat} (h : okLd l) : ((mksOf l w n).map Mk.id).Nodup := by
  have h1 := (Srt.chn_up (lt := ltN) Srt.totNat).1 h.2.2.1
  unfold Srt.Up at h1
  rw [mksOf, List.map_map, List.Nodup, List.pairwise_map]
  exact (h1.sublist List.filter_sublist).imp fun hlt he => by
    change _ < _ at hlt
    change Ch.id _ = Ch.id _ at he
    omega
theorem sorted_ord {l : List Mk} {els : List (List C)} (hd : (l.map Mk.id).Nodup) (hp : els.Perm (mks l)) (hs : els.Pairwise fun x y => ¬ mkO (Mk.dec y) (Mk.dec x) < 0) : els = mks (ordM l) := by
  have h1 : mks (els.map Mk.dec) = els := by
    simp only [mks, List.map_map]
    refine (List.map_congr_left fun x hx => ?_).trans (List.map_id _)
    obtain ⟨a, _, rfl⟩ := List.mem_map.1 (hp.mem_iff.1 hx)
    show (Mk.dec a.enc).enc = a.enc
    rw [Mk.dec_enc]
  have h2 : (els.map Mk.dec).Perm l := by
    have := hp.map Mk.dec
    rwa [show (mks l).map Mk.dec = l from dmks_mks l] at this
  have h3 : els.map Mk.dec = ordM l := by
    refine ordM_eq hd ?_ fun x => h2.mem_iff
    have hd2 : ((els.map Mk.dec).map Mk.id).Nodup := ((h2.map Mk.id).nodup_iff).2 hd
    unfold Srt.Up
    rw [List.Nodup, List.pairwise_map] at hd2
    have hs2 : (els.map Mk.dec).Pairwise fun x y => ¬ mkO y x < 0 := by rw [List.pairwise_map]; exact hs
    refine hd2.imp₂ ?_ hs2
    intro a b hne hno
    rw [mkO_neg] at hno
    unfold ltM Mk.key at *
    simp only at *
    omega
  rw [← h3, h1]
@[go_sem] def order_r (l : List Ch) (w : List Wt) (n : Nat) : D := .tup [.sl (u64s (ordL l w n).1), .int .i64 (ordL l w n).2]
@[go_sem] abbrev n_order : FuncId := 48
@[go_sem] def order_T : Tab := [(102, sp_lcheck), (120, sp_croom), (121, sp_one), (122, sp_weigh), (123, sp_misnan), (124, sp_mnan)]
theorem order_T_ok : TabOk Tryz.prog order_T := (TabOk.cons sp_lcheck_ok (TabOk.cons sp_croom_ok (TabOk.cons sp_one_ok (TabOk.cons sp_weigh_ok (TabOk.cons sp_misnan_ok (TabOk.cons sp_mnan_ok TabOk.nil))))))
set_option maxRecDepth 8000 in
set_option maxHeartbeats 1000000 in
theorem order_ok (l : List Ch) (w : List Wt) (n : Nat)  : PureFn Tryz.prog 48 [.sl (chs l), .sl (wts w), .c (.int .u64 (n : Int))] (order_r l w n) := by
  refine .of (ac48 order_T_ok (Nat.le_of_ble_eq_true rfl) ?_)
  simp -implicitDefEqProofs only [cdA, go_sem, Go.Proofs.Tryz.f48, reduceIte, List.cons.injEq, cdB]
  have hcz : chkL l = 0 ↔ okLd l := by unfold chkL; split <;> simp_all
  rw [hcz]
  refine ⟨fun hok hl => ?_, fun hno => by rw [ordL, chkL, if_neg hno, if_neg hno]; exact ⟨rfl, rfl⟩⟩
  have hl32 := hok.1
  refine SWp.nilvec 9 2 149 rfl (Nat.zero_le _) ?_
  refine SWp.loop (ι := { i : Nat // i ≤ l.length }) (fun i => ⟨[(1, .sl (wts w)), (2, .int .u64 n), (9, .vec 0 (mksOf (l.take i.1) w n).length), (23, .sl (chs l)), (24, .int .i64 l.length), (25, .int .i64 i.1)], [(0, .vec true 2 149 (mks (mksOf (l.take i.1) w n)))], 1⟩) (fun i => l.length - i.1) ⟨0, by omega⟩ ?_ ?_
  · simp [go_sem, mksOf, mks]
  · rintro ⟨i, hi⟩
    refine awp_sound order_T_ok.toS lv48 _ _ _ rfl ?_
    simp -implicitDefEqProofs only [cdA, go_sem, reduceIte, List.cons.injEq, cdB]
    refine ⟨fun h => ⟨by omega, ?_⟩, fun h => ?_⟩
    · have hi' : i < l.length := by omega
      have hc0 : okCh (l.getD i default) := hok.2.1 _ (mem_getD.2 ⟨i, hi', rfl⟩)
      have hst := mksOf_succ (w := w) (n := n) hi'
      have hr0 := roomC_0.2 hc0
      have hone : (oneS (l.getD i default) (weighS w (l.getD i default).id) (fofi n)).2 = 0 := by rw [oneS, if_pos hc0]
      have hlen := mksOf_len (l := l.take i) (w := w) (n := n)
      rw [List.length_take] at hlen
      generalize hc : l.getD i default = c at *
      have hskip : elig n c ≠ true → mksOf (l.take (i + 1)) w n = mksOf (l.take i) w n := fun he => by rw [hst, if_neg he, List.append_nil]
      refine ⟨fun _ => ⟨fun hop => ⟨fun hr => ?_, fun hr => ?_⟩, fun hop => ?_⟩, fun hr => absurd hr0 hr⟩
      · exact ⟨⟨i + 1, hi'⟩, by dsimp only; omega, by dsimp only; rw [hskip (by rw [elig]; simp; intro _; omega)]; exact ⟨⟨rfl, i64_in _ (by omega)⟩, rfl⟩⟩
      · refine ADraw.run us48_10 order_T_ok follows_mixed (by kernel_rfl) (by kernel_rfl) ?_
        simp -implicitDefEqProofs only [cdA, go_sem, reduceIte, List.cons.injEq, cdB]
        have hwm : ∀ a b, wts [⟨a, b⟩] = mks [⟨a, b⟩] := fun _ _ => rfl
        have hel : elig n c = true := by
          simp at hop
          rw [elig, hop]; simp; omega
        rw [if_pos hel] at hst
        have hfin : mks (mksOf (l.take i) w n) ++ wts [⟨c.id, (oneS c (weighS w c.id) (fofi n)).1⟩] = mks (mksOf (l.take (i + 1)) w n) := by rw [hwm, mks_app, hst]; rfl
        have hnext : ∀ s, s = (oneS c (weighS w c.id) (fofi n)).1 → ((mksOf (l.take i) w n).length + 1) * 16 ≤ 140737488355328 ∧ ∃ i_1 : { i : Nat // i ≤ l.length }, l.length - i_1.val < l.length - i ∧ (D.vec 0 ((mksOf (l.take i) w n).length + 1) = D.vec 0 (mksOf (l.take i_1.val) w n).length ∧ IntKind.i64.wrap ((i : Int) + 1) = i_1.val) ∧ Ob.vec true 2 149 (mks (mksOf (l.take i) w n) ++ wts [⟨c.id, s⟩]) = Ob.vec true 2 149 (mks (mksOf (l.take i_1.val) w n)) := fun s hs => by
          refine ⟨by omega, ⟨i + 1, hi'⟩, by dsimp only; omega, ⟨by dsimp only; rw [hst]; simp, i64_in _ (by omega)⟩, ?_⟩
          rw [hs, hfin]
        refine ⟨fun _ => ⟨fun hnan => hnext _ ?_, fun _ => hnext _ rfl⟩, fun h => absurd hone h⟩
        have e1 : (oneS c (weighS w c.id) (fofi n)).1 = far .mul (weighS w c.id) (far .quo (far .sub (fofi (roomC c).1) (fofi n)) (fofi (sumsC c).2.1)) := by rw [oneS, if_pos hc0]
        rw [e1] at hnan ⊢
        exact (far_canon hnan).symm
      · exact ⟨⟨i + 1, hi'⟩, by dsimp only; omega, by dsimp only; rw [hskip (by rw [elig]; simp at hop; simp [hop])]; exact ⟨⟨rfl, i64_in _ (by omega)⟩, rfl⟩⟩
    · have hi' : i = l.length := by omega
      subst hi'
      rw [List.take_length]
      have hlen := mksOf_len (l := l) (w := w) (n := n)
      have hdec : ∀ a : Mk, Mk.dec a.enc = a := Mk.dec_enc
      have hin : ∀ x ∈ mks (mksOf l w n), ∃ a : Mk, x = a.enc := fun x hx => by
        obtain ⟨a, _, rfl⟩ := List.mem_map.1 hx
        exact ⟨a, rfl⟩
      refine ACall.sort Tryz.sortMk (k := 2) (by decide) Tryz.isAgg149 Tryz.sizeOf149 rfl (cf := fun x y => mkO (Mk.dec x) (Mk.dec y)) rfl (by simp) (by omega) ?_ ?_ ?_ ?_ ?_
      · intro x hx y hy
        obtain ⟨a, rfl⟩ := hin x hx
        obtain ⟨b, rfl⟩ := hin y hy
        rw [hdec, hdec]
        exact mkcmp_ok a b
      · intro x hx
        rw [mkO_neg]; exact totM.irr _
      · intro x _ y _ z _
        rw [mkO_neg, mkO_neg, mkO_neg]; exact totM.tr
      · intro x _ y _ z _
        rw [mkO_neg, mkO_neg, mkO_neg]
        unfold ltM; omega
      · intro els' hp hs
        have he := sorted_ord (mksOf_ids hok) hp hs
        subst he
        have hol : (ordM (mksOf l w n)).length = (mksOf l w n).length := by
          have := hp.length_eq
          rwa [mks_length, mks_length] at this
        clear hp hs
        generalize hM : ordM (mksOf l w n) = M at *
        rw [← hol]
        have hml : M.length ≤ 32 := by omega
        simp -implicitDefEqProofs only [cdA, go_sem, reduceIte, List.cons.injEq, cdB]
        refine fun _ => ⟨⟨by omega, by omega⟩, fun _ => ?_⟩
        have hz : List.replicate M.length [C.int .u64 0] = u64s (List.replicate M.length 0) := by simp [u64s]
        rw [hz]
        refine SWp.loop (ι := { x : Nat × List Nat // x.1 ≤ M.length ∧ x.2.length = M.length ∧ ∀ j, j < x.1 → x.2.getD j default = (M.getD j default).id }) (fun x => ⟨[(15, .vec 1 M.length), (77, .vec 0 M.length), (78, .int .i64 M.length), (79, .int .i64 x.1.1)],
          [(1, .vec true 1 26 (u64s x.1.2)), (0, .vec true 2 149 (mks M))], 2⟩) (fun x => M.length - x.1.1) ⟨(0, List.replicate M.length 0), by simp⟩ ?_ ?_
        · simp [go_sem]
        · rintro ⟨⟨j, X⟩, hj, hX, hall⟩
          dsimp only at hj hX hall
          refine awp_sound order_T_ok.toS lv48 _ _ _ rfl ?_
          simp -implicitDefEqProofs only [cdA, go_sem, reduceIte, List.cons.injEq, cdB]
          refine ⟨fun h2 => ⟨by omega, by omega, by omega, ⟨hX.symm, by omega⟩, ⟨(j + 1, X.set j (M.getD j default).id), by dsimp only; omega, by dsimp only; rw [List.length_set]; exact hX, fun q hq => ?_⟩, by dsimp only; omega, i64_in _ (by omega), rfl⟩, fun h2 => ?_⟩
          · dsimp only at hq ⊢
            rw [Srt.set_getD (by omega)]
            by_cases hqj : q = j
            · rw [if_pos hqj, hqj]
            · rw [if_neg hqj]; exact hall q (by omega)
          · have hXm : X = M.map Mk.id := by
              apply List.ext_getElem (by simpa using hX)
              intro q h3 h4
              have := hall q (by omega)
              rw [getD_lt h3, getD_lt (by omega)] at this
              simpa using this
            rw [ordL, if_pos hok, hM, hXm]
            exact ⟨⟨by simp, _, _, _, rfl⟩, rfl⟩
def sp_order : List D → Option (Prop × D × Fr)
  | [.c (.sl z157), .c (.sl z158), .c (.int .u64 z159)] => some (z157 = chs (dchs z157) ∧ z158 = wts (dwts z158) ∧ z159 = (z159.toNat : Int), order_r (dchs z157) (dwts z158) z159.toNat, [])
  | _ => none
attribute [go_sem] sp_order
theorem sp_order_ok : ∀ rs p r fr, sp_order rs = some (p, r, fr) → p → FnOk Tryz.prog 48 rs r fr := by
  intro rs p r fr h hp
  unfold sp_order at h
  split at h <;> cases h
  obtain ⟨hc0, hc1, hc2⟩ := hp
  rename_i z157 z158 z159
  obtain ⟨z157, rfl⟩ : ∃ m, z157 = chs m := ⟨_, hc0⟩
  obtain ⟨z158, rfl⟩ : ∃ m, z158 = wts m := ⟨_, hc1⟩
  obtain ⟨z159, rfl⟩ : ∃ m : Nat, z159 = m := ⟨_, hc2⟩
  simp only [Int.toNat_natCast, dchs_chs, dwts_wts]
  exact order_ok z157 z158 z159
def firstL (l : List Ch) (w : List Wt) (n : Nat) : Nat × Int := if (ordL l w n).2 = 0 then (match (ordL l w n).1 with
  | [] => (0, 5)
  | x :: _ => (x, 0)) else (0, (ordL l w n).2)
@[go_sem] def first_r (l : List Ch) (w : List Wt) (n : Nat) : D := .tup [.int .u64 ((firstL l w n).1 : Int), .int .i64 (firstL l w n).2]
@[go_sem] abbrev n_first : FuncId := 12
@[go_sem] def first_T : Tab := [(48, sp_order)]
theorem first_T_ok : TabOk Tryz.prog first_T := (TabOk.cons sp_order_ok TabOk.nil)
set_option maxRecDepth 8000 in
set_option maxHeartbeats 1000000 in
theorem first_ok (l : List Ch) (w : List Wt) (n : Nat)  : PureFn Tryz.prog 12 [.sl (chs l), .sl (wts w), .c (.int .u64 (n : Int))] (first_r l w n) := by
  refine .of (ac12 first_T_ok (Nat.le_of_ble_eq_true rfl) ?_)
  simp -implicitDefEqProofs only [cdA, go_sem, Go.Proofs.Tryz.f12, reduceIte, List.cons.injEq, cdB]
  unfold firstL
  refine ⟨fun h hl => ?_, fun h => by rw [if_neg h]; exact ⟨rfl, rfl⟩⟩
  rw [if_pos h]
  cases (ordL l w n).1 with
  | nil => exact ⟨fun _ => ⟨rfl, rfl⟩, fun h => absurd rfl h⟩
  | cons x t => exact ⟨fun h => absurd h (by rw [List.length_cons]; omega), fun _ => ⟨by rw [List.length_cons]; omega, rfl, rfl⟩⟩
def sp_first : List D → Option (Prop × D × Fr)
  | [.c (.sl z163), .c (.sl z164), .c (.int .u64 z165)] => some (z163 = chs (dchs z163) ∧ z164 = wts (dwts z164) ∧ z165 = (z165.toNat : Int), first_r (dchs z163) (dwts z164) z165.toNat, [])
  | _ => none
attribute [go_sem] sp_first
theorem sp_first_ok : ∀ rs p r fr, sp_first rs = some (p, r, fr) → p → FnOk Tryz.prog 12 rs r fr := by
  intro rs p r fr h hp
  unfold sp_first at h
  split at h <;> cases h
  obtain ⟨hc0, hc1, hc2⟩ := hp
  rename_i z163 z164 z165
  obtain ⟨z163, rfl⟩ : ∃ m, z163 = chs m := ⟨_, hc0⟩
  obtain ⟨z164, rfl⟩ : ∃ m, z164 = wts m := ⟨_, hc1⟩
  obtain ⟨z165, rfl⟩ : ∃ m : Nat, z165 = m := ⟨_, hc2⟩
  simp only [Int.toNat_natCast, dchs_chs, dwts_wts]
  exact first_ok z163 z164 z165
end Dm
namespace Dm
open Go Go.Proofs Go.IntWalk
structure Wl where
  c : List Ch
  w : List Wt
  i : List Iv
  p : List Py
  f : Fd
  next : Nat
  tick : Nat
deriving DecidableEq, Inhabited
@[go_sem] def Wl.enc (e : Wl) : List C := [.sl (chs e.c), .sl (wts e.w), .sl (ivs e.i), .sl (pys e.p), .int .u64 (e.f.next : Int), .sl (evs e.f.l), .int .u64 (e.next : Int), .int .u64 (e.tick : Int)]
def Wl.dec : List C → Wl
  | [.sl z282, .sl z283, .sl z284, .sl z285, .int .u64 z287, .sl z288, .int .u64 z289, .int .u64 z290] => (⟨(dchs z282), (dwts z283), (divs z284), (dpys z285), (⟨z287.toNat, (devs z288)⟩ : Fd), z289.toNat, z290.toNat⟩ : Wl)
  | _ => default
def wls (l : List Wl) : List (List C) := l.map Wl.enc
def dwls (l : List (List C)) : List Wl := l.map Wl.dec
@[simp, go_sem] theorem wls_length (l : List Wl) : (wls l).length = l.length := by simp [wls]
@[go_sem] theorem wls_get (l : List Wl) (i : Nat) : (wls l).getD i [.sl [], .sl [], .sl [], .sl [], .int .u64 0, .sl [], .int .u64 0, .int .u64 0] = (l.getD i default).enc := by
  simp only [wls, List.getD_eq_getElem?_getD, List.getElem?_map]
  cases l[i]? <;> rfl
@[go_sem] theorem wls_wide (l : List Wl) : Wide 8 (wls l) = True := by
  simp [Wide, wls, Wl.enc]
theorem Wl.dec_enc (e : Wl) : Wl.dec e.enc = e := by
  simp [Wl.enc, Wl.dec, dchs_chs, devs_evs, divs_ivs, dpys_pys, dwts_wts]
@[go_sem] theorem dwls_wls (l : List Wl) : dwls (wls l) = l := by
  simp only [dwls, wls, List.map_map]
  exact List.map_id'' (fun e => Wl.dec_enc e) l
@[go_sem] theorem wls_app (a b : List Wl) : wls a ++ wls b = wls (a ++ b) := by simp [wls]
@[go_sem] theorem wls_drop (l : List Wl) (k : Nat) : (wls l).drop k = wls (l.drop k) := by simp [wls]
@[go_sem] theorem wls_take (l : List Wl) (k : Nat) : (wls l).take k = wls (l.take k) := by simp [wls]
@[go_sem] theorem wls_one (z291 : List Ch) (z292 : List Wt) (z293 : List Iv) (z294 : List Py) (z295 : Int) (z296 : List Ev) (z297 : Int) (z298 : Int) (hz295 : 0 ≤ z295) (hz297 : 0 ≤ z297) (hz298 : 0 ≤ z298) : [[C.sl (chs z291), C.sl (wts z292), C.sl (ivs z293), C.sl (pys z294), C.int .u64 z295, C.sl (evs z296), C.int .u64 z297, C.int .u64 z298]] = wls [⟨z291, z292, z293, z294, ⟨z295.toNat, z296⟩, z297.toNat, z298.toNat⟩] := by simp [wls, Wl.enc, Int.toNat_of_nonneg hz295, Int.toNat_of_nonneg hz297, Int.toNat_of_nonneg hz298]
@[go_sem] theorem wls_set (l : List Wl) (i : Nat) (z291 : List Ch) (z292 : List Wt) (z293 : List Iv) (z294 : List Py) (z295 : Int) (z296 : List Ev) (z297 : Int) (z298 : Int) (hz295 : 0 ≤ z295) (hz297 : 0 ≤ z297) (hz298 : 0 ≤ z298) : (wls l).set i [C.sl (chs z291), C.sl (wts z292), C.sl (ivs z293), C.sl (pys z294), C.int .u64 z295, C.sl (evs z296), C.int .u64 z297, C.int .u64 z298] = wls (l.set i ⟨z291, z292, z293, z294, ⟨z295.toNat, z296⟩, z297.toNat, z298.toNat⟩) := by simp [wls, List.map_set, Wl.enc, Int.toNat_of_nonneg hz295, Int.toNat_of_nonneg hz297, Int.toNat_of_nonneg hz298]
@[go_sem] theorem wls_cons (l : List Wl) (z291 : List Ch) (z292 : List Wt) (z293 : List Iv) (z294 : List Py) (z295 : Int) (z296 : List Ev) (z297 : Int) (z298 : Int) (hz295 : 0 ≤ z295) (hz297 : 0 ≤ z297) (hz298 : 0 ≤ z298) : [C.sl (chs z291), C.sl (wts z292), C.sl (ivs z293), C.sl (pys z294), C.int .u64 z295, C.sl (evs z296), C.int .u64 z297, C.int .u64 z298] :: wls l = wls (⟨z291, z292, z293, z294, ⟨z295.toNat, z296⟩, z297.toNat, z298.toNat⟩ :: l) := by simp [wls, Wl.enc, Int.toNat_of_nonneg hz295, Int.toNat_of_nonneg hz297, Int.toNat_of_nonneg hz298]
@[go_sem] theorem Wl.eta {e : Wl} : (⟨e.c, e.w, e.i, e.p, e.f, e.next, e.tick⟩ : Wl) = e := rfl
def okW (w : Wl) : Prop := okLd w.c ∧ okIv w.i ∧ okFd w.f ∧ w.w.length ≤ 32 ∧ w.next ≠ 0 ∧ w.next ≤ MM ∧ (0 < w.p.length → (w.p.getD (w.p.length - 1) default).id < w.next) ∧ agrL w.p w.c = (true, 0)
instance (w : Wl) : Decidable (okW w) := by unfold okW; infer_instance
def chkW (w : Wl) : Int := if okW w then 0 else 1
theorem chkW_0 {w : Wl} : chkW w = 0 ↔ okW w := by unfold chkW; split <;> rename_i h <;> simp only [h] <;> decide
@[go_sem] def wnew_r  : D := .agg [.sl (chs []), .sl (wts []), .sl (ivs []), .sl (pys []), .int .u64 1, .sl (evs []), .int .u64 1, .int .u64 0]
@[go_sem] abbrev n_wnew : FuncId := 40
@[go_sem] def wnew_T : Tab := [(116, sp_fnew)]
theorem wnew_T_ok : TabOk Tryz.prog wnew_T := (TabOk.cons sp_fnew_ok TabOk.nil)
set_option maxRecDepth 8000 in
set_option maxHeartbeats 1000000 in
theorem wnew_ok   : PureFn Tryz.prog 40 [] (wnew_r ) := by
  refine .of (ac40 wnew_T_ok (Nat.le_of_ble_eq_true rfl) ?_)
  simp -implicitDefEqProofs only [cdA, go_sem, Go.Proofs.Tryz.f40, reduceIte, List.cons.injEq, cdB]
  exact ⟨rfl, rfl, rfl, rfl⟩
def sp_wnew : List D → Option (Prop × D × Fr)
  | [] => some (True, wnew_r , [])
  | _ => none
attribute [go_sem] sp_wnew
theorem sp_wnew_ok : ∀ rs p r fr, sp_wnew rs = some (p, r, fr) → p → FnOk Tryz.prog 40 rs r fr := by
  intro rs p r fr h hp
  unfold sp_wnew at h
  split at h <;> cases h
  exact wnew_ok 
@[go_sem] def wcheck_r (w : Wl) : D := .int .i64 (chkW w)
@[go_sem] abbrev n_wcheck : FuncId := 37
@[go_sem] def wcheck_T : Tab := [(102, sp_lcheck), (103, sp_icheck), (104, sp_fcheck), (105, sp_pagree)]
theorem wcheck_T_ok : TabOk Tryz.prog wcheck_T := (TabOk.cons sp_lcheck_ok (TabOk.cons sp_icheck_ok (TabOk.cons sp_fcheck_ok (TabOk.cons sp_pagree_ok TabOk.nil))))
set_option maxRecDepth 8000 in
set_option maxHeartbeats 1000000 in
theorem wcheck_ok (w : Wl) (h : w.f.next ≤ 18446744073709551615) : PureFn Tryz.prog 37 [.agg [.sl (chs w.c), .sl (wts w.w), .sl (ivs w.i), .sl (pys w.p), .c (.int .u64 (w.f.next : Int)), .sl (evs w.f.l), .c (.int .u64 (w.next : Int)), .c (.int .u64 (w.tick : Int))]] (wcheck_r w) := by
  refine .of (ac37 wcheck_T_ok (Nat.le_of_ble_eq_true rfl) ?_)
  simp -implicitDefEqProofs only [cdA, go_sem, Go.Proofs.Tryz.f37, reduceIte, List.cons.injEq, cdB]
  have hbad : ¬ okW w → 1 = chkW w := fun h => by rw [chkW, if_neg h]
  have hl0 : chkL w.c = 0 ↔ okLd w.c := by unfold chkL; split <;> rename_i h <;> simp only [h] <;> decide
  have hi0 : chkI w.i = 0 ↔ okIv w.i := by unfold chkI; split <;> rename_i h <;> simp only [h] <;> decide
  refine ⟨fun h1 => ⟨fun h2 => ⟨h, fun h3 _ => ⟨fun h4 => ⟨fun h5 => ⟨fun h6 => hbad fun ho => ?_, fun h6 _ => ?_⟩, fun h5 => hbad fun ho => ?_⟩, fun h4 => hbad fun ho => ?_⟩, fun h3 => hbad fun ho => h3 (chkF_0.2 ho.2.2.1)⟩, fun h2 => hbad fun ho => h2 (hi0.2 ho.2.1)⟩, fun h1 => hbad fun ho => h1 (hl0.2 ho.1)⟩
  rotate_left 1
  · refine ADraw.run us37_4 wcheck_T_ok follows_mixed (by kernel_rfl) (by kernel_rfl) ?_
    simp -implicitDefEqProofs only [cdA, go_sem, reduceIte, List.cons.injEq, cdB]
    have hL := hl0.1 h1
    have hh : ∀ c ∈ w.c, c.holds.length ≤ 1000000 := fun c hc => by have := (hL.2.1 c hc).2.2.1; omega
    have hfin : (0 < w.p.length → (w.p.getD (w.p.length - 1) default).id < w.next) → ((agrL w.p w.c).2 = 0 → ((agrL w.p w.c).1 = true → 0 = chkW w) ∧ ((agrL w.p w.c).1 = false → 1 = chkW w)) ∧ (¬(agrL w.p w.c).2 = 0 → 1 = chkW w) := fun h7 =>
      ⟨fun h8 => ⟨fun h9 => by
        rw [chkW, if_pos (show okW w from ⟨hL, hi0.1 h2, chkF_0.1 h3, by omega, by omega, by unfold MM; omega, h7, Prod.ext h9 h8⟩)], fun h9 => hbad fun ho => by have := ho.2.2.2.2.2.2.2; rw [this] at h9; cases h9⟩,
        fun h8 => hbad fun ho => by have := ho.2.2.2.2.2.2.2; rw [this] at h8; exact h8 rfl⟩
    refine ⟨fun h7 => ?_, fun h7 => ⟨hh, hfin fun h => absurd h (by omega)⟩⟩
    rw [i64_in _ (by omega), show ((w.p.length : Int) - 1).toNat = w.p.length - 1 by omega]
    refine ⟨by omega, fun h8 => hbad fun ho => ?_, fun h8 => ⟨hh, hfin fun _ => by omega⟩⟩
    have := ho.2.2.2.2.2.2.1 (by omega); omega
  · have := ho.2.2.2.2.1; omega
  · have := ho.2.2.2.1; omega
  · have := ho.2.2.2.2.2.1; unfold MM at this; omega
@[go_sem] def wcheck_p (w : Wl) : Prop := (w.f.next ≤ 18446744073709551615)
def sp_wcheck : List D → Option (Prop × D × Fr)
  | [.agg [.c (.sl z300), .c (.sl z301), .c (.sl z302), .c (.sl z303), .c (.int .u64 z305), .c (.sl z306), .c (.int .u64 z307), .c (.int .u64 z308)]] => some (z300 = chs (dchs z300) ∧ z301 = wts (dwts z301) ∧ z302 = ivs (divs z302) ∧ z303 = pys (dpys z303) ∧ z305 = (z305.toNat : Int) ∧ z306 = evs (devs z306) ∧ z307 = (z307.toNat : Int) ∧ z308 = (z308.toNat : Int) ∧ wcheck_p (⟨(dchs z300), (dwts z301), (divs z302), (dpys z303), (⟨z305.toNat, (devs z306)⟩ : Fd), z307.toNat, z308.toNat⟩ : Wl), wcheck_r (⟨(dchs z300), (dwts z301), (divs z302), (dpys z303), (⟨z305.toNat, (devs z306)⟩ : Fd), z307.toNat, z308.toNat⟩ : Wl), [])
  | _ => none
attribute [go_sem] sp_wcheck
theorem sp_wcheck_ok : ∀ rs p r fr, sp_wcheck rs = some (p, r, fr) → p → FnOk Tryz.prog 37 rs r fr := by
  intro rs p r fr h hp
  unfold sp_wcheck at h
  split at h <;> cases h
  obtain ⟨hc0, hc1, hc2, hc3, hc4, hc5, hc6, hc7, hp⟩ := hp
  rename_i z300 z301 z302 z303 z305 z306 z307 z308
  obtain ⟨z300, rfl⟩ : ∃ m, z300 = chs m := ⟨_, hc0⟩
  obtain ⟨z301, rfl⟩ : ∃ m, z301 = wts m := ⟨_, hc1⟩
  obtain ⟨z302, rfl⟩ : ∃ m, z302 = ivs m := ⟨_, hc2⟩
  obtain ⟨z303, rfl⟩ : ∃ m, z303 = pys m := ⟨_, hc3⟩
  obtain ⟨z305, rfl⟩ : ∃ m : Nat, z305 = m := ⟨_, hc4⟩
  obtain ⟨z306, rfl⟩ : ∃ m, z306 = evs m := ⟨_, hc5⟩
  obtain ⟨z307, rfl⟩ : ∃ m : Nat, z307 = m := ⟨_, hc6⟩
  obtain ⟨z308, rfl⟩ : ∃ m : Nat, z308 = m := ⟨_, hc7⟩
  simp only [Int.toNat_natCast, dchs_chs, devs_evs, divs_ivs, dpys_pys, dwts_wts]
  simp only [Int.toNat_natCast, dchs_chs, devs_evs, divs_ivs, dpys_pys, dwts_wts, wcheck_p] at hp
  exact wcheck_ok ⟨z300, z301, z302, z303, ⟨z305, z306⟩, z307, z308⟩ hp
end Dm
namespace Dm
open Go Go.Proofs Go.IntWalk
@[go_sem] def hclone_r (l : List Hd) : D := .sl (hds l)
@[go_sem] abbrev n_hclone : FuncId := 153
@[go_sem] def hclone_T : Tab := []
theorem hclone_T_ok : TabOk Tryz.prog hclone_T := TabOk.nil
set_option maxRecDepth 8000 in
set_option maxHeartbeats 1000000 in
theorem hclone_ok (l : List Hd) (h : l.length ≤ 1000000) : PureFn Tryz.prog 153 [.sl (hds l)] (hclone_r l) := by
  refine .of (ac153 hclone_T_ok (Nat.le_of_ble_eq_true rfl) ?_)
  simp -implicitDefEqProofs only [cdA, go_sem, Go.Proofs.Tryz.f153, reduceIte, List.cons.injEq, cdB]
  exact fun b hb => ⟨hb, fun _ => ⟨by omega, _, _, _, rfl⟩⟩
@[go_sem] def hclone_p (l : List Hd) : Prop := (l.length ≤ 1000000)
def sp_hclone : List D → Option (Prop × D × Fr)
  | [.c (.sl z169)] => some (z169 = hds (dhds z169) ∧ hclone_p (dhds z169), hclone_r (dhds z169), [])
  | _ => none
attribute [go_sem] sp_hclone
theorem sp_hclone_ok : ∀ rs p r fr, sp_hclone rs = some (p, r, fr) → p → FnOk Tryz.prog 153 rs r fr := by
  intro rs p r fr h hp
  unfold sp_hclone at h
  split at h <;> cases h
  obtain ⟨hc0, hp⟩ := hp
  rename_i z169
  obtain ⟨z169, rfl⟩ : ∃ m, z169 = hds m := ⟨_, hc0⟩
  simp only [dhds_hds]
  simp only [dhds_hds, hclone_p] at hp
  exact hclone_ok z169 hp
@[go_sem] def own_r (c : Ch) : D := .agg [.int .u64 c.id, .int .u64 c.loc, .int .u64 c.rem, .int .u64 c.res, .int .u64 c.most, .sl (hds c.holds), .bool c.op]
@[go_sem] abbrev n_own : FuncId := 64
@[go_sem] def own_T : Tab := [(153, sp_hclone)]
theorem own_T_ok : TabOk Tryz.prog own_T := (TabOk.cons sp_hclone_ok TabOk.nil)
set_option maxRecDepth 8000 in
set_option maxHeartbeats 1000000 in
theorem own_ok (c : Ch) (h : c.holds.length ≤ 1000000) : PureFn Tryz.prog 64 [.agg [.c (.int .u64 (c.id : Int)), .c (.int .u64 (c.loc : Int)), .c (.int .u64 (c.rem : Int)), .c (.int .u64 (c.res : Int)), .c (.int .u64 (c.most : Int)), .sl (hds c.holds), .c (.bool c.op)]] (own_r c) := by
  refine .of (ac64 own_T_ok (Nat.le_of_ble_eq_true rfl) ?_)
  simp -implicitDefEqProofs only [cdA, go_sem, Go.Proofs.Tryz.f64, reduceIte, List.cons.injEq, cdB]
  exact h
@[go_sem] def own_p (c : Ch) : Prop := (c.holds.length ≤ 1000000)
def sp_own : List D → Option (Prop × D × Fr)
  | [.agg [.c (.int .u64 z171), .c (.int .u64 z172), .c (.int .u64 z173), .c (.int .u64 z174), .c (.int .u64 z175), .c (.sl z176), .c (.bool z177)]] => some (z171 = (z171.toNat : Int) ∧ z172 = (z172.toNat : Int) ∧ z173 = (z173.toNat : Int) ∧ z174 = (z174.toNat : Int) ∧ z175 = (z175.toNat : Int) ∧ z176 = hds (dhds z176) ∧ own_p (⟨z171.toNat, z172.toNat, z173.toNat, z174.toNat, z175.toNat, (dhds z176), z177⟩ : Ch), own_r (⟨z171.toNat, z172.toNat, z173.toNat, z174.toNat, z175.toNat, (dhds z176), z177⟩ : Ch), [])
  | _ => none
attribute [go_sem] sp_own
theorem sp_own_ok : ∀ rs p r fr, sp_own rs = some (p, r, fr) → p → FnOk Tryz.prog 64 rs r fr := by
  intro rs p r fr h hp
  unfold sp_own at h
  split at h <;> cases h
  obtain ⟨hc0, hc1, hc2, hc3, hc4, hc5, hp⟩ := hp
  rename_i z171 z172 z173 z174 z175 z176 z177
  obtain ⟨z171, rfl⟩ : ∃ m : Nat, z171 = m := ⟨_, hc0⟩
  obtain ⟨z172, rfl⟩ : ∃ m : Nat, z172 = m := ⟨_, hc1⟩
  obtain ⟨z173, rfl⟩ : ∃ m : Nat, z173 = m := ⟨_, hc2⟩
  obtain ⟨z174, rfl⟩ : ∃ m : Nat, z174 = m := ⟨_, hc3⟩
  obtain ⟨z175, rfl⟩ : ∃ m : Nat, z175 = m := ⟨_, hc4⟩
  obtain ⟨z176, rfl⟩ : ∃ m, z176 = hds m := ⟨_, hc5⟩
  simp only [Int.toNat_natCast, dhds_hds]
  simp only [Int.toNat_natCast, dhds_hds, own_p] at hp
  exact own_ok ⟨z171, z172, z173, z174, z175, z176, z177⟩ hp
def placeL (l : List Ch) (id : Nat) : Int × Int := if okLd l then (if Srt.thr Ch.id ltN l id = true then ((Srt.pos Ch.id ltN l id : Nat), 0) else (0, 5)) else (0, 1)
@[go_sem] def place_r (l : List Ch) (id : Nat) : D := .tup [.int .i64 (placeL l id).1, .int .i64 (placeL l id).2]
@[go_sem] abbrev n_place : FuncId := 63
@[go_sem] def place_T : Tab := [(102, sp_lcheck), (144, sp_lorder)]
theorem place_T_ok : TabOk Tryz.prog place_T := (TabOk.cons sp_lcheck_ok (TabOk.cons sp_lorder_ok TabOk.nil))
set_option maxRecDepth 8000 in
set_option maxHeartbeats 1000000 in
theorem place_ok (l : List Ch) (id : Nat)  : PureFn Tryz.prog 63 [.sl (chs l), .c (.int .u64 (id : Int))] (place_r l id) := by
  refine .of (ac63 place_T_ok (Nat.le_of_ble_eq_true rfl) ?_)
  simp -implicitDefEqProofs only [cdA, go_sem, Go.Proofs.Tryz.f63, reduceIte, List.cons.injEq, cdB]
  have hcz : chkL l = 0 ↔ okLd l := by unfold chkL; split <;> simp_all
  refine ⟨fun hok0 => ?_, fun hno0 => by
    have hno : ¬ okLd l := fun h => hno0 (hcz.2 h)
    rw [placeL, chkL, if_neg hno, if_neg hno]; exact ⟨rfl, rfl⟩⟩
  have hok := hcz.1 hok0
  have hu : Srt.Up Ch.id ltN l := (Srt.chn_up (lt := ltN) Srt.totNat).1 hok.2.2.1
  have hl32 := hok.1
  refine ac152 place_T_ok (Nat.le_of_ble_eq_true rfl) ?_
  simp -implicitDefEqProofs only [cdA, go_sem, Go.Proofs.Tryz.f152, reduceIte, List.cons.injEq, cdB]
  refine fun _ => SWp.loop (ι := { x : Nat × Nat // x.1 ≤ x.2 ∧ x.2 ≤ l.length ∧ (∀ k, k < x.1 → (l.getD k default).id < id) ∧ ∀ k, x.2 ≤ k → k < l.length → ¬ (l.getD k default).id < id }) (fun x => ⟨[(0, .sl (chs l)), (1, .int .u64 id), (2, .fn (.func 144) [] []), (8, .int .i64 l.length), (9, .int .i64 x.1.1), (10, .int .i64 x.1.2)], [], 0⟩) (fun x => x.1.2 - x.1.1) ⟨(0, l.length), by simp, by simp, fun k hk => absurd hk (by simp), fun k h1 h2 => absurd h1 (by simpa using h2)⟩ ?_ ?_
  · simp [go_sem]
  · rintro ⟨⟨i, j⟩, hij, hj, hlo, hup⟩
    dsimp only at hij hj hlo hup
    refine awp_sound place_T_ok.toS lv152 _ _ _ rfl ?_
    simp -implicitDefEqProofs only [cdA, go_sem, reduceIte, List.cons.injEq, cdB]
    rw [mid_eq hij hj ‹_›]
    refine ⟨fun h4 => ?_, fun h4 => ?_⟩
    · have hm : (i + j) / 2 < l.length := by omega
      rw [cmpS_neg, Int.toNat_natCast]
      refine ⟨by omega, fun h5 => ⟨⟨((i + j) / 2 + 1, j), by dsimp only; omega, hj, fun k hk => ?_, hup⟩, by dsimp only; omega, i64_in _ (by omega), rfl⟩, fun h5 => ⟨⟨(i, (i + j) / 2), by dsimp only; omega, by dsimp only; omega, hlo, fun k hk1 hk2 => ?_⟩, by dsimp only; omega, rfl, rfl⟩⟩
      · dsimp only at hk
        by_cases hkm : k = (i + j) / 2
        · rw [hkm]; omega
        · have := Srt.up_get.1 hu k _ (by omega) hm
          simp only [ltN] at this; omega
      · dsimp only at hk1
        by_cases hkm : k = (i + j) / 2
        · rw [hkm]; omega
        · have := Srt.up_get.1 hu ((i + j) / 2) k (by omega) hk2
          simp only [ltN] at this; omega
    · have hp : Srt.pos Ch.id ltN l id = i := Srt.pos_eq (by omega) hlo (fun h => hup i (by omega) h)
      rw [placeL, if_pos hok, Srt.thr, hp, cmpS_0]
      refine ⟨fun h5 => ⟨by omega, fun h6 => ?_, fun h6 => ?_⟩, fun h5 => ?_⟩
      · rw [if_pos (decide_eq_true ⟨by omega, by omega⟩)]; exact ⟨rfl, rfl⟩
      · rw [if_neg (by rw [decide_eq_true_iff]; omega)]; exact ⟨rfl, rfl⟩
      · rw [if_neg (by rw [decide_eq_true_iff]; omega)]; exact ⟨rfl, rfl⟩
def sp_place : List D → Option (Prop × D × Fr)
  | [.c (.sl z178), .c (.int .u64 z179)] => some (z178 = chs (dchs z178) ∧ z179 = (z179.toNat : Int), place_r (dchs z178) z179.toNat, [])
  | _ => none
attribute [go_sem] sp_place
theorem sp_place_ok : ∀ rs p r fr, sp_place rs = some (p, r, fr) → p → FnOk Tryz.prog 63 rs r fr := by
  intro rs p r fr h hp
  unfold sp_place at h
  split at h <;> cases h
  obtain ⟨hc0, hc1⟩ := hp
  rename_i z178 z179
  obtain ⟨z178, rfl⟩ : ∃ m, z178 = chs m := ⟨_, hc0⟩
  obtain ⟨z179, rfl⟩ : ∃ m : Nat, z179 = m := ⟨_, hc1⟩
  simp only [Int.toNat_natCast, dchs_chs]
  exact place_ok z178 z179
end Dm
namespace Dm
open Go Go.Proofs Go.IntWalk
@[go_sem] def cclone_r (l : List Ch) : D := .vec 0 l.length
@[go_sem] def cclone_fr (l : List Ch) : Fr := [(7, 50, true, chs l)]
@[go_sem] abbrev n_cclone : FuncId := 204
@[go_sem] def cclone_T : Tab := []
theorem cclone_T_ok : TabOk Tryz.prog cclone_T := TabOk.nil
set_option maxRecDepth 8000 in
set_option maxHeartbeats 1000000 in
theorem cclone_ok (l : List Ch) (h : l.length ≤ 1000000) : FreshFn Tryz.prog 204 [.sl (chs l)] (cclone_r l) (cclone_fr l) := by
  refine .of (ac204 cclone_T_ok (Nat.le_of_ble_eq_true rfl) ?_)
  simp -implicitDefEqProofs only [cdA, go_sem, Go.Proofs.Tryz.f204, reduceIte, List.cons.injEq, cdB]
  refine fun b hb => ⟨fun h => ?_, fun h => ?_⟩
  · exact ⟨[none], by simp [go_sem, hb h], by cases l <;> simp_all [go_sem, chs]⟩
  · exact ⟨by omega, [some 0], by simp [go_sem]⟩
@[go_sem] def cclone_p (l : List Ch) : Prop := (l.length ≤ 1000000)
def sp_cclone : List D → Option (Prop × D × Fr)
  | [.c (.sl z182)] => some (z182 = chs (dchs z182) ∧ cclone_p (dchs z182), cclone_r (dchs z182), cclone_fr (dchs z182))
  | _ => none
attribute [go_sem] sp_cclone
theorem sp_cclone_ok : ∀ rs p r fr, sp_cclone rs = some (p, r, fr) → p → FnOk Tryz.prog 204 rs r fr := by
  intro rs p r fr h hp
  unfold sp_cclone at h
  split at h <;> cases h
  obtain ⟨hc0, hp⟩ := hp
  rename_i z182
  obtain ⟨z182, rfl⟩ : ∃ m, z182 = chs m := ⟨_, hc0⟩
  simp only [dchs_chs]
  simp only [dchs_chs, cclone_p] at hp
  exact (show FnOk _ _ _ _ _ from And.intro rfl (cclone_ok z182 hp))
def whereI (l : List Ch) (h : Nat) : Nat × Int := if okLd l then (match nlk h (hm 0 l) with
  | some i => ((l.getD i.toNat default).id, 0)
  | none => (0, 5)) else (0, 1)
theorem hm_range : ∀ {l : List Ch} {s : Int} {k : Nat} {a : Int}, (k, a) ∈ hm s l → s ≤ a ∧ a < s + l.length
  | [], _, _, _, h => by cases h
  | c :: l, s, k, a, h => by
    rw [hm, List.mem_append] at h
    simp only [List.length_cons]
    rcases h with h | h
    · obtain ⟨x, _, hx⟩ := List.mem_map.1 h
      cases hx
      omega
    · have := hm_range h
      omega
@[go_sem] def lwhere_r (l : List Ch) (h : Nat) : D := .tup [.int .u64 ((whereI l h).1 : Int), .int .i64 (whereI l h).2]
@[go_sem] abbrev n_lwhere : FuncId := 14
@[go_sem] def lwhere_T : Tab := [(57, sp_lread)]
theorem lwhere_T_ok : TabOk Tryz.prog lwhere_T := (TabOk.cons sp_lread_ok TabOk.nil)
set_option maxRecDepth 8000 in
set_option maxHeartbeats 1000000 in
theorem lwhere_ok (l : List Ch) (h : Nat)  : PureFn Tryz.prog 14 [.sl (chs l), .c (.int .u64 (h : Int))] (lwhere_r l h) := by
  refine .of (ac14 lwhere_T_ok (Nat.le_of_ble_eq_true rfl) ?_)
  simp -implicitDefEqProofs only [cdA, go_sem, Go.Proofs.Tryz.f14, reduceIte, List.cons.injEq, cdB]
  by_cases hok : okLd l
  · have e1 : readL l = (hm 0 l, 0) := by rw [readL, if_pos hok]
    rw [e1, whereI, if_pos hok]
    refine ⟨fun _ => ⟨fun a ha => ?_, fun hn => ?_⟩, fun h => absurd rfl h⟩
    · have hnd : ((hm 0 l).map (·.1)).Nodup := by rw [hm_keys]; exact hok.2.2.2.1
      have := hm_range ((nlk_some hnd).1 ha)
      rw [ha]
      exact ⟨⟨by omega, by omega⟩, rfl, rfl⟩
    · rw [hn]; exact ⟨rfl, rfl⟩
  · have e1 : readL l = ([], 1) := by rw [readL, if_neg hok]
    rw [e1, whereI, if_neg hok]
    exact ⟨fun h => absurd h (by decide), fun _ => ⟨rfl, rfl⟩⟩
def sp_lwhere : List D → Option (Prop × D × Fr)
  | [.c (.sl z183), .c (.int .u64 z184)] => some (z183 = chs (dchs z183) ∧ z184 = (z184.toNat : Int), lwhere_r (dchs z183) z184.toNat, [])
  | _ => none
attribute [go_sem] sp_lwhere
theorem sp_lwhere_ok : ∀ rs p r fr, sp_lwhere rs = some (p, r, fr) → p → FnOk Tryz.prog 14 rs r fr := by
  intro rs p r fr h hp
  unfold sp_lwhere at h
  split at h <;> cases h
  obtain ⟨hc0, hc1⟩ := hp
  rename_i z183 z184
  obtain ⟨z183, rfl⟩ : ∃ m, z183 = chs m := ⟨_, hc0⟩
  obtain ⟨z184, rfl⟩ : ∃ m : Nat, z184 = m := ⟨_, hc1⟩
  simp only [Int.toNat_natCast, dchs_chs]
  exact lwhere_ok z183 z184
@[go_sem] def owns_r (l : List Ch) : D := .vec 0 l.length
@[go_sem] def owns_fr (l : List Ch) : Fr := [(7, 50, true, chs l)]
@[go_sem] abbrev n_owns : FuncId := 185
@[go_sem] def owns_T : Tab := [(204, sp_cclone), (64, sp_own)]
theorem owns_T_ok : TabOk Tryz.prog owns_T := (TabOk.cons sp_cclone_ok (TabOk.cons sp_own_ok TabOk.nil))
set_option maxRecDepth 8000 in
set_option maxHeartbeats 1000000 in
theorem owns_ok (l : List Ch) (h : l.length ≤ 1000000 ∧ ∀ c ∈ l, c.holds.length ≤ 1000000) : FreshFn Tryz.prog 185 [.sl (chs l)] (owns_r l) (owns_fr l) := by
  refine .of (ac185 owns_T_ok (Nat.le_of_ble_eq_true rfl) ?_)
  simp -implicitDefEqProofs only [cdA, go_sem, Go.Proofs.Tryz.f185, reduceIte, List.cons.injEq, cdB]
  refine ⟨h.1, fun _ => SWp.loop (ι := { i : Nat // i ≤ l.length }) (fun i => ⟨[(0, .vec 0 l.length), (7, .vec 0 l.length), (8, .int .i64 l.length), (9, .int .i64 i.1)], [(0, .vec true 7 50 (chs l))], 1⟩) (fun i => l.length - i.1) ⟨0, by omega⟩ ?_ ?_⟩
  · simp [go_sem]
  · rintro ⟨i, hi⟩
    refine awp_sound owns_T_ok.toS lv185 _ _ _ rfl ?_
    simp -implicitDefEqProofs only [cdA, go_sem, reduceIte, List.cons.injEq, cdB]
    refine ⟨fun h1 => ?_, fun _ => ⟨[some 0], by simp [go_sem]⟩⟩
    have hi' : i < l.length := by omega
    have hself : l.set i (l.getD i default) = l := by
      rw [getD_lt hi']; exact List.set_getElem_self hi'
    exact ⟨by omega, hi', h.2 _ (mem_getD.2 ⟨i, hi', rfl⟩), by omega, hi', ⟨i + 1, hi'⟩, by dsimp only; omega, i64_in _ (by omega), by rw [hself]⟩
@[go_sem] def owns_p (l : List Ch) : Prop := (l.length ≤ 1000000 ∧ ∀ c ∈ l, c.holds.length ≤ 1000000)
def sp_owns : List D → Option (Prop × D × Fr)
  | [.c (.sl z185)] => some (z185 = chs (dchs z185) ∧ owns_p (dchs z185), owns_r (dchs z185), owns_fr (dchs z185))
  | _ => none
attribute [go_sem] sp_owns
theorem sp_owns_ok : ∀ rs p r fr, sp_owns rs = some (p, r, fr) → p → FnOk Tryz.prog 185 rs r fr := by
  intro rs p r fr h hp
  unfold sp_owns at h
  split at h <;> cases h
  obtain ⟨hc0, hp⟩ := hp
  rename_i z185
  obtain ⟨z185, rfl⟩ : ∃ m, z185 = chs m := ⟨_, hc0⟩
  simp only [dchs_chs]
  simp only [dchs_chs, owns_p] at hp
  exact (show FnOk _ _ _ _ _ from And.intro rfl (owns_ok z185 hp))
end Dm
namespace Dm
open Go Go.Proofs Go.IntWalk
@[go_sem] def wtclone_r (l : List Wt) : D := .sl (wts l)
@[go_sem] abbrev n_wtclone : FuncId := 205
@[go_sem] def wtclone_T : Tab := []
theorem wtclone_T_ok : TabOk Tryz.prog wtclone_T := TabOk.nil
set_option maxRecDepth 8000 in
set_option maxHeartbeats 1000000 in
theorem wtclone_ok (l : List Wt) (h : l.length ≤ 1000000) : PureFn Tryz.prog 205 [.sl (wts l)] (wtclone_r l) := by
  refine .of (ac205 wtclone_T_ok (Nat.le_of_ble_eq_true rfl) ?_)
  simp -implicitDefEqProofs only [cdA, go_sem, Go.Proofs.Tryz.f205, reduceIte, List.cons.injEq, cdB]
  exact fun b hb => ⟨hb, fun _ => ⟨by omega, _, _, _, rfl⟩⟩
@[go_sem] def wtclone_p (l : List Wt) : Prop := (l.length ≤ 1000000)
def sp_wtclone : List D → Option (Prop × D × Fr)
  | [.c (.sl z309)] => some (z309 = wts (dwts z309) ∧ wtclone_p (dwts z309), wtclone_r (dwts z309), [])
  | _ => none
attribute [go_sem] sp_wtclone
theorem sp_wtclone_ok : ∀ rs p r fr, sp_wtclone rs = some (p, r, fr) → p → FnOk Tryz.prog 205 rs r fr := by
  intro rs p r fr h hp
  unfold sp_wtclone at h
  split at h <;> cases h
  obtain ⟨hc0, hp⟩ := hp
  rename_i z309
  obtain ⟨z309, rfl⟩ : ∃ m, z309 = wts m := ⟨_, hc0⟩
  simp only [dwts_wts]
  simp only [dwts_wts, wtclone_p] at hp
  exact wtclone_ok z309 hp
@[go_sem] def ivclone_r (l : List Iv) : D := .sl (ivs l)
@[go_sem] abbrev n_ivclone : FuncId := 172
@[go_sem] def ivclone_T : Tab := []
theorem ivclone_T_ok : TabOk Tryz.prog ivclone_T := TabOk.nil
set_option maxRecDepth 8000 in
set_option maxHeartbeats 1000000 in
theorem ivclone_ok (l : List Iv) (h : l.length ≤ 1000000) : PureFn Tryz.prog 172 [.sl (ivs l)] (ivclone_r l) := by
  refine .of (ac172 ivclone_T_ok (Nat.le_of_ble_eq_true rfl) ?_)
  simp -implicitDefEqProofs only [cdA, go_sem, Go.Proofs.Tryz.f172, reduceIte, List.cons.injEq, cdB]
  exact fun b hb => ⟨hb, fun _ => ⟨by omega, _, _, _, rfl⟩⟩
@[go_sem] def ivclone_p (l : List Iv) : Prop := (l.length ≤ 1000000)
def sp_ivclone : List D → Option (Prop × D × Fr)
  | [.c (.sl z310)] => some (z310 = ivs (divs z310) ∧ ivclone_p (divs z310), ivclone_r (divs z310), [])
  | _ => none
attribute [go_sem] sp_ivclone
theorem sp_ivclone_ok : ∀ rs p r fr, sp_ivclone rs = some (p, r, fr) → p → FnOk Tryz.prog 172 rs r fr := by
  intro rs p r fr h hp
  unfold sp_ivclone at h
  split at h <;> cases h
  obtain ⟨hc0, hp⟩ := hp
  rename_i z310
  obtain ⟨z310, rfl⟩ : ∃ m, z310 = ivs m := ⟨_, hc0⟩
  simp only [divs_ivs]
  simp only [divs_ivs, ivclone_p] at hp
  exact ivclone_ok z310 hp
@[go_sem] def pyclone_r (l : List Py) : D := .sl (pys l)
@[go_sem] abbrev n_pyclone : FuncId := 132
@[go_sem] def pyclone_T : Tab := []
theorem pyclone_T_ok : TabOk Tryz.prog pyclone_T := TabOk.nil
set_option maxRecDepth 8000 in
set_option maxHeartbeats 1000000 in
theorem pyclone_ok (l : List Py) (h : l.length ≤ 1000000) : PureFn Tryz.prog 132 [.sl (pys l)] (pyclone_r l) := by
  refine .of (ac132 pyclone_T_ok (Nat.le_of_ble_eq_true rfl) ?_)
  simp -implicitDefEqProofs only [cdA, go_sem, Go.Proofs.Tryz.f132, reduceIte, List.cons.injEq, cdB]
  exact fun b hb => ⟨hb, fun _ => ⟨by omega, _, _, _, rfl⟩⟩
@[go_sem] def pyclone_p (l : List Py) : Prop := (l.length ≤ 1000000)
def sp_pyclone : List D → Option (Prop × D × Fr)
  | [.c (.sl z311)] => some (z311 = pys (dpys z311) ∧ pyclone_p (dpys z311), pyclone_r (dpys z311), [])
  | _ => none
attribute [go_sem] sp_pyclone
theorem sp_pyclone_ok : ∀ rs p r fr, sp_pyclone rs = some (p, r, fr) → p → FnOk Tryz.prog 132 rs r fr := by
  intro rs p r fr h hp
  unfold sp_pyclone at h
  split at h <;> cases h
  obtain ⟨hc0, hp⟩ := hp
  rename_i z311
  obtain ⟨z311, rfl⟩ : ∃ m, z311 = pys m := ⟨_, hc0⟩
  simp only [dpys_pys]
  simp only [dpys_pys, pyclone_p] at hp
  exact pyclone_ok z311 hp
@[go_sem] def evclonep_r (l : List Ev) : D := .sl (evs l)
@[go_sem] abbrev n_evclonep : FuncId := 206
@[go_sem] def evclonep_T : Tab := []
theorem evclonep_T_ok : TabOk Tryz.prog evclonep_T := TabOk.nil
set_option maxRecDepth 8000 in
set_option maxHeartbeats 1000000 in
theorem evclonep_ok (l : List Ev) (h : l.length ≤ 1000000) : PureFn Tryz.prog 206 [.sl (evs l)] (evclonep_r l) := by
  refine .of (ac206 evclonep_T_ok (Nat.le_of_ble_eq_true rfl) ?_)
  simp -implicitDefEqProofs only [cdA, go_sem, Go.Proofs.Tryz.f206, reduceIte, List.cons.injEq, cdB]
  exact fun b hb => ⟨hb, fun _ => ⟨by omega, _, _, _, rfl⟩⟩
@[go_sem] def evclonep_p (l : List Ev) : Prop := (l.length ≤ 1000000)
def sp_evclonep : List D → Option (Prop × D × Fr)
  | [.c (.sl z312)] => some (z312 = evs (devs z312) ∧ evclonep_p (devs z312), evclonep_r (devs z312), [])
  | _ => none
attribute [go_sem] sp_evclonep
theorem sp_evclonep_ok : ∀ rs p r fr, sp_evclonep rs = some (p, r, fr) → p → FnOk Tryz.prog 206 rs r fr := by
  intro rs p r fr h hp
  unfold sp_evclonep at h
  split at h <;> cases h
  obtain ⟨hc0, hp⟩ := hp
  rename_i z312
  obtain ⟨z312, rfl⟩ : ∃ m, z312 = evs m := ⟨_, hc0⟩
  simp only [devs_evs]
  simp only [devs_evs, evclonep_p] at hp
  exact evclonep_ok z312 hp
def smallW (w : Wl) : Prop := w.c.length ≤ 1000000 ∧ (∀ c ∈ w.c, c.holds.length ≤ 1000000) ∧ w.w.length ≤ 1000000 ∧ w.i.length ≤ 1000000 ∧ w.p.length ≤ 1000000 ∧ w.f.l.length ≤ 1000000
@[go_sem] def wown_r (w : Wl) : D := .agg [.sl (chs w.c), .sl (wts w.w), .sl (ivs w.i), .sl (pys w.p), .int .u64 w.f.next, .sl (evs w.f.l), .int .u64 w.next, .int .u64 w.tick]
@[go_sem] abbrev n_wown : FuncId := 119
@[go_sem] def wown_T : Tab := [(204, sp_cclone), (153, sp_hclone), (205, sp_wtclone), (172, sp_ivclone), (132, sp_pyclone), (206, sp_evclonep)]
theorem wown_T_ok : TabOk Tryz.prog wown_T := (TabOk.cons sp_cclone_ok (TabOk.cons sp_hclone_ok (TabOk.cons sp_wtclone_ok (TabOk.cons sp_ivclone_ok (TabOk.cons sp_pyclone_ok (TabOk.cons sp_evclonep_ok TabOk.nil))))))
set_option maxRecDepth 8000 in
set_option maxHeartbeats 1000000 in
theorem wown_ok (w : Wl) (h : smallW w) : PureFn Tryz.prog 119 [.agg [.sl (chs w.c), .sl (wts w.w), .sl (ivs w.i), .sl (pys w.p), .c (.int .u64 (w.f.next : Int)), .sl (evs w.f.l), .c (.int .u64 (w.next : Int)), .c (.int .u64 (w.tick : Int))]] (wown_r w) := by
  refine .of (ac119 wown_T_ok (Nat.le_of_ble_eq_true rfl) ?_)
  simp -implicitDefEqProofs only [cdA, go_sem, Go.Proofs.Tryz.f119, reduceIte, List.cons.injEq, cdB]
  refine ADraw.run us119_1 wown_T_ok follows_mixed (by kernel_rfl) (by kernel_rfl) ?_
  simp -implicitDefEqProofs only [cdA, go_sem, reduceIte, List.cons.injEq, cdB]
  obtain ⟨h1, h2, h3, h4, h5, h6⟩ := h
  refine ⟨h1, h3, h4, h5, h6, fun _ => SWp.loop (ι := { i : Nat // i ≤ w.c.length }) (fun i => ⟨[(1, .ref 0 0), (2, .ref 1 0), (28, .vec 2 w.c.length), (29, .int .i64 w.c.length), (30, .int .i64 i.1)],
    [(2, .vec true 7 50 (chs w.c)), (0, .box [.vec 2 w.c.length, .sl (wts w.w), .sl (ivs w.i), .sl (pys w.p), .c (.int .u64 w.f.next), .sl (evs w.f.l), .c (.int .u64 w.next), .c (.int .u64 w.tick)]),
      (1, .box [.nil, .nil, .nil, .nil, .c (.int .u64 0), .nil, .c (.int .u64 0), .c (.int .u64 0)])], 3⟩) (fun i => w.c.length - i.1) ⟨0, by omega⟩ ?_ ?_⟩
  · simp [go_sem]
  · rintro ⟨i, hi⟩
    refine awp_sound wown_T_ok.toS lv119 _ _ _ rfl ?_
    simp -implicitDefEqProofs only [cdA, go_sem, reduceIte, List.cons.injEq, cdB]
    refine ⟨fun h7 => ⟨by omega, by omega, ?_⟩, fun _ => ⟨_, _, _, rfl⟩⟩
    have hi' : i < w.c.length := by omega
    have hself : w.c.set i (w.c.getD i default) = w.c := by
      rw [getD_lt hi']; exact List.set_getElem_self hi'
    have hhl := h2 _ (mem_getD.2 ⟨i, hi', rfl⟩)
    refine ADraw.run us119_5 wown_T_ok follows_mixed (by kernel_rfl) (by kernel_rfl) ?_
    simp -implicitDefEqProofs only [cdA, go_sem, reduceIte, List.cons.injEq, cdB]
    exact ⟨hhl, by omega, hi', ⟨i + 1, hi'⟩, by dsimp only; omega, i64_in _ (by omega), by rw [hself]⟩
@[go_sem] def wown_p (w : Wl) : Prop := (smallW w)
def sp_wown : List D → Option (Prop × D × Fr)
  | [.agg [.c (.sl z314), .c (.sl z315), .c (.sl z316), .c (.sl z317), .c (.int .u64 z319), .c (.sl z320), .c (.int .u64 z321), .c (.int .u64 z322)]] => some (z314 = chs (dchs z314) ∧ z315 = wts (dwts z315) ∧ z316 = ivs (divs z316) ∧ z317 = pys (dpys z317) ∧ z319 = (z319.toNat : Int) ∧ z320 = evs (devs z320) ∧ z321 = (z321.toNat : Int) ∧ z322 = (z322.toNat : Int) ∧ wown_p (⟨(dchs z314), (dwts z315), (divs z316), (dpys z317), (⟨z319.toNat, (devs z320)⟩ : Fd), z321.toNat, z322.toNat⟩ : Wl), wown_r (⟨(dchs z314), (dwts z315), (divs z316), (dpys z317), (⟨z319.toNat, (devs z320)⟩ : Fd), z321.toNat, z322.toNat⟩ : Wl), [])
  | _ => none
attribute [go_sem] sp_wown
theorem sp_wown_ok : ∀ rs p r fr, sp_wown rs = some (p, r, fr) → p → FnOk Tryz.prog 119 rs r fr := by
  intro rs p r fr h hp
  unfold sp_wown at h
  split at h <;> cases h
  obtain ⟨hc0, hc1, hc2, hc3, hc4, hc5, hc6, hc7, hp⟩ := hp
  rename_i z314 z315 z316 z317 z319 z320 z321 z322
  obtain ⟨z314, rfl⟩ : ∃ m, z314 = chs m := ⟨_, hc0⟩
  obtain ⟨z315, rfl⟩ : ∃ m, z315 = wts m := ⟨_, hc1⟩
  obtain ⟨z316, rfl⟩ : ∃ m, z316 = ivs m := ⟨_, hc2⟩
  obtain ⟨z317, rfl⟩ : ∃ m, z317 = pys m := ⟨_, hc3⟩
  obtain ⟨z319, rfl⟩ : ∃ m : Nat, z319 = m := ⟨_, hc4⟩
  obtain ⟨z320, rfl⟩ : ∃ m, z320 = evs m := ⟨_, hc5⟩
  obtain ⟨z321, rfl⟩ : ∃ m : Nat, z321 = m := ⟨_, hc6⟩
  obtain ⟨z322, rfl⟩ : ∃ m : Nat, z322 = m := ⟨_, hc7⟩
  simp only [Int.toNat_natCast, dchs_chs, devs_evs, divs_ivs, dpys_pys, dwts_wts]
  simp only [Int.toNat_natCast, dchs_chs, devs_evs, divs_ivs, dpys_pys, dwts_wts, wown_p] at hp
  exact wown_ok ⟨z314, z315, z316, z317, ⟨z319, z320⟩, z321, z322⟩ hp
end Dm
namespace Dm
open Go Go.Proofs Go.IntWalk
@[go_sem] def hins_T2 : Tab := [ovk 252]
theorem hins_T2_ok : TabOk Tryz.prog hins_T2 := .cons (ov_ok 252) .nil
@[go_sem] def hins_T3 : Tab := [fg 12]
theorem hins_T3_ok : TabOk Tryz.prog hins_T3 := .cons (fg_ok 12) .nil
theorem hins_wide (l : List Hd) : Wide 2 (hds l) := of_eq_true (hds_wide l)
set_option maxRecDepth 8000 in
set_option maxHeartbeats 1000000 in
theorem hins_ok (l : List Hd) (x : Hd) (i : Nat) (hi : i ≤ l.length) (hl : l.length ≤ 1000000) :
    ACall Tryz.prog 219 [.vec 0 l.length, .int .i64 i, .vec 1 1] [(1, .vec true 2 62 (hds [x])), (0, .vec true 2 62 (hds l))] 2 fun d os _ => Grown 2 62 (hds (Srt.ins l i x)) d os := by
  have hil : (Srt.ins l i x).length = l.length + 1 := Srt.ins_len
  have hq : ∀ j os, lk j os = some (.vec true 2 62 (hds (Srt.ins l i x))) → Grown 2 62 (hds (Srt.ins l i x)) (.vec j (l.length + 1)) os := fun j os h => ⟨j, by rw [hds_length, hil], h⟩
  by_cases hin : i = l.length
  · refine ac219 hins_T3_ok (Nat.le_of_ble_eq_true rfl) ?_
    have e4 : ((1 : Int) = 0) = False := eq_false (by decide)
    subst hin
    simp -implicitDefEqProofs only [cdA, go_sem, Go.Proofs.Tryz.f219, e4, decide_true, reduceIte, List.cons.injEq, cdB]
    refine ⟨Int.le_refl _, fun h => h.elim, fun _ => ⟨by omega, hq _ _ ?_⟩⟩
    rw [lk_cons, if_neg (by decide), lk_hd]
    simp [Srt.ins]
  · have hlt : i < l.length := by omega
    refine ACall.opn 0 rfl (by rw [hds_length]; omega) fun c hc hcm => ?_
    refine ACall.seal ?_
    rw [hds_length] at hc
    refine ac219 hins_T2_ok (Nat.le_of_ble_eq_true rfl) ?_
    have e1 : IntKind.i64.wrap ((l.length : Int) + 1) = ((l.length + 1 : Nat) : Int) := by rw [i64_in _ (by omega)]; omega
    have e2 : IntKind.i64.wrap ((i : Int) + 1) = ((i + 1 : Nat) : Int) := by rw [i64_in _ (by omega)]; omega
    have e3 : ((i : Int) = (l.length : Int)) = False := eq_false (by omega)
    have e4 : ((1 : Int) = 0) = False := eq_false (by decide)
    have e5 : IntKind.i64.wrap ((l.length : Int) + 1 - (i : Int)) = ((l.length + 1 - i : Nat) : Int) := by rw [i64_in _ (by omega)]; omega
    have e6 : ((l.length : Int) + 1).toNat = l.length + 1 := by omega
    have e7 : ((i : Int) + 1).toNat = i + 1 := by omega
    have e8 : i + (l.length + 1 - i) = l.length + 1 := by omega
    simp -implicitDefEqProofs only [cdA, go_sem, Go.Proofs.Tryz.f219, e3, e4, e1, e2, e5, e6, e7, e8, decide_false, reduceIte, List.cons.injEq, cdB]
    refine ⟨by omega, fun _ => ⟨fun h1 => ⟨by omega, by omega, fun c1 h2 h3 => ⟨by omega, ?_⟩⟩, fun h1 => ⟨by omega, by omega, ?_, ?_⟩⟩⟩
    · refine ADraw.run us219_11 hins_T2_ok follows_mixed (by kernel_rfl) (by kernel_rfl) ?_
      simp -implicitDefEqProofs only [cdA, go_sem, e1, e2, e5, e6, e7, e8, reduceIte, List.cons.injEq, cdB]
      refine ⟨by omega, by omega, fun y hy => fit_wide (hins_wide l) y (List.mem_of_mem_take (List.mem_of_mem_drop hy)), ?_⟩
      have := ins_new (sz := 2) (c := c) (c1 := c1) (i := i) (E := hds l) (x := x.enc) (z := [C.int .u64 0, C.int .u64 0]) (by rw [hds_length]; exact hlt) (by rw [hds_length]; exact hc) (by rw [hds_length]; exact h2)
      rw [hds_length] at this
      refine hq _ _ ?_
      rw [lk_hd]
      congr 2
      rw [show hds (List.take (l.length + 1 - i) [x]) = List.take (l.length + 1 - i) [x.enc] by simp [hds], this]
      simp [hds, Srt.ins]
    · exact ⟨_, 48, 4, _, rfl, rfl, rfl, rfl, by kernel_rfl, elOf_48⟩
    · refine ADraw.run us219_15 hins_T2_ok follows_mixed (by kernel_rfl) (by kernel_rfl) ?_
      simp -implicitDefEqProofs only [cdA, go_sem, e1, e2, e5, e6, e7, e8, reduceIte, List.cons.injEq, cdB]
      refine ⟨by omega, by omega, fun y hy => fit_wide (hins_wide l) y (List.mem_of_mem_take (List.mem_of_mem_drop hy)), by omega, ?_⟩
      have := ins_old (sz := 2) (c := c) (i := i) (E := hds l) (x := x.enc) (by rw [hds_length]; exact hlt) (by rw [hds_length]; omega)
      rw [hds_length] at this
      refine hq _ _ ?_
      rw [lk_hd]
      congr 2
      rw [show hds (List.take (l.length + 1 - i) [x]) = List.take (l.length + 1 - i) [x.enc] by simp [hds], this]
      simp [hds, Srt.ins]

@[go_sem] def hclonef_r (l : List Hd) : D := .vec 0 l.length
@[go_sem] def hclonef_fr (l : List Hd) : Fr := [(2, 62, true, hds l)]
@[go_sem] abbrev n_hclonef : FuncId := 153
@[go_sem] def hclonef_T : Tab := []
theorem hclonef_T_ok : TabOk Tryz.prog hclonef_T := TabOk.nil
set_option maxRecDepth 8000 in
set_option maxHeartbeats 1000000 in
theorem hclonef_ok (l : List Hd) (hl : l.length ≤ 1000000) : FreshFn Tryz.prog 153 [.sl (hds l)] (hclonef_r l) (hclonef_fr l) := by
  refine .of (ac153 hclonef_T_ok (Nat.le_of_ble_eq_true rfl) ?_)
  simp -implicitDefEqProofs only [cdA, go_sem, Go.Proofs.Tryz.f153, reduceIte, List.cons.injEq, cdB]
  refine fun b hb => ⟨fun h => ?_, fun h => ?_⟩
  · exact ⟨[none], by simp [go_sem, hb h], by cases l <;> simp_all [go_sem, hds]⟩
  · exact ⟨by omega, [some 0], by simp [go_sem]⟩
@[go_sem] def hclonef_p (l : List Hd) : Prop := (l.length ≤ 1000000)
def sp_hclonef : List D → Option (Prop × D × Fr)
  | [.c (.sl z186)] => some (z186 = hds (dhds z186) ∧ hclonef_p (dhds z186), hclonef_r (dhds z186), hclonef_fr (dhds z186))
  | _ => none
attribute [go_sem] sp_hclonef
theorem sp_hclonef_ok : ∀ rs p r fr, sp_hclonef rs = some (p, r, fr) → p → FnOk Tryz.prog 153 rs r fr := by
  intro rs p r fr h hp
  unfold sp_hclonef at h
  split at h <;> cases h
  obtain ⟨hc0, hp⟩ := hp
  rename_i z186
  obtain ⟨z186, rfl⟩ : ∃ m, z186 = hds m := ⟨_, hc0⟩
  simp only [dhds_hds]
  simp only [dhds_hds, hclonef_p] at hp
  exact (show FnOk _ _ _ _ _ from And.intro rfl (hclonef_ok z186 hp))
def bsH (l : List Hd) (id : Nat) (i j : Nat) : Nat :=
  if h : i < j then (if (l.getD ((i + j) / 2) default).id < id then bsH l id ((i + j) / 2 + 1) j else bsH l id i ((i + j) / 2)) else i
termination_by j - i
decreasing_by all_goals omega
theorem bsH_pos {l : List Hd} {id : Nat} (hu : Srt.Up Hd.key ltN l) : ∀ (m i j : Nat), j - i ≤ m → i ≤ j → j ≤ l.length → (∀ k, k < i → (l.getD k default).id < id) → (∀ k, j ≤ k → k < l.length → ¬ (l.getD k default).id < id) → bsH l id i j = Srt.pos Hd.key ltN l id := by
  intro m
  induction m with
  | zero =>
    intro i j hm hij hj hlo hup
    rw [bsH, dif_neg (by omega)]
    exact (Srt.pos_eq (by omega) hlo (fun h => hup i (by omega) h)).symm
  | succ m ih =>
    intro i j hm hij hj hlo hup
    rw [bsH]
    split
    · rename_i hlt
      have hup2 := Srt.up_get.1 hu
      split
      · rename_i h5
        refine ih _ _ (by omega) (by omega) hj (fun k hk => ?_) hup
        by_cases hkm : k = (i + j) / 2
        · rw [hkm]; exact h5
        · have := hup2 k ((i + j) / 2) (by omega) (by omega)
          simp only [ltN, Hd.key] at this; omega
      · rename_i h5
        refine ih _ _ (by omega) (by omega) (by omega) hlo (fun k hk1 hk2 => ?_)
        by_cases hkm : k = (i + j) / 2
        · rw [hkm]; exact h5
        · have := hup2 ((i + j) / 2) k (by omega) (by omega)
          simp only [ltN, Hd.key] at this; omega
    · exact (Srt.pos_eq (by omega) hlo (fun h => hup i (by omega) h)).symm
def holdE (c : Ch) (id n : Nat) : Int :=
  if ¬ okCh c ∨ n = 0 ∨ ¬ n ≤ MM then 1 else if c.op = false then 14 else if Srt.thr Hd.key ltN c.holds id = true then 6 else if c.holds.length = 64 then 7 else if c.loc < c.res ∨ c.loc - c.res < n then 9 else if c.most - held c.holds < n then 8 else 0
def holdC (c : Ch) (id n : Nat) : Ch × Int := if holdE c id n = 0 then (⟨c.id, c.loc - n, c.rem, c.res, c.most, Srt.ins c.holds (Srt.pos Hd.key ltN c.holds id) ⟨id, n⟩, c.op⟩, 0) else (default, holdE c id n)
@[go_sem] def chold_r (c : Ch) (id : Nat) (n : Nat) : D := .tup [.agg [.int .u64 (holdC c id n).1.id, .int .u64 (holdC c id n).1.loc, .int .u64 (holdC c id n).1.rem, .int .u64 (holdC c id n).1.res, .int .u64 (holdC c id n).1.most, .sl (hds (holdC c id n).1.holds), .bool (holdC c id n).1.op], .int .i64 (holdC c id n).2]
@[go_sem] abbrev n_chold : FuncId := 139
@[go_sem] def chold_T : Tab := [(203, sp_csums), (49, sp_moncheck), (153, sp_hclonef), (218, sp_horder)]
theorem chold_T_ok : TabOk Tryz.prog chold_T := (TabOk.cons sp_csums_ok (TabOk.cons sp_moncheck_ok (TabOk.cons sp_hclonef_ok (TabOk.cons sp_horder_ok TabOk.nil))))
set_option maxRecDepth 8000 in
set_option maxHeartbeats 1000000 in
theorem chold_ok (c : Ch) (id : Nat) (n : Nat)  : PureFn Tryz.prog 139 [.agg [.c (.int .u64 (c.id : Int)), .c (.int .u64 (c.loc : Int)), .c (.int .u64 (c.rem : Int)), .c (.int .u64 (c.res : Int)), .c (.int .u64 (c.most : Int)), .sl (hds c.holds), .c (.bool c.op)], .c (.int .u64 (id : Int)), .c (.int .u64 (n : Int))] (chold_r c id n) := by
  refine .of (ac139 chold_T_ok (Nat.le_of_ble_eq_true rfl) ?_)
  simp -implicitDefEqProofs only [cdA, go_sem, Go.Proofs.Tryz.f139, reduceIte, List.cons.injEq, cdB]
  refine ac217 chold_T_ok (Nat.le_of_ble_eq_true rfl) ?_
  simp -implicitDefEqProofs only [cdA, go_sem, Go.Proofs.Tryz.f217, reduceIte, List.cons.injEq, cdB]
  refine fun _ => SWp.loop (ι := { x : Nat × Nat // x.1 ≤ x.2 ∧ x.2 ≤ c.holds.length ∧ bsH c.holds id x.1 x.2 = bsH c.holds id 0 c.holds.length }) (fun x => ⟨[(0, .sl (hds c.holds)), (1, .int .u64 id), (2, .fn (.func 218) [] []), (8, .int .i64 c.holds.length), (9, .int .i64 x.1.1), (10, .int .i64 x.1.2)], [(0, .box [.int .u64 c.id, .int .u64 c.loc, .int .u64 c.rem, .int .u64 c.res, .int .u64 c.most, .sl (hds c.holds), .bool c.op]), (1, .box [.int .u64 0, .int .u64 0, .int .u64 0, .int .u64 0, .int .u64 0, .nil, .bool false])], 2⟩) (fun x => x.1.2 - x.1.1) ⟨(0, c.holds.length), by simp⟩ ?_ ?_
  · simp [go_sem]
  · rintro ⟨⟨i, j⟩, hij, hj, hb⟩
    dsimp only at hij hj hb
    refine awp_sound chold_T_ok.toS lv217 _ _ _ rfl ?_
    simp -implicitDefEqProofs only [cdA, go_sem, reduceIte, List.cons.injEq, cdB]
    rw [mid_eq hij hj ‹_›]
    have hbad : ∀ k, holdE c id n = k → ¬ k = 0 → (0 = ((holdC c id n).1.id : Int) ∧ 0 = ((holdC c id n).1.loc : Int) ∧ 0 = ((holdC c id n).1.rem : Int) ∧ 0 = ((holdC c id n).1.res : Int) ∧ 0 = ((holdC c id n).1.most : Int) ∧ hds (holdC c id n).1.holds = [] ∧ false = (holdC c id n).1.op) ∧ k = (holdC c id n).2 := fun k hk h0 => by
      have : holdC c id n = (default, k) := by rw [holdC, if_neg (by rw [hk]; exact h0), hk]
      rw [this]; exact ⟨⟨rfl, rfl, rfl, rfl, rfl, rfl, rfl⟩, rfl⟩
    refine ⟨fun h4 => ?_, fun h4 => ?_⟩
    · have hm : (i + j) / 2 < c.holds.length := by omega
      rw [bsH, dif_pos (by omega)] at hb
      rw [cmpS_neg, Int.toNat_natCast]
      refine ⟨⟨by omega, by omega⟩, fun h5 => ?_, fun h5 => ?_⟩
      · rw [if_pos (by omega)] at hb
        exact ⟨⟨((i + j) / 2 + 1, j), by dsimp only; omega, hj, hb⟩, by dsimp only; omega, i64_in _ (by omega), rfl⟩
      · rw [if_neg (by omega)] at hb
        exact ⟨⟨(i, (i + j) / 2), by dsimp only; omega, by dsimp only; omega, hb⟩, by dsimp only; omega, rfl, rfl⟩
    · rw [bsH, dif_neg (by omega)] at hb
      have hok : (sumsC c).2.2 = 0 ↔ okCh c := sumsC_0
      have hpos : okCh c → Srt.pos Hd.key ltN c.holds id = i := fun h => by
        rw [hb]
        exact (bsH_pos ((Srt.chn_up (lt := ltN) Srt.totNat).1 h.2.2.2.2.2.1) _ 0 c.holds.length (Nat.le_refl _) (by omega) (Nat.le_refl _) (fun k hk => absurd hk (by omega)) (fun k h1 h2 => by omega)).symm
      rw [hok]
      have hthr : okCh c → Srt.thr Hd.key ltN c.holds id = decide (i < c.holds.length ∧ (c.holds.getD i default).id = id) := fun h => by rw [Srt.thr, hpos h]; rfl
      have hmon : monS [n] = 0 ↔ n ≤ MM := mon1_0
      have e1 : ∀ h : okCh c, (sumsC c).1 = held c.holds := fun h => by rw [sumsC, if_pos h]
      refine ⟨fun h6 => ⟨h6, fun ho => ⟨fun hn => ⟨fun hm => ⟨fun hop => ⟨fun ht => hbad 6 ?_ (by decide), fun ht _ => ⟨fun h64 => hbad 7 ?_ (by decide), fun h64 => ⟨fun hl => ⟨fun hx => hbad 9 ?_ (by decide), fun hx => ⟨fun hy => hbad 8 ?_ (by decide), fun hy => ⟨by have := ho.2.2.1; omega, ?_⟩⟩⟩, fun hl => hbad 9 ?_ (by decide)⟩⟩⟩, fun hop => hbad 14 ?_ (by decide)⟩, fun hm => hbad 1 ?_ (by decide)⟩, fun hn => hbad 1 ?_ (by decide)⟩, fun ho => hbad 1 ?_ (by decide)⟩,
        fun h6 => ⟨fun ho => ⟨fun hn => ⟨fun hm => ⟨fun hop _ => ⟨fun h64 => hbad 7 ?_ (by decide), fun h64 => ⟨fun hl => ⟨fun hx => hbad 9 ?_ (by decide), fun hx => ⟨fun hy => hbad 8 ?_ (by decide), fun hy => ⟨by have := ho.2.2.1; omega, ?_⟩⟩⟩, fun hl => hbad 9 ?_ (by decide)⟩⟩, fun hop => hbad 14 ?_ (by decide)⟩, fun hm => hbad 1 ?_ (by decide)⟩, fun hn => hbad 1 ?_ (by decide)⟩, fun ho => hbad 1 ?_ (by decide)⟩⟩
      all_goals first | (unfold holdE; rw [if_pos (.inl ho)]; done) | skip
      all_goals first | (unfold holdE; rw [if_pos (.inr (.inl (by omega)))]; done) | skip
      all_goals first | (unfold holdE; rw [if_pos (.inr (.inr fun h => hm (hmon.2 h)))]; done) | skip
      all_goals
        have hA : ¬ (¬ okCh c ∨ n = 0 ∨ ¬ n ≤ MM) := by
          rintro (h | h | h)
          · exact h ho
          · exact hn (by omega)
          · exact h (hmon.1 hm)
        have q4 : held c.holds ≤ c.most := ho.2.2.2.2.2.2.1
        have q2 : c.most ≤ MM := ho.2.1
        have q3 : c.loc ≤ MM := ho.2.2.2.2.2.2.2.1
        have e2 := e1 ho
        unfold MM at q2 q3
      all_goals first | (unfold holdE; rw [if_neg hA, if_pos (by simpa using hop)]; done) | skip
      all_goals have hop' : ¬ c.op = false := by rw [hop]; decide
      all_goals first
        | (unfold holdE; rw [if_neg hA, if_neg hop', if_pos (by rw [hthr ho]; exact decide_eq_true ⟨by omega, by have := cmpS_0.1 ht; omega⟩)]; done)
        | skip
      all_goals
        have ht' : ¬ Srt.thr Hd.key ltN c.holds id = true := by
          rw [hthr ho, decide_eq_true_eq]
          rintro ⟨h1, h2⟩
          first | exact ht (cmpS_0.2 (by omega)) | omega
      all_goals first
        | (unfold holdE; rw [if_neg hA, if_neg hop', if_neg ht', if_pos (by omega)]; done)
        | skip
      all_goals have h64' : ¬ c.holds.length = 64 := by omega
      all_goals first
        | (unfold holdE; rw [if_neg hA, if_neg hop', if_neg ht', if_neg h64', if_pos (.inl (by omega))]; done)
        | (rw [u64_in ((c.loc : Int) - _) (by omega)] at hx; unfold holdE; rw [if_neg hA, if_neg hop', if_neg ht', if_neg h64', if_pos (by omega)]; done)
        | skip
      all_goals
        rw [u64_in ((c.loc : Int) - _) (by omega)] at hx
        have h9' : ¬ (c.loc < c.res ∨ c.loc - c.res < n) := by omega
        rw [e2, u64_in ((c.most : Int) - _) (by omega)] at hy
      all_goals first
        | (unfold holdE; rw [if_neg hA, if_neg hop', if_neg ht', if_neg h64', if_neg h9', if_pos (by omega)]; done)
        | skip
      all_goals
        have h0 : holdE c id n = 0 := by unfold holdE; rw [if_neg hA, if_neg hop', if_neg ht', if_neg h64', if_neg h9', if_neg (by omega)]
        have h20 := ho.2.2.1
        refine ACall.grow (mid := [.int .i64 _]) (hins_ok c.holds ⟨id, n⟩ i (by omega) (by omega)) rfl rfl (by decide) (by simp [Srt.ins_len]) (fun d hd g g' w v hv => ?_) ?_
      all_goals first
        | (simp at hd; subst hd
           cases hv with
           | c _ _ h => cases h; exact .c _ _ (.int _ _))
        | skip
      all_goals
        simp -implicitDefEqProofs only [cdA, go_sem, reduceIte, List.cons.injEq, cdB]
        rw [holdC, if_pos h0, hpos ho, u64_in ((c.loc : Int) - _) (by omega)]
        exact ⟨⟨rfl, by dsimp only; omega, rfl, rfl, rfl, ⟨rfl, _, _, _, rfl⟩, rfl⟩, rfl⟩
def sp_chold : List D → Option (Prop × D × Fr)
  | [.agg [.c (.int .u64 z188), .c (.int .u64 z189), .c (.int .u64 z190), .c (.int .u64 z191), .c (.int .u64 z192), .c (.sl z193), .c (.bool z194)], .c (.int .u64 z195), .c (.int .u64 z196)] => some (z188 = (z188.toNat : Int) ∧ z189 = (z189.toNat : Int) ∧ z190 = (z190.toNat : Int) ∧ z191 = (z191.toNat : Int) ∧ z192 = (z192.toNat : Int) ∧ z193 = hds (dhds z193) ∧ z195 = (z195.toNat : Int) ∧ z196 = (z196.toNat : Int), chold_r (⟨z188.toNat, z189.toNat, z190.toNat, z191.toNat, z192.toNat, (dhds z193), z194⟩ : Ch) z195.toNat z196.toNat, [])
  | _ => none
attribute [go_sem] sp_chold
theorem sp_chold_ok : ∀ rs p r fr, sp_chold rs = some (p, r, fr) → p → FnOk Tryz.prog 139 rs r fr := by
  intro rs p r fr h hp
  unfold sp_chold at h
  split at h <;> cases h
  obtain ⟨hc0, hc1, hc2, hc3, hc4, hc5, hc6, hc7⟩ := hp
  rename_i z188 z189 z190 z191 z192 z193 z194 z195 z196
  obtain ⟨z188, rfl⟩ : ∃ m : Nat, z188 = m := ⟨_, hc0⟩
  obtain ⟨z189, rfl⟩ : ∃ m : Nat, z189 = m := ⟨_, hc1⟩
  obtain ⟨z190, rfl⟩ : ∃ m : Nat, z190 = m := ⟨_, hc2⟩
  obtain ⟨z191, rfl⟩ : ∃ m : Nat, z191 = m := ⟨_, hc3⟩
  obtain ⟨z192, rfl⟩ : ∃ m : Nat, z192 = m := ⟨_, hc4⟩
  obtain ⟨z193, rfl⟩ : ∃ m, z193 = hds m := ⟨_, hc5⟩
  obtain ⟨z195, rfl⟩ : ∃ m : Nat, z195 = m := ⟨_, hc6⟩
  obtain ⟨z196, rfl⟩ : ∃ m : Nat, z196 = m := ⟨_, hc7⟩
  simp only [Int.toNat_natCast, dhds_hds]
  exact chold_ok ⟨z188, z189, z190, z191, z192, z193, z194⟩ z195 z196
end Dm
namespace Dm
open Go Go.Proofs Go.IntWalk
def lholdL (l : List Ch) (id h n : Nat) : List Ch × Int :=
  if okLd l then (if Srt.thr Ch.id ltN l id = true then (if (whereI l h).2 = 0 then ([], 6) else if holdE (l.getD (Srt.pos Ch.id ltN l id) default) h n = 0 then (l.set (Srt.pos Ch.id ltN l id) (holdC (l.getD (Srt.pos Ch.id ltN l id) default) h n).1, 0) else ([], holdE (l.getD (Srt.pos Ch.id ltN l id) default) h n)) else ([], 5)) else ([], 1)
theorem holdC_2 {c : Ch} {id n : Nat} : (holdC c id n).2 = holdE c id n := by
  unfold holdC
  split
  · rename_i h; exact h.symm
  · rfl
@[go_sem] def lhold_r (l : List Ch) (id : Nat) (h : Nat) (n : Nat) : D := .tup [.sl (chs (lholdL l id h n).1), .int .i64 (lholdL l id h n).2]
@[go_sem] abbrev n_lhold : FuncId := 55
@[go_sem] def lhold_T : Tab := [(63, sp_place), (14, sp_lwhere), (139, sp_chold), (185, sp_owns)]
theorem lhold_T_ok : TabOk Tryz.prog lhold_T := (TabOk.cons sp_place_ok (TabOk.cons sp_lwhere_ok (TabOk.cons sp_chold_ok (TabOk.cons sp_owns_ok TabOk.nil))))
set_option maxRecDepth 8000 in
set_option maxHeartbeats 1000000 in
theorem lhold_ok (l : List Ch) (id : Nat) (h : Nat) (n : Nat)  : PureFn Tryz.prog 55 [.sl (chs l), .c (.int .u64 (id : Int)), .c (.int .u64 (h : Int)), .c (.int .u64 (n : Int))] (lhold_r l id h n) := by
  refine .of (ac55 lhold_T_ok (Nat.le_of_ble_eq_true rfl) ?_)
  simp -implicitDefEqProofs only [cdA, go_sem, Go.Proofs.Tryz.f55, reduceIte, List.cons.injEq, cdB]
  refine ac137 lhold_T_ok (Nat.le_of_ble_eq_true rfl) ?_
  simp -implicitDefEqProofs only [cdA, go_sem, Go.Proofs.Tryz.f137, reduceIte, List.cons.injEq, cdB]
  by_cases hok : okLd l
  · by_cases ht : Srt.thr Ch.id ltN l id = true
    · have e1 : placeL l id = (((Srt.pos Ch.id ltN l id : Nat) : Int), 0) := by rw [placeL, if_pos hok, if_pos ht]
      have hp : Srt.pos Ch.id ltN l id < l.length := by
        unfold Srt.thr at ht
        exact (of_decide_eq_true ht).1
      rw [e1, Int.toNat_natCast, lholdL, if_pos hok, if_pos ht]
      refine ⟨fun _ => ⟨⟨by omega, by omega⟩, ?_⟩, fun h => absurd rfl h⟩
      refine ac138 lhold_T_ok (Nat.le_of_ble_eq_true rfl) ?_
      simp -implicitDefEqProofs only [cdA, go_sem, Go.Proofs.Tryz.f138, reduceIte, List.cons.injEq, cdB]
      have h32 : l.length ≤ 1000000 ∧ ∀ c ∈ l, c.holds.length ≤ 1000000 := ⟨by have := hok.1; omega, fun c hc => by have := (hok.2.1 c hc).2.2.1; omega⟩
      refine ⟨fun hw => ⟨fun h6 => absurd h6 (by decide), fun _ => ?_⟩, fun hw => ⟨fun h0 => ?_, fun h0 => ?_⟩⟩
      · rw [if_pos hw]; exact ⟨rfl, rfl⟩
      · rw [holdC_2] at h0
        rw [if_neg hw, if_pos h0]
        exact ⟨h32, by omega, hp, ⟨by simp, _, _, _, rfl⟩, rfl⟩
      · rw [holdC_2] at h0 ⊢
        rw [if_neg hw, if_neg h0]
        exact ⟨rfl, rfl⟩
    · have e1 : placeL l id = (0, 5) := by rw [placeL, if_pos hok, if_neg ht]
      have e2 : lholdL l id h n = ([], 5) := by rw [lholdL, if_pos hok, if_neg ht]
      rw [e1, e2]
      exact ⟨fun h => absurd h (by decide), fun _ => ⟨rfl, rfl⟩⟩
  · have e1 : placeL l id = (0, 1) := by rw [placeL, if_neg hok]
    have e2 : lholdL l id h n = ([], 1) := by rw [lholdL, if_neg hok]
    rw [e1, e2]
    exact ⟨fun h => absurd h (by decide), fun _ => ⟨rfl, rfl⟩⟩
def sp_lhold : List D → Option (Prop × D × Fr)
  | [.c (.sl z197), .c (.int .u64 z198), .c (.int .u64 z199), .c (.int .u64 z200)] => some (z197 = chs (dchs z197) ∧ z198 = (z198.toNat : Int) ∧ z199 = (z199.toNat : Int) ∧ z200 = (z200.toNat : Int), lhold_r (dchs z197) z198.toNat z199.toNat z200.toNat, [])
  | _ => none
attribute [go_sem] sp_lhold
theorem sp_lhold_ok : ∀ rs p r fr, sp_lhold rs = some (p, r, fr) → p → FnOk Tryz.prog 55 rs r fr := by
  intro rs p r fr h hp
  unfold sp_lhold at h
  split at h <;> cases h
  obtain ⟨hc0, hc1, hc2, hc3⟩ := hp
  rename_i z197 z198 z199 z200
  obtain ⟨z197, rfl⟩ : ∃ m, z197 = chs m := ⟨_, hc0⟩
  obtain ⟨z198, rfl⟩ : ∃ m : Nat, z198 = m := ⟨_, hc1⟩
  obtain ⟨z199, rfl⟩ : ∃ m : Nat, z199 = m := ⟨_, hc2⟩
  obtain ⟨z200, rfl⟩ : ∃ m : Nat, z200 = m := ⟨_, hc3⟩
  simp only [Int.toNat_natCast, dchs_chs]
  exact lhold_ok z197 z198 z199 z200
end Dm
namespace Dm
open Go Go.Proofs Go.IntWalk
theorem hold_perm {l : List Hd} {i : Nat} {x : Hd} : List.Perm (Srt.ins l i x) (x :: l) := Srt.ins_perm
theorem split_at {l : List Ch} {p : Nat} (hp : p < l.length) : l = l.take p ++ l.getD p default :: l.drop (p + 1) := by
  rw [getD_lt hp, List.getElem_cons_drop, List.take_append_drop]
theorem split_set {l : List Ch} {p : Nat} {d : Ch} (hp : p < l.length) : l.set p d = l.take p ++ d :: l.drop (p + 1) := by
  rw [List.set_eq_take_append_cons_drop, if_pos hp]
theorem hidL_set {l : List Ch} {p : Nat} {d : Ch} {x : Hd} (hp : p < l.length) (hd : d.holds.Perm (x :: (l.getD p default).holds)) : (hidL (l.set p d)).Perm (x.id :: hidL l) := by
  conv => rhs; rw [split_at hp]
  rw [split_set hp]
  simp only [hidL, List.flatMap_append, List.flatMap_cons]
  have h1 := hd.map Hd.id
  rw [List.map_cons] at h1
  refine (List.Perm.append_left _ (h1.append_right _)).trans ?_
  exact List.perm_middle
theorem held_ins {l : List Hd} {i : Nat} {x : Hd} : held (Srt.ins l i x) = x.n + held l := by
  unfold held
  rw [((hold_perm (l := l) (i := i) (x := x)).map Hd.n).sum_nat, List.map_cons, List.sum_cons]
theorem totL_set {l : List Ch} {p : Nat} {d : Ch} (hp : p < l.length) (hd : allC d = allC (l.getD p default)) : totL (l.set p d) = totL l := by
  conv => rhs; rw [split_at hp]
  rw [split_set hp]
  simp only [totL, List.map_append, List.map_cons, List.sum_append, List.sum_cons, hd]
theorem hold_okCh {c : Ch} {h n : Nat} (he : holdE c h n = 0) (hok : okCh c) : okCh (holdC c h n).1 ∧ allC (holdC c h n).1 = allC c := by
  have e : holdC c h n = (⟨c.id, c.loc - n, c.rem, c.res, c.most, Srt.ins c.holds (Srt.pos Hd.key ltN c.holds h) ⟨h, n⟩, c.op⟩, 0) := by rw [holdC, if_pos he]
  obtain ⟨o1, o2, o3, o4, o5, o6, o7, o8, o9, o10⟩ := hok
  have hok : okCh c := ⟨o1, o2, o3, o4, o5, o6, o7, o8, o9, o10⟩
  unfold holdE at he
  split at he
  · cases he
  split at he
  · cases he
  split at he
  · cases he
  split at he
  · cases he
  split at he
  · cases he
  split at he
  · cases he
  rename_i h1 h2 h3 h4 h5 h6
  have hn0 : n ≠ 0 := fun h => h1 (.inr (.inl h))
  have h7 := held_ins (l := c.holds) (i := Srt.pos Hd.key ltN c.holds h) (x := ⟨h, n⟩)
  have hu : Srt.Up Hd.key ltN c.holds := (Srt.chn_up (lt := ltN) Srt.totNat).1 o6
  have hle : n ≤ c.loc := by omega
  have hnew : okCh (holdC c h n).1 := by
    rw [e]
    refine ⟨o1, o2, ?_, fun hop => absurd hop h2, fun y hy => ?_, ?_, ?_, ?_, o9, ?_⟩
    · dsimp only; rw [Srt.ins_len]; omega
    · rcases List.mem_cons.1 (hold_perm.mem_iff.1 hy) with rfl | hy
      · exact hn0
      · exact o5 y hy
    · exact (Srt.chn_up (lt := ltN) Srt.totNat).2 (Srt.ins_up (x := (⟨h, n⟩ : Hd)) (Srt.totNat) hu h3)
    · dsimp only; rw [h7]; dsimp only; omega
    · dsimp only; omega
    · dsimp only; rw [h7]; dsimp only; omega
  refine ⟨hnew, ?_⟩
  have a1 : allC c = held c.holds + c.loc + c.rem := by unfold allC sumsC; rw [if_pos hok]
  have a2 : allC (holdC c h n).1 = held (holdC c h n).1.holds + (holdC c h n).1.loc + (holdC c h n).1.rem := by unfold allC sumsC; rw [if_pos hnew]
  rw [a1, a2, e]
  dsimp only
  rw [h7]; dsimp only; omega
theorem where_0 {l : List Ch} {h : Nat} (hok : okLd l) : (whereI l h).2 = 0 ↔ h ∈ hidL l := by
  have hnd : ((hm 0 l).map (·.1)).Nodup := by rw [hm_keys]; exact hok.2.2.2.1
  rw [whereI, if_pos hok]
  constructor
  · cases hx : nlk h (hm 0 l) with
    | none => intro h; cases h
    | some i =>
      intro _
      have := (nlk_some hnd).1 hx
      rw [← hm_keys (s := 0)]
      exact List.mem_map.2 ⟨_, this, rfl⟩
  · intro hh
    rw [← hm_keys (s := 0)] at hh
    obtain ⟨⟨k, a⟩, h1, h2⟩ := List.mem_map.1 hh
    dsimp only at h2
    subst h2
    rw [(nlk_some hnd).2 h1]
end Dm
namespace Dm
open Go Go.Proofs Go.IntWalk
theorem lhold_at {l : List Ch} {id h n : Nat} (h0 : (lholdL l id h n).2 = 0) : okLd l ∧ ∃ c ∈ l, c.id = id ∧ Srt.pos Ch.id ltN l id < l.length ∧ l.getD (Srt.pos Ch.id ltN l id) default = c ∧ h ∉ hidL l ∧ holdE c h n = 0 ∧ lholdL l id h n = (l.set (Srt.pos Ch.id ltN l id) (holdC c h n).1, 0) := by
  by_cases hok : okLd l
  · by_cases ht : Srt.thr Ch.id ltN l id = true
    · by_cases hw : (whereI l h).2 = 0
      · rw [lholdL, if_pos hok, if_pos ht, if_pos hw] at h0; cases h0
      · by_cases he : holdE (l.getD (Srt.pos Ch.id ltN l id) default) h n = 0
        · have h2 := ht
          unfold Srt.thr at h2
          obtain ⟨hp, hpi⟩ := of_decide_eq_true h2
          refine ⟨hok, _, mem_getD.2 ⟨_, hp, rfl⟩, hpi, hp, rfl, fun h => hw ((where_0 hok).2 h), he, ?_⟩
          rw [lholdL, if_pos hok, if_pos ht, if_neg hw, if_pos he]
        · rw [lholdL, if_pos hok, if_pos ht, if_neg hw, if_neg he] at h0; exact absurd h0 he
    · rw [lholdL, if_pos hok, if_neg ht] at h0; cases h0
  · rw [lholdL, if_neg hok] at h0; cases h0
theorem lhold_fine {l : List Ch} {id h n : Nat} (h0 : (lholdL l id h n).2 = 0) : okLd (lholdL l id h n).1 := by
  obtain ⟨hok, c, hc, hid, hp, hcp, hw, he, e⟩ := lhold_at h0
  have hu : Srt.Up Ch.id ltN l := (Srt.chn_up (lt := ltN) Srt.totNat).1 hok.2.2.1
  obtain ⟨hok', hall⟩ := hold_okCh he (hok.2.1 c hc)
  have eid : (holdC c h n).1.id = c.id := by rw [holdC, if_pos he]
  have ehl : (holdC c h n).1.holds.Perm (⟨h, n⟩ :: c.holds) := by rw [holdC, if_pos he]; exact hold_perm
  generalize Srt.pos Ch.id ltN l id = p at *
  have hpm := hidL_set (l := l) (p := p) (d := (holdC c h n).1) (x := ⟨h, n⟩) hp (by rw [hcp]; exact ehl)
  rw [e]
  refine ⟨by rw [List.length_set]; exact hok.1, fun d hd => ?_, ?_, ?_, ?_⟩
  · rcases List.mem_or_eq_of_mem_set hd with h | rfl
    · exact hok.2.1 d h
    · exact hok'
  · exact (Srt.chn_up (lt := ltN) Srt.totNat).2 (Srt.set_up hu hp (by rw [hcp]; exact eid))
  · rw [hpm.nodup_iff, List.nodup_cons]; exact ⟨hw, hok.2.2.2.1⟩
  · rw [totL_set hp (by rw [hcp]; exact hall)]; exact hok.2.2.2.2
theorem start_len {l : List Py} {p : Py} : (startP l p).1.length ≤ 257 := by
  unfold startP
  split
  · simp
  · rename_i hA
    have hok : okPy l := Decidable.byContradiction fun h => hA (.inl h)
    have := hok.1
    split
    · simp
    · split
      · split
        · simp
        · rename_i k hk
          dsimp only
          have hkl : k < l.length := by
            unfold idle at hk
            exact (List.findIdx?_eq_some_iff_getElem.1 hk).1
          rw [Srt.ins_len, List.length_eraseIdx_of_lt hkl]; omega
      · dsimp only
        rw [Srt.ins_len]; omega
theorem add_len {f : Fd} {k : Int} {a n : Nat} : (addF f k a n).1.l.length ≤ 64 := by
  unfold addF
  split
  · rename_i h
    have := h.1.2.2.1
    split
    · simp
    · dsimp only
      rw [List.length_drop, List.length_append, List.length_singleton]; omega
  · simp
theorem small_ok {w : Wl} (h : okW w) : smallW w := by
  obtain ⟨h1, h2, h3, h4, _⟩ := h
  have h7 := h3.2.2.1
  refine ⟨by have := h1.1; omega, fun c hc => by have := (h1.2.1 c hc).2.2.1; omega, by omega, by have := h2.1; omega, ?_, by omega⟩
  rename_i h8
  have h9 := h8.2.2.2
  have : okPy w.p := by
    unfold agrL at h9
    split at h9
    · rename_i h; exact h.1
    · cases h9
  have := this.1; omega
end Dm
namespace Dm
open Go Go.Proofs Go.IntWalk
theorem i1_0 : ((1 : Int) = 0) = False := eq_false (by decide)
theorem i7_0 : ((7 : Int) = 0) = False := eq_false (by decide)
theorem i9_0 : ((9 : Int) = 0) = False := eq_false (by decide)
def payP (v : Wl) (hash n : Nat) : List Py × Int := startP v.p ⟨v.next, hash, (firstL v.c v.w n).1, n, 1⟩
def payC (v : Wl) (n : Nat) : List Ch × Int := lholdL v.c (firstL v.c v.w n).1 v.next n
def payF (v : Wl) (n : Nat) : Fd × Nat × Int := addF v.f 0 v.next n
def payE (v : Wl) (hash n : Nat) : Int := if ¬ okW v ∨ n = 0 ∨ ¬ n ≤ MM then 1 else if (firstL v.c v.w n).2 ≠ 0 then 9 else if v.next = MM then 7 else if (payP v hash n).2 ≠ 0 then (payP v hash n).2 else if (payC v n).2 ≠ 0 then (payC v n).2 else (payF v n).2.2
def zeroW : Wl := ⟨[], [], [], [], ⟨0, []⟩, 0, 0⟩
def payW (v : Wl) (hash n : Nat) : Wl × Nat × Int := if payE v hash n = 0 then (⟨(payC v n).1, v.w, v.i, (payP v hash n).1, (payF v n).1, v.next + 1, v.tick⟩, v.next, 0) else (zeroW, 0, payE v hash n)
@[go_sem] def wpay_r (v : Wl) (hash : Nat) (n : Nat) : D := .tup [.agg [.sl (chs (payW v hash n).1.c), .sl (wts (payW v hash n).1.w), .sl (ivs (payW v hash n).1.i), .sl (pys (payW v hash n).1.p), .int .u64 (payW v hash n).1.f.next, .sl (evs (payW v hash n).1.f.l), .int .u64 (payW v hash n).1.next, .int .u64 (payW v hash n).1.tick], .int .u64 (payW v hash n).2.1, .int .i64 (payW v hash n).2.2]
@[go_sem] abbrev n_wpay : FuncId := 13
@[go_sem] def wpay_T : Tab := [(37, sp_wcheck), (49, sp_moncheck), (12, sp_first), (52, sp_pstart), (55, sp_lhold), (142, sp_fadd), (119, sp_wown)]
theorem wpay_T_ok : TabOk Tryz.prog wpay_T := (TabOk.cons sp_wcheck_ok (TabOk.cons sp_moncheck_ok (TabOk.cons sp_first_ok (TabOk.cons sp_pstart_ok (TabOk.cons sp_lhold_ok (TabOk.cons sp_fadd_ok (TabOk.cons sp_wown_ok TabOk.nil)))))))
set_option maxRecDepth 8000 in
set_option maxHeartbeats 1000000 in
theorem wpay_ok (v : Wl) (hash : Nat) (n : Nat) (h : v.f.next ≤ 18446744073709551615) : PureFn Tryz.prog 13 [.agg [.sl (chs v.c), .sl (wts v.w), .sl (ivs v.i), .sl (pys v.p), .c (.int .u64 (v.f.next : Int)), .sl (evs v.f.l), .c (.int .u64 (v.next : Int)), .c (.int .u64 (v.tick : Int))], .c (.int .u64 (hash : Int)), .c (.int .u64 (n : Int))] (wpay_r v hash n) := by
  refine .of (ac13 wpay_T_ok (Nat.le_of_ble_eq_true rfl) ?_)
  simp -implicitDefEqProofs only [cdA, go_sem, Go.Proofs.Tryz.f13, reduceIte, List.cons.injEq, cdB]
  refine ac45 wpay_T_ok (Nat.le_of_ble_eq_true rfl) ?_
  simp -implicitDefEqProofs only [cdA, go_sem, Go.Proofs.Tryz.f45, reduceIte, List.cons.injEq, cdB]
  refine ADraw.run us45_1 wpay_T_ok follows_mixed (by kernel_rfl) (by kernel_rfl) ?_
  simp -implicitDefEqProofs only [cdA, go_sem, reduceIte, List.cons.injEq, cdB]
  refine ⟨h, ?_⟩
  have hbad : ∀ e : Int, payE v hash n = e → ¬ e = 0 → (chs (payW v hash n).1.c = [] ∧ wts (payW v hash n).1.w = [] ∧ ivs (payW v hash n).1.i = [] ∧ pys (payW v hash n).1.p = [] ∧ 0 = ((payW v hash n).1.f.next : Int) ∧ evs (payW v hash n).1.f.l = [] ∧ 0 = ((payW v hash n).1.next : Int) ∧ 0 = ((payW v hash n).1.tick : Int)) ∧ 0 = ((payW v hash n).2.1 : Int) ∧ e = (payW v hash n).2.2 := fun e h1 h2 => by
    have : payW v hash n = (zeroW, 0, e) := by rw [payW, if_neg (by rw [h1]; exact h2), h1]
    rw [this]; exact ⟨⟨rfl, rfl, rfl, rfl, rfl, rfl, rfl, rfl⟩, rfl, rfl⟩
  by_cases hok : okW v
  rotate_left 1
  · have hck : (chkW v = 0) = False := eq_false fun h => hok (chkW_0.1 h)
    have he : payE v hash n = 1 := by rw [payE, if_pos (.inl hok)]
    have hc1 : chkW v = 1 := by rw [chkW, if_neg hok]
    refine ⟨fun hn => ?_, fun hn => ?_⟩
    · skip
      refine ac46 wpay_T_ok (Nat.le_of_ble_eq_true rfl) ?_
      simp -implicitDefEqProofs only [cdA, go_sem, Go.Proofs.Tryz.f46, hck, cdN, reduceIte, List.cons.injEq, cdB]
      refine ac46 wpay_T_ok (Nat.le_of_ble_eq_true rfl) ?_
      simp -implicitDefEqProofs only [cdA, go_sem, Go.Proofs.Tryz.f46, hck, cdN, reduceIte, List.cons.injEq, cdB]
      refine ac46 wpay_T_ok (Nat.le_of_ble_eq_true rfl) ?_
      simp -implicitDefEqProofs only [cdA, go_sem, Go.Proofs.Tryz.f46, hck, cdN, reduceIte, List.cons.injEq, cdB]
      refine ac50 wpay_T_ok (Nat.le_of_ble_eq_true rfl) ?_
      simp -implicitDefEqProofs only [cdA, go_sem, Go.Proofs.Tryz.f50, hck, cdN, reduceIte, List.cons.injEq, cdB]
      refine ac53 wpay_T_ok (Nat.le_of_ble_eq_true rfl) ?_
      simp -implicitDefEqProofs only [cdA, go_sem, Go.Proofs.Tryz.f53, hck, cdN, reduceIte, List.cons.injEq, cdB]
      refine ac56 wpay_T_ok (Nat.le_of_ble_eq_true rfl) ?_
      simp -implicitDefEqProofs only [cdA, go_sem, Go.Proofs.Tryz.f56, reduceIte, List.cons.injEq, cdB]
      refine ac140 wpay_T_ok (Nat.le_of_ble_eq_true rfl) ?_
      simp -implicitDefEqProofs only [cdA, go_sem, Go.Proofs.Tryz.f140, hck, cdN, reduceIte, List.cons.injEq, cdB]
      refine ac47 wpay_T_ok (Nat.le_of_ble_eq_true rfl) ?_
      simp -implicitDefEqProofs only [cdA, go_sem, Go.Proofs.Tryz.f47, hck, cdN, reduceIte, List.cons.injEq, cdB]
      refine ADraw.run us47_2 wpay_T_ok follows_mixed (by kernel_rfl) (by kernel_rfl) ?_
      simp -implicitDefEqProofs only [cdA, go_sem, hck, cdN, reduceIte, List.cons.injEq, cdB]
      exact hbad _ (he.trans hc1.symm) (by rw [hc1]; decide)
    · skip
      refine ac46 wpay_T_ok (Nat.le_of_ble_eq_true rfl) ?_
      simp -implicitDefEqProofs only [cdA, go_sem, Go.Proofs.Tryz.f46, hck, cdN, reduceIte, List.cons.injEq, cdB]
      refine ac46 wpay_T_ok (Nat.le_of_ble_eq_true rfl) ?_
      simp -implicitDefEqProofs only [cdA, go_sem, Go.Proofs.Tryz.f46, hck, cdN, reduceIte, List.cons.injEq, cdB]
      refine ac46 wpay_T_ok (Nat.le_of_ble_eq_true rfl) ?_
      simp -implicitDefEqProofs only [cdA, go_sem, Go.Proofs.Tryz.f46, hck, cdN, reduceIte, List.cons.injEq, cdB]
      refine ac50 wpay_T_ok (Nat.le_of_ble_eq_true rfl) ?_
      simp -implicitDefEqProofs only [cdA, go_sem, Go.Proofs.Tryz.f50, hck, cdN, reduceIte, List.cons.injEq, cdB]
      refine ac53 wpay_T_ok (Nat.le_of_ble_eq_true rfl) ?_
      simp -implicitDefEqProofs only [cdA, go_sem, Go.Proofs.Tryz.f53, hck, cdN, reduceIte, List.cons.injEq, cdB]
      refine ac56 wpay_T_ok (Nat.le_of_ble_eq_true rfl) ?_
      simp -implicitDefEqProofs only [cdA, go_sem, Go.Proofs.Tryz.f56, reduceIte, List.cons.injEq, cdB]
      refine ac140 wpay_T_ok (Nat.le_of_ble_eq_true rfl) ?_
      simp -implicitDefEqProofs only [cdA, go_sem, Go.Proofs.Tryz.f140, hck, cdN, reduceIte, List.cons.injEq, cdB]
      refine ac47 wpay_T_ok (Nat.le_of_ble_eq_true rfl) ?_
      simp -implicitDefEqProofs only [cdA, go_sem, Go.Proofs.Tryz.f47, hck, cdN, reduceIte, List.cons.injEq, cdB]
      refine ADraw.run us47_2 wpay_T_ok follows_mixed (by kernel_rfl) (by kernel_rfl) ?_
      simp -implicitDefEqProofs only [cdA, go_sem, hck, cdN, reduceIte, List.cons.injEq, cdB]
      exact hbad _ (he.trans hc1.symm) (by rw [hc1]; decide)
  have hck : (chkW v = 0) = True := eq_true (chkW_0.2 hok)
  refine ⟨fun hn => ?_, fun hn => ?_⟩
  rotate_left 1
  · skip
    refine ac46 wpay_T_ok (Nat.le_of_ble_eq_true rfl) ?_
    simp -implicitDefEqProofs only [cdA, go_sem, Go.Proofs.Tryz.f46, hck, cdN, reduceIte, List.cons.injEq, cdB]
    skip
    refine ac46 wpay_T_ok (Nat.le_of_ble_eq_true rfl) ?_
    simp -implicitDefEqProofs only [cdA, go_sem, Go.Proofs.Tryz.f46, i1_0, cdN, reduceIte, List.cons.injEq, cdB]
    refine ac46 wpay_T_ok (Nat.le_of_ble_eq_true rfl) ?_
    simp -implicitDefEqProofs only [cdA, go_sem, Go.Proofs.Tryz.f46, i1_0, cdN, reduceIte, List.cons.injEq, cdB]
    refine ac50 wpay_T_ok (Nat.le_of_ble_eq_true rfl) ?_
    simp -implicitDefEqProofs only [cdA, go_sem, Go.Proofs.Tryz.f50, i1_0, cdN, reduceIte, List.cons.injEq, cdB]
    refine ac53 wpay_T_ok (Nat.le_of_ble_eq_true rfl) ?_
    simp -implicitDefEqProofs only [cdA, go_sem, Go.Proofs.Tryz.f53, i1_0, cdN, reduceIte, List.cons.injEq, cdB]
    refine ac56 wpay_T_ok (Nat.le_of_ble_eq_true rfl) ?_
    simp -implicitDefEqProofs only [cdA, go_sem, Go.Proofs.Tryz.f56, reduceIte, List.cons.injEq, cdB]
    refine ac140 wpay_T_ok (Nat.le_of_ble_eq_true rfl) ?_
    simp -implicitDefEqProofs only [cdA, go_sem, Go.Proofs.Tryz.f140, i1_0, cdN, reduceIte, List.cons.injEq, cdB]
    refine ac47 wpay_T_ok (Nat.le_of_ble_eq_true rfl) ?_
    simp -implicitDefEqProofs only [cdA, go_sem, Go.Proofs.Tryz.f47, i1_0, cdN, reduceIte, List.cons.injEq, cdB]
    refine ADraw.run us47_2 wpay_T_ok follows_mixed (by kernel_rfl) (by kernel_rfl) ?_
    simp -implicitDefEqProofs only [cdA, go_sem, i1_0, cdN, reduceIte, List.cons.injEq, cdB]
    exact hbad _ (by rw [payE, if_pos (.inr (.inl (by omega)))]) (by decide)
  have hmon : monS [n] = 0 ↔ n ≤ MM := mon1_0
  by_cases hm : monS [n] = 0
  rotate_left 1
  · skip
    refine ac46 wpay_T_ok (Nat.le_of_ble_eq_true rfl) ?_
    simp -implicitDefEqProofs only [cdA, go_sem, Go.Proofs.Tryz.f46, hck, hm, cdN, reduceIte, List.cons.injEq, cdB]
    skip
    refine ac46 wpay_T_ok (Nat.le_of_ble_eq_true rfl) ?_
    simp -implicitDefEqProofs only [cdA, go_sem, Go.Proofs.Tryz.f46, i1_0, cdN, reduceIte, List.cons.injEq, cdB]
    refine ac46 wpay_T_ok (Nat.le_of_ble_eq_true rfl) ?_
    simp -implicitDefEqProofs only [cdA, go_sem, Go.Proofs.Tryz.f46, i1_0, cdN, reduceIte, List.cons.injEq, cdB]
    refine ac50 wpay_T_ok (Nat.le_of_ble_eq_true rfl) ?_
    simp -implicitDefEqProofs only [cdA, go_sem, Go.Proofs.Tryz.f50, i1_0, cdN, reduceIte, List.cons.injEq, cdB]
    refine ac53 wpay_T_ok (Nat.le_of_ble_eq_true rfl) ?_
    simp -implicitDefEqProofs only [cdA, go_sem, Go.Proofs.Tryz.f53, i1_0, cdN, reduceIte, List.cons.injEq, cdB]
    refine ac56 wpay_T_ok (Nat.le_of_ble_eq_true rfl) ?_
    simp -implicitDefEqProofs only [cdA, go_sem, Go.Proofs.Tryz.f56, reduceIte, List.cons.injEq, cdB]
    refine ac140 wpay_T_ok (Nat.le_of_ble_eq_true rfl) ?_
    simp -implicitDefEqProofs only [cdA, go_sem, Go.Proofs.Tryz.f140, i1_0, cdN, reduceIte, List.cons.injEq, cdB]
    refine ac47 wpay_T_ok (Nat.le_of_ble_eq_true rfl) ?_
    simp -implicitDefEqProofs only [cdA, go_sem, Go.Proofs.Tryz.f47, i1_0, cdN, reduceIte, List.cons.injEq, cdB]
    refine ADraw.run us47_2 wpay_T_ok follows_mixed (by kernel_rfl) (by kernel_rfl) ?_
    simp -implicitDefEqProofs only [cdA, go_sem, i1_0, cdN, reduceIte, List.cons.injEq, cdB]
    exact hbad _ (by rw [payE, if_pos (.inr (.inr fun h => hm (hmon.2 h)))]) (by decide)
  have hA : ¬ (¬ okW v ∨ n = 0 ∨ ¬ n ≤ MM) := by
    rintro (h | h | h)
    · exact h hok
    · omega
    · exact h (hmon.1 hm)
  refine ac46 wpay_T_ok (Nat.le_of_ble_eq_true rfl) ?_
  simp -implicitDefEqProofs only [cdA, go_sem, Go.Proofs.Tryz.f46, hck, hm, cdN, reduceIte, List.cons.injEq, cdB]
  by_cases hfe : (firstL v.c v.w n).2 = 0
  rotate_left 1
  · skip
    refine ac46 wpay_T_ok (Nat.le_of_ble_eq_true rfl) ?_
    simp -implicitDefEqProofs only [cdA, go_sem, Go.Proofs.Tryz.f46, hck, hfe, cdN, reduceIte, List.cons.injEq, cdB]
    skip
    refine ac46 wpay_T_ok (Nat.le_of_ble_eq_true rfl) ?_
    simp -implicitDefEqProofs only [cdA, go_sem, Go.Proofs.Tryz.f46, i9_0, cdN, reduceIte, List.cons.injEq, cdB]
    refine ac50 wpay_T_ok (Nat.le_of_ble_eq_true rfl) ?_
    simp -implicitDefEqProofs only [cdA, go_sem, Go.Proofs.Tryz.f50, i9_0, cdN, reduceIte, List.cons.injEq, cdB]
    refine ac53 wpay_T_ok (Nat.le_of_ble_eq_true rfl) ?_
    simp -implicitDefEqProofs only [cdA, go_sem, Go.Proofs.Tryz.f53, i9_0, cdN, reduceIte, List.cons.injEq, cdB]
    refine ac56 wpay_T_ok (Nat.le_of_ble_eq_true rfl) ?_
    simp -implicitDefEqProofs only [cdA, go_sem, Go.Proofs.Tryz.f56, reduceIte, List.cons.injEq, cdB]
    refine ac140 wpay_T_ok (Nat.le_of_ble_eq_true rfl) ?_
    simp -implicitDefEqProofs only [cdA, go_sem, Go.Proofs.Tryz.f140, i9_0, cdN, reduceIte, List.cons.injEq, cdB]
    refine ac47 wpay_T_ok (Nat.le_of_ble_eq_true rfl) ?_
    simp -implicitDefEqProofs only [cdA, go_sem, Go.Proofs.Tryz.f47, i9_0, cdN, reduceIte, List.cons.injEq, cdB]
    refine ADraw.run us47_2 wpay_T_ok follows_mixed (by kernel_rfl) (by kernel_rfl) ?_
    simp -implicitDefEqProofs only [cdA, go_sem, i9_0, cdN, reduceIte, List.cons.injEq, cdB]
    exact hbad _ (by rw [payE, if_neg hA, if_pos hfe]) (by decide)
  refine ac46 wpay_T_ok (Nat.le_of_ble_eq_true rfl) ?_
  simp -implicitDefEqProofs only [cdA, go_sem, Go.Proofs.Tryz.f46, hck, hfe, cdN, reduceIte, List.cons.injEq, cdB]
  by_cases hnx : v.next = MM
  · have hnx' : ((v.next : Int) = 4611686018427387904) = True := eq_true (by unfold MM at hnx; omega)
    refine ac46 wpay_T_ok (Nat.le_of_ble_eq_true rfl) ?_
    simp -implicitDefEqProofs only [cdA, go_sem, Go.Proofs.Tryz.f46, hck, hnx', decide_false, cdN, reduceIte, List.cons.injEq, cdB]
    skip
    refine ac50 wpay_T_ok (Nat.le_of_ble_eq_true rfl) ?_
    simp -implicitDefEqProofs only [cdA, go_sem, Go.Proofs.Tryz.f50, i7_0, cdN, reduceIte, List.cons.injEq, cdB]
    refine ac53 wpay_T_ok (Nat.le_of_ble_eq_true rfl) ?_
    simp -implicitDefEqProofs only [cdA, go_sem, Go.Proofs.Tryz.f53, i7_0, cdN, reduceIte, List.cons.injEq, cdB]
    refine ac56 wpay_T_ok (Nat.le_of_ble_eq_true rfl) ?_
    simp -implicitDefEqProofs only [cdA, go_sem, Go.Proofs.Tryz.f56, reduceIte, List.cons.injEq, cdB]
    refine ac140 wpay_T_ok (Nat.le_of_ble_eq_true rfl) ?_
    simp -implicitDefEqProofs only [cdA, go_sem, Go.Proofs.Tryz.f140, i7_0, cdN, reduceIte, List.cons.injEq, cdB]
    refine ac47 wpay_T_ok (Nat.le_of_ble_eq_true rfl) ?_
    simp -implicitDefEqProofs only [cdA, go_sem, Go.Proofs.Tryz.f47, i7_0, cdN, reduceIte, List.cons.injEq, cdB]
    refine ADraw.run us47_2 wpay_T_ok follows_mixed (by kernel_rfl) (by kernel_rfl) ?_
    simp -implicitDefEqProofs only [cdA, go_sem, i7_0, cdN, reduceIte, List.cons.injEq, cdB]
    exact hbad _ (by rw [payE, if_neg hA, if_neg (fun h => h hfe), if_pos hnx]) (by decide)
  have hnx' : ((v.next : Int) = 4611686018427387904) = False := eq_false (by unfold MM at hnx; omega)
  refine ac46 wpay_T_ok (Nat.le_of_ble_eq_true rfl) ?_
  simp -implicitDefEqProofs only [cdA, go_sem, Go.Proofs.Tryz.f46, hck, hnx', decide_true, cdN, reduceIte, List.cons.injEq, cdB]
  refine ac50 wpay_T_ok (Nat.le_of_ble_eq_true rfl) ?_
  simp -implicitDefEqProofs only [cdA, go_sem, Go.Proofs.Tryz.f50, hck, cdN, reduceIte, List.cons.injEq, cdB]
  refine ac51 wpay_T_ok (Nat.le_of_ble_eq_true rfl) ?_
  simp -implicitDefEqProofs only [cdA, go_sem, Go.Proofs.Tryz.f51, reduceIte, List.cons.injEq, cdB]
  have eP : startP v.p ⟨v.next, hash, (firstL v.c v.w n).1, n, 1⟩ = payP v hash n := rfl
  rw [eP]
  refine ⟨fun hst => ?_, fun hst => ?_⟩
  rotate_left 1
  · skip
    refine ac53 wpay_T_ok (Nat.le_of_ble_eq_true rfl) ?_
    simp -implicitDefEqProofs only [cdA, go_sem, Go.Proofs.Tryz.f53, hst, cdN, reduceIte, List.cons.injEq, cdB]
    refine ac56 wpay_T_ok (Nat.le_of_ble_eq_true rfl) ?_
    simp -implicitDefEqProofs only [cdA, go_sem, Go.Proofs.Tryz.f56, reduceIte, List.cons.injEq, cdB]
    refine ac140 wpay_T_ok (Nat.le_of_ble_eq_true rfl) ?_
    simp -implicitDefEqProofs only [cdA, go_sem, Go.Proofs.Tryz.f140, hst, cdN, reduceIte, List.cons.injEq, cdB]
    refine ac47 wpay_T_ok (Nat.le_of_ble_eq_true rfl) ?_
    simp -implicitDefEqProofs only [cdA, go_sem, Go.Proofs.Tryz.f47, hst, cdN, reduceIte, List.cons.injEq, cdB]
    refine ADraw.run us47_2 wpay_T_ok follows_mixed (by kernel_rfl) (by kernel_rfl) ?_
    simp -implicitDefEqProofs only [cdA, go_sem, hst, cdN, reduceIte, List.cons.injEq, cdB]
    exact hbad _ (by rw [payE, if_neg hA, if_neg (fun h => h hfe), if_neg hnx, if_pos hst]) hst
  refine ac53 wpay_T_ok (Nat.le_of_ble_eq_true rfl) ?_
  simp -implicitDefEqProofs only [cdA, go_sem, Go.Proofs.Tryz.f53, hck, cdN, reduceIte, List.cons.injEq, cdB]
  refine ac54 wpay_T_ok (Nat.le_of_ble_eq_true rfl) ?_
  simp -implicitDefEqProofs only [cdA, go_sem, Go.Proofs.Tryz.f54, reduceIte, List.cons.injEq, cdB]
  have eC : lholdL v.c (firstL v.c v.w n).1 v.next n = payC v n := rfl
  rw [eC]
  refine ⟨fun hho => ?_, fun hho => ?_⟩
  rotate_left 1
  · skip
    refine ac56 wpay_T_ok (Nat.le_of_ble_eq_true rfl) ?_
    simp -implicitDefEqProofs only [cdA, go_sem, Go.Proofs.Tryz.f56, reduceIte, List.cons.injEq, cdB]
    refine ac140 wpay_T_ok (Nat.le_of_ble_eq_true rfl) ?_
    simp -implicitDefEqProofs only [cdA, go_sem, Go.Proofs.Tryz.f140, hho, cdN, reduceIte, List.cons.injEq, cdB]
    refine ac47 wpay_T_ok (Nat.le_of_ble_eq_true rfl) ?_
    simp -implicitDefEqProofs only [cdA, go_sem, Go.Proofs.Tryz.f47, hho, cdN, reduceIte, List.cons.injEq, cdB]
    refine ADraw.run us47_2 wpay_T_ok follows_mixed (by kernel_rfl) (by kernel_rfl) ?_
    simp -implicitDefEqProofs only [cdA, go_sem, hho, cdN, reduceIte, List.cons.injEq, cdB]
    exact hbad _ (by rw [payE, if_neg hA, if_neg (fun h => h hfe), if_neg hnx, if_neg (fun h => h hst), if_pos hho]) hho
  refine ac56 wpay_T_ok (Nat.le_of_ble_eq_true rfl) ?_
  simp -implicitDefEqProofs only [cdA, go_sem, Go.Proofs.Tryz.f56, reduceIte, List.cons.injEq, cdB]
  refine ac140 wpay_T_ok (Nat.le_of_ble_eq_true rfl) ?_
  simp -implicitDefEqProofs only [cdA, go_sem, Go.Proofs.Tryz.f140, hck, cdN, reduceIte, List.cons.injEq, cdB]
  refine ac141 wpay_T_ok (Nat.le_of_ble_eq_true rfl) ?_
  simp -implicitDefEqProofs only [cdA, go_sem, Go.Proofs.Tryz.f141, reduceIte, List.cons.injEq, cdB]
  have eF : addF v.f 0 v.next n = payF v n := rfl
  have hv := hok.2.2.2.2.2.1
  unfold MM at hv
  rw [eF, show IntKind.u64.wrap ((v.next : Int) + 1) = ((v.next + 1 : Nat) : Int) by rw [u64_in _ (by omega)]; omega]
  refine ⟨h, fun hfd => ?_, fun hfd => ?_⟩
  rotate_left 1
  · skip
    refine ac47 wpay_T_ok (Nat.le_of_ble_eq_true rfl) ?_
    simp -implicitDefEqProofs only [cdA, go_sem, Go.Proofs.Tryz.f47, hfd, cdN, reduceIte, List.cons.injEq, cdB]
    refine ADraw.run us47_2 wpay_T_ok follows_mixed (by kernel_rfl) (by kernel_rfl) ?_
    simp -implicitDefEqProofs only [cdA, go_sem, hfd, cdN, reduceIte, List.cons.injEq, cdB]
    exact hbad _ (by rw [payE, if_neg hA, if_neg (fun h => h hfe), if_neg hnx, if_neg (fun h => h hst), if_neg (fun h => h hho)]) hfd
  have hsm : smallW ⟨(payC v n).1, v.w, v.i, (payP v hash n).1, (payF v n).1, v.next + 1, v.tick⟩ := by
    have h1 := lhold_fine hho
    have h2 := small_ok hok
    have h3 := start_len (l := v.p) (p := ⟨v.next, hash, (firstL v.c v.w n).1, n, 1⟩)
    have h4 := add_len (f := v.f) (k := 0) (a := v.next) (n := n)
    refine ⟨by have := h1.1; show (payC v n).1.length ≤ _; unfold payC; omega, fun c hc => by have := (h1.2.1 c hc).2.2.1; omega, h2.2.2.1, h2.2.2.2.1, by show (payP v hash n).1.length ≤ _; unfold payP; omega, by show (payF v n).1.l.length ≤ _; unfold payF; omega⟩
  have hfin : payW v hash n = (⟨(payC v n).1, v.w, v.i, (payP v hash n).1, (payF v n).1, v.next + 1, v.tick⟩, v.next, 0) := by
    have : payE v hash n = 0 := by rw [payE, if_neg hA, if_neg (fun h => h hfe), if_neg hnx, if_neg (fun h => h hst), if_neg (fun h => h hho)]; exact hfd
    rw [payW, if_pos this]
  have en : ((v.next : Int) + 1).toNat = v.next + 1 := by omega
  have en2 : ((v.next : Int) + 1 = ((v.next + 1 : Nat) : Int)) = True := eq_true (by omega)
  refine ac47 wpay_T_ok (Nat.le_of_ble_eq_true rfl) ?_
  simp -implicitDefEqProofs only [cdA, go_sem, Go.Proofs.Tryz.f47, hck, en, en2, eq_true hsm, cdN, reduceIte, List.cons.injEq, cdB]
  refine ADraw.run us13_13 wpay_T_ok follows_mixed (by kernel_rfl) (by kernel_rfl) ?_
  simp -implicitDefEqProofs only [cdA, go_sem, reduceIte, List.cons.injEq, cdB]
  rw [hfin]
  exact ⟨⟨rfl, rfl, rfl, rfl, rfl, rfl, by dsimp only; omega, rfl⟩, rfl, rfl⟩
@[go_sem] def wpay_p (v : Wl) (hash : Nat) (n : Nat) : Prop := (v.f.next ≤ 18446744073709551615)
def sp_wpay : List D → Option (Prop × D × Fr)
  | [.agg [.c (.sl z324), .c (.sl z325), .c (.sl z326), .c (.sl z327), .c (.int .u64 z329), .c (.sl z330), .c (.int .u64 z331), .c (.int .u64 z332)], .c (.int .u64 z333), .c (.int .u64 z334)] => some (z324 = chs (dchs z324) ∧ z325 = wts (dwts z325) ∧ z326 = ivs (divs z326) ∧ z327 = pys (dpys z327) ∧ z329 = (z329.toNat : Int) ∧ z330 = evs (devs z330) ∧ z331 = (z331.toNat : Int) ∧ z332 = (z332.toNat : Int) ∧ z333 = (z333.toNat : Int) ∧ z334 = (z334.toNat : Int) ∧ wpay_p (⟨(dchs z324), (dwts z325), (divs z326), (dpys z327), (⟨z329.toNat, (devs z330)⟩ : Fd), z331.toNat, z332.toNat⟩ : Wl) z333.toNat z334.toNat, wpay_r (⟨(dchs z324), (dwts z325), (divs z326), (dpys z327), (⟨z329.toNat, (devs z330)⟩ : Fd), z331.toNat, z332.toNat⟩ : Wl) z333.toNat z334.toNat, [])
  | _ => none
attribute [go_sem] sp_wpay
theorem sp_wpay_ok : ∀ rs p r fr, sp_wpay rs = some (p, r, fr) → p → FnOk Tryz.prog 13 rs r fr := by
  intro rs p r fr h hp
  unfold sp_wpay at h
  split at h <;> cases h
  obtain ⟨hc0, hc1, hc2, hc3, hc4, hc5, hc6, hc7, hc8, hc9, hp⟩ := hp
  rename_i z324 z325 z326 z327 z329 z330 z331 z332 z333 z334
  obtain ⟨z324, rfl⟩ : ∃ m, z324 = chs m := ⟨_, hc0⟩
  obtain ⟨z325, rfl⟩ : ∃ m, z325 = wts m := ⟨_, hc1⟩
  obtain ⟨z326, rfl⟩ : ∃ m, z326 = ivs m := ⟨_, hc2⟩
  obtain ⟨z327, rfl⟩ : ∃ m, z327 = pys m := ⟨_, hc3⟩
  obtain ⟨z329, rfl⟩ : ∃ m : Nat, z329 = m := ⟨_, hc4⟩
  obtain ⟨z330, rfl⟩ : ∃ m, z330 = evs m := ⟨_, hc5⟩
  obtain ⟨z331, rfl⟩ : ∃ m : Nat, z331 = m := ⟨_, hc6⟩
  obtain ⟨z332, rfl⟩ : ∃ m : Nat, z332 = m := ⟨_, hc7⟩
  obtain ⟨z333, rfl⟩ : ∃ m : Nat, z333 = m := ⟨_, hc8⟩
  obtain ⟨z334, rfl⟩ : ∃ m : Nat, z334 = m := ⟨_, hc9⟩
  simp only [Int.toNat_natCast, dchs_chs, devs_evs, divs_ivs, dpys_pys, dwts_wts]
  simp only [Int.toNat_natCast, dchs_chs, devs_evs, divs_ivs, dpys_pys, dwts_wts, wpay_p] at hp
  exact wpay_ok ⟨z324, z325, z326, z327, ⟨z329, z330⟩, z331, z332⟩ z333 z334 hp
end Dm
namespace Dm
open Go Go.Proofs Go.IntWalk
theorem addF_ok {f : Fd} {k : Int} {a n : Nat} (h : (addF f k a n).2.2 = 0) : okFd (addF f k a n).1 := by
  unfold addF at h ⊢
  split at h
  rotate_left 1
  · cases h
  rename_i h1
  obtain ⟨⟨o1, o2, o3, o4⟩, hk⟩ := h1
  split at h
  · cases h
  rename_i h2
  rw [if_pos ⟨⟨o1, o2, o3, o4⟩, hk⟩, if_neg h2]
  have h5 := (okEv_get f.next f.l).1 o4
  have hlen : ((f.l ++ [(⟨f.next, k, a, n⟩ : Ev)]).drop (f.l.length + 1 - 64)).length = min f.next 64 := by
    rw [List.length_drop, List.length_append, List.length_singleton]; omega
  refine ⟨by dsimp only; omega, by dsimp only; unfold MM at *; omega, by dsimp only; rw [hlen]; omega, ?_⟩
  dsimp only
  rw [okEv_get]
  intro i hi
  have e : ((f.l ++ [(⟨f.next, k, a, n⟩ : Ev)]).drop (f.l.length + 1 - 64)).getD i default = (f.l ++ [(⟨f.next, k, a, n⟩ : Ev)]).getD (f.l.length + 1 - 64 + i) default := by
    rw [List.getD_eq_getElem?_getD, List.getElem?_drop, ← List.getD_eq_getElem?_getD]
  rw [e]
  rw [hlen] at hi ⊢
  by_cases hj : f.l.length + 1 - 64 + i < f.l.length
  · rw [List.getD_eq_getElem?_getD, List.getElem?_append_left hj, ← List.getD_eq_getElem?_getD]
    have := h5 _ hj
    refine ⟨?_, this.2⟩
    rw [this.1]; omega
  · rw [List.getD_eq_getElem?_getD, List.getElem?_append_right (by omega), show f.l.length + 1 - 64 + i - f.l.length = 0 by omega]
    refine ⟨?_, hk⟩
    show ((f.next : Nat) : Int) = _
    omega
theorem okPy_up {l : List Py} (h : okPy l) : Srt.Up Py.id ltN l := (Srt.chn_up (lt := ltN) Srt.totNat).1 h.2.2
theorem up_last {l : List Py} {k : Nat} (hu : Srt.Up Py.id ltN l) (h : 0 < l.length → (l.getD (l.length - 1) default).id < k) : ∀ x ∈ l, x.id < k := fun x hx => by
  obtain ⟨i, hi, rfl⟩ := mem_getD.1 hx
  by_cases hl : i = l.length - 1
  · rw [hl]; exact h (by omega)
  · have := Srt.up_get.1 hu i (l.length - 1) (by omega) (by omega)
    have h2 := h (by omega)
    simp only [ltN] at this; omega
theorem hlL_set {l : List Ch} {p : Nat} {d : Ch} {x : Hd} (hp : p < l.length) (hi : d.id = (l.getD p default).id) (hd : d.holds.Perm (x :: (l.getD p default).holds)) : (hlL (l.set p d)).Perm ((d.id, x.id, x.n) :: hlL l) := by
  conv => rhs; rw [split_at hp]
  rw [split_set hp]
  simp only [hlL, List.flatMap_append, List.flatMap_cons]
  have h1 : (hlC d).Perm ((d.id, x.id, x.n) :: hlC (l.getD p default)) := by
    unfold hlC
    rw [← hi]
    exact hd.map fun h => (d.id, h.id, h.n)
  refine (List.Perm.append_left _ (h1.append_right _)).trans ?_
  exact List.perm_middle
def ourC (c : Ch) : Nat := if c.op = true then c.loc else 0
def ourS (l : List Ch) : Nat := (l.map ourC).sum
def heldS (l : List Ch) : Nat := (l.map fun c => held c.holds).sum
theorem agr_parts {p : List Py} {c : List Ch} : agrL p c = (true, 0) ↔ okPy p ∧ c.length ≤ 32 ∧ (c.map Ch.id).Nodup ∧ (∀ q ∈ pend p, (q.chan, q.id, q.n) ∈ hlL c) ∧ (hlL c).length = (pend p).length := by
  unfold agrL
  split
  · rename_i h
    rw [Prod.mk.injEq]
    refine ⟨fun h1 => ⟨h.1, h.2.1, h.2.2, of_decide_eq_true h1.1⟩, fun h1 => ⟨decide_eq_true h1.2.2.2, rfl⟩⟩
  · rename_i h
    refine ⟨fun h1 => (by cases h1), fun h1 => absurd ⟨h1.1, h1.2.1, h1.2.2.1⟩ h⟩
theorem okLd_ids {l : List Ch} (h : okLd l) : (l.map Ch.id).Nodup := by
  have h1 := (Srt.chn_up (lt := ltN) Srt.totNat).1 h.2.2.1
  unfold Srt.Up at h1
  rw [List.Nodup, List.pairwise_map]
  exact h1.imp fun hlt he => by simp only [ltN] at hlt; omega
theorem payE_0 {v : Wl} {hash n : Nat} (h : payE v hash n = 0) : okW v ∧ n ≠ 0 ∧ n ≤ MM ∧ (firstL v.c v.w n).2 = 0 ∧ v.next ≠ MM ∧ (payP v hash n).2 = 0 ∧ (payC v n).2 = 0 ∧ (payF v n).2.2 = 0 := by
  unfold payE at h
  split at h
  · cases h
  rename_i h1
  split at h
  · cases h
  rename_i h2
  split at h
  · cases h
  rename_i h3
  split at h
  · rename_i h4; exact absurd h h4
  rename_i h4
  split at h
  · rename_i h5; exact absurd h h5
  rename_i h5
  refine ⟨Decidable.byContradiction fun h => h1 (.inl h), fun h => h1 (.inr (.inl h)), Decidable.byContradiction fun h => h1 (.inr (.inr h)), Decidable.byContradiction h2, h3, Decidable.byContradiction h4, Decidable.byContradiction h5, h⟩
theorem payW_e {v : Wl} {hash n : Nat} : (payW v hash n).2.2 = payE v hash n := by
  unfold payW
  split
  · rename_i h; exact h.symm
  · rfl
theorem okW_ids {w : Wl} (h : okW w) : ∀ x ∈ w.p, x.id < w.next := by
  have h1 := (agr_parts.1 h.2.2.2.2.2.2.2).1
  exact up_last (okPy_up h1) h.2.2.2.2.2.2.1
end Dm
namespace Dm
open Go Go.Proofs Go.IntWalk
@[go_sem] def cheld_r (c : Ch) : D := .tup [.int .u64 ((sumsC c).1 : Int), .int .i64 (sumsC c).2.2]
@[go_sem] abbrev n_cheld : FuncId := 118
@[go_sem] def cheld_T : Tab := [(203, sp_csums)]
theorem cheld_T_ok : TabOk Tryz.prog cheld_T := (TabOk.cons sp_csums_ok TabOk.nil)
set_option maxRecDepth 8000 in
set_option maxHeartbeats 1000000 in
theorem cheld_ok (c : Ch)  : PureFn Tryz.prog 118 [.agg [.c (.int .u64 (c.id : Int)), .c (.int .u64 (c.loc : Int)), .c (.int .u64 (c.rem : Int)), .c (.int .u64 (c.res : Int)), .c (.int .u64 (c.most : Int)), .sl (hds c.holds), .c (.bool c.op)]] (cheld_r c) := by
  refine .of (ac118 cheld_T_ok (Nat.le_of_ble_eq_true rfl) ?_)
  simp -implicitDefEqProofs only [cdA, go_sem, Go.Proofs.Tryz.f118, reduceIte, List.cons.injEq, cdB]
def sp_cheld : List D → Option (Prop × D × Fr)
  | [.agg [.c (.int .u64 z371), .c (.int .u64 z372), .c (.int .u64 z373), .c (.int .u64 z374), .c (.int .u64 z375), .c (.sl z376), .c (.bool z377)]] => some (z371 = (z371.toNat : Int) ∧ z372 = (z372.toNat : Int) ∧ z373 = (z373.toNat : Int) ∧ z374 = (z374.toNat : Int) ∧ z375 = (z375.toNat : Int) ∧ z376 = hds (dhds z376), cheld_r (⟨z371.toNat, z372.toNat, z373.toNat, z374.toNat, z375.toNat, (dhds z376), z377⟩ : Ch), [])
  | _ => none
attribute [go_sem] sp_cheld
theorem sp_cheld_ok : ∀ rs p r fr, sp_cheld rs = some (p, r, fr) → p → FnOk Tryz.prog 118 rs r fr := by
  intro rs p r fr h hp
  unfold sp_cheld at h
  split at h <;> cases h
  obtain ⟨hc0, hc1, hc2, hc3, hc4, hc5⟩ := hp
  rename_i z371 z372 z373 z374 z375 z376 z377
  obtain ⟨z371, rfl⟩ : ∃ m : Nat, z371 = m := ⟨_, hc0⟩
  obtain ⟨z372, rfl⟩ : ∃ m : Nat, z372 = m := ⟨_, hc1⟩
  obtain ⟨z373, rfl⟩ : ∃ m : Nat, z373 = m := ⟨_, hc2⟩
  obtain ⟨z374, rfl⟩ : ∃ m : Nat, z374 = m := ⟨_, hc3⟩
  obtain ⟨z375, rfl⟩ : ∃ m : Nat, z375 = m := ⟨_, hc4⟩
  obtain ⟨z376, rfl⟩ : ∃ m, z376 = hds m := ⟨_, hc5⟩
  simp only [Int.toNat_natCast, dhds_hds]
  exact cheld_ok ⟨z371, z372, z373, z374, z375, z376, z377⟩
def oursL (l : List Ch) : Nat × Nat × Int := if okLd l then (ourS l, heldS l, 0) else (0, 0, 1)
theorem our_le : ∀ {l : List Ch}, (∀ c ∈ l, okCh c) → ourS l + heldS l ≤ totL l
  | [], _ => Nat.le_refl 0
  | c :: l, h => by
    have h1 := our_le (l := l) fun d hd => h d (.tail _ hd)
    have h2 := h c (.head _)
    have e1 : ourS (c :: l) = ourC c + ourS l := by simp [ourS]
    have e2 : heldS (c :: l) = held c.holds + heldS l := by simp [heldS]
    have e3 : totL (c :: l) = (held c.holds + c.loc + c.rem) + totL l := by
      simp only [totL, List.map_cons, List.sum_cons]
      rw [allC, sumsC, if_pos h2]
    have h4 : ourC c ≤ c.loc := by unfold ourC; split <;> omega
    omega
theorem our_succ {l : List Ch} {i : Nat} (h : i < l.length) : ourS (l.take (i + 1)) = ourS (l.take i) + ourC (l.getD i default) ∧ heldS (l.take (i + 1)) = heldS (l.take i) + held (l.getD i default).holds := by
  rw [take_succ h, ourS, heldS, List.map_append, List.sum_append, List.map_append, List.sum_append]; simp [ourS, heldS]
theorem our_take {l : List Ch} {i : Nat} : ourS (l.take i) ≤ ourS l ∧ heldS (l.take i) ≤ heldS l := by
  have e1 : ourS l = ourS (l.take i) + ourS (l.drop i) := by
    conv => lhs; rw [← List.take_append_drop i l]
    rw [ourS, List.map_append, List.sum_append]; rfl
  have e2 : heldS l = heldS (l.take i) + heldS (l.drop i) := by
    conv => lhs; rw [← List.take_append_drop i l]
    rw [heldS, List.map_append, List.sum_append]; rfl
  omega
@[go_sem] def ours_r (l : List Ch) : D := .tup [.int .u64 ((oursL l).1 : Int), .int .u64 ((oursL l).2.1 : Int), .int .i64 (oursL l).2.2]
@[go_sem] abbrev n_ours : FuncId := 43
@[go_sem] def ours_T : Tab := [(102, sp_lcheck), (118, sp_cheld)]
theorem ours_T_ok : TabOk Tryz.prog ours_T := (TabOk.cons sp_lcheck_ok (TabOk.cons sp_cheld_ok TabOk.nil))
set_option maxRecDepth 8000 in
set_option maxHeartbeats 1000000 in
theorem ours_ok (l : List Ch)  : PureFn Tryz.prog 43 [.sl (chs l)] (ours_r l) := by
  refine .of (ac43 ours_T_ok (Nat.le_of_ble_eq_true rfl) ?_)
  simp -implicitDefEqProofs only [cdA, go_sem, Go.Proofs.Tryz.f43, reduceIte, List.cons.injEq, cdB]
  have hl0 : chkL l = 0 ↔ okLd l := by unfold chkL; split <;> rename_i h <;> simp only [h] <;> decide
  refine ⟨fun h0 hl => ?_, fun h0 => by
    have hno : ¬ okLd l := fun h => h0 (hl0.2 h)
    rw [oursL, chkL, if_neg hno, if_neg hno]; exact ⟨rfl, rfl, rfl⟩⟩
  have hok := hl0.1 h0
  have hle := our_le hok.2.1
  have htl := hok.2.2.2.2
  have e : oursL l = (ourS l, heldS l, 0) := by rw [oursL, if_pos hok]
  rw [e]
  refine SWp.loop (ι := { i : Nat // i ≤ l.length }) (fun i => ⟨[(2, .int .u64 (ourS (l.take i.1) : Nat)), (3, .int .u64 (heldS (l.take i.1) : Nat)), (14, .sl (chs l)), (15, .int .i64 l.length), (16, .int .i64 i.1)], [], 0⟩) (fun i => l.length - i.1) ⟨0, by omega⟩ ?_ ?_
  · simp [go_sem, ourS, heldS]
  · rintro ⟨i, hi⟩
    refine awp_sound ours_T_ok.toS lv43 _ _ _ rfl ?_
    simp -implicitDefEqProofs only [cdA, go_sem, reduceIte, List.cons.injEq, cdB]
    refine ⟨fun h1 => ⟨by omega, ?_⟩, fun h1 => ?_⟩
    · have hi' : i < l.length := by omega
      obtain ⟨s1, s2⟩ := our_succ hi'
      obtain ⟨t1, t2⟩ := our_take (l := l) (i := i + 1)
      have hc := hok.2.1 _ (mem_getD.2 ⟨i, hi', rfl⟩)
      have e1 : (sumsC (l.getD i default)).1 = held (l.getD i default).holds := by rw [sumsC, if_pos hc]
      have hs := sumsC_0.2 hc
      unfold MM ourC at *
      rw [e1, hs]
      refine ⟨fun _ => ⟨fun h2 => ?_, fun h2 => ?_⟩, fun h => absurd rfl h⟩
      · rw [if_pos h2] at s1
        exact ⟨⟨i + 1, hi'⟩, by dsimp only; omega, by rw [u64_in _ (by omega)]; dsimp only; omega, by rw [u64_in _ (by omega)]; dsimp only; omega, i64_in _ (by omega)⟩
      · rw [if_neg (by rw [h2]; decide)] at s1
        exact ⟨⟨i + 1, hi'⟩, by dsimp only; omega, by dsimp only; omega, by rw [u64_in _ (by omega)]; dsimp only; omega, i64_in _ (by omega)⟩
    · have hi' : i = l.length := by omega
      subst hi'
      rw [List.take_length]; exact ⟨rfl, rfl⟩
def sp_ours : List D → Option (Prop × D × Fr)
  | [.c (.sl z378)] => some (z378 = chs (dchs z378), ours_r (dchs z378), [])
  | _ => none
attribute [go_sem] sp_ours
theorem sp_ours_ok : ∀ rs p r fr, sp_ours rs = some (p, r, fr) → p → FnOk Tryz.prog 43 rs r fr := by
  intro rs p r fr h hp
  unfold sp_ours at h
  split at h <;> cases h
  have hc0 := hp
  rename_i z378
  obtain ⟨z378, rfl⟩ : ∃ m, z378 = chs m := ⟨_, hc0⟩
  simp only [dchs_chs]
  exact ours_ok z378
end Dm
