import Derived.Test.YtceoichdaepegaaGreatP6
import Derived.Ground.SlsfProg
set_option linter.unusedSimpArgs false
set_option linter.unusedVariables false
set_option linter.unusedSectionVars false
namespace Go.Proofs
open Go.Shelf Go.RowKit Go.Lib Go.Sort
def Tryz.zaF : Go.Shelf.Ren := ⟨fun | 6 => 125 | 15 => 212 | 14 => 211 | 28 => 249 | 29 => 250 | 20 => 241 | 21 => 242 | 22 => 243 | 23 => 244 | 24 => 245 | 25 => 246 | 26 => 247 | 27 => 248 | 46 => 257 | 47 => 258 | 48 => 259 | 49 => 260 | 50 => 261 | 57 => 266 | n => n, fun | 22 => 142 | 24 => 149 | 25 => 154 | 3 => 3 | 39 => 220 | 0 => 0 | 53 => 250 | 55 => 26 | 4 => 4 | 46 => 244 | 45 => 243 | 50 => 106 | 5 => 5 | 9 => 9 | 66 => 254 | 70 => 258 | 76 => 263 | 77 => 264 | n => n, fun | n => n⟩
theorem Tryz.zbK : Go.Proofs.SlLaysF0.n6 Tryz.prog Tryz.zaF := {
 mixed := by kernel_rfl
 f6 := ⟨Tryz.f125.name, by decide, Tryz.func125.trans (congrArg some (by kernel_rfl))⟩
 f14 := ⟨Tryz.f211.name, by decide, Tryz.func211.trans (congrArg some (by kernel_rfl))⟩
 f15 := Tryz.func212.trans (congrArg some (by kernel_rfl))
 f20 := ⟨Tryz.f241.name, by decide, Tryz.func241.trans (congrArg some (by kernel_rfl))⟩
 f21 := ⟨Tryz.f242.name, by decide, Tryz.func242.trans (congrArg some (by kernel_rfl))⟩
 f22 := ⟨Tryz.f243.name, by decide, Tryz.func243.trans (congrArg some (by kernel_rfl))⟩
 f23 := ⟨Tryz.f244.name, by decide, Tryz.func244.trans (congrArg some (by kernel_rfl))⟩
 f24 := ⟨Tryz.f245.name, by decide, Tryz.func245.trans (congrArg some (by kernel_rfl))⟩
 f25 := ⟨Tryz.f246.name, by decide, Tryz.func246.trans (congrArg some (by kernel_rfl))⟩
 f26 := ⟨Tryz.f247.name, by decide, Tryz.func247.trans (congrArg some (by kernel_rfl))⟩
 f27 := ⟨Tryz.f248.name, by decide, Tryz.func248.trans (congrArg some (by kernel_rfl))⟩
 f28 := Tryz.func249.trans (congrArg some (by kernel_rfl))
 f29 := Tryz.func250.trans (congrArg some (by kernel_rfl))
 f46 := ⟨Tryz.f257.name, by decide, Tryz.func257.trans (congrArg some (by kernel_rfl))⟩
 f47 := Tryz.func258.trans (congrArg some (by kernel_rfl))
 f48 := Tryz.func259.trans (congrArg some (by kernel_rfl))
 f49 := ⟨Tryz.f260.name, by decide, Tryz.func260.trans (congrArg some (by kernel_rfl))⟩
 f50 := ⟨Tryz.f261.name, by decide, Tryz.func261.trans (congrArg some (by kernel_rfl))⟩
 f57 := ⟨Tryz.f266.name, by decide, Tryz.func266.trans (congrArg some (by kernel_rfl))⟩
 t0 := Tryz.underlying0
 a0 := Tryz.isAgg0
 z0 := Tryz.sizeOf0
 v0 := Tryz.zeroValue0
 t3 := Tryz.underlying3
 a3 := Tryz.isAgg3
 z3 := Tryz.sizeOf3
 v3 := Tryz.zeroValue3
 t4 := Tryz.underlying4
 a4 := Tryz.isAgg4
 z4 := Tryz.sizeOf4
 v4 := Tryz.zeroValue4
 t5 := Tryz.underlying5
 a5 := Tryz.isAgg5
 z5 := Tryz.sizeOf5
 v5 := Tryz.zeroValue5
 t9 := Tryz.underlying9
 a9 := Tryz.isAgg9
 z9 := Tryz.sizeOf9
 v9 := Tryz.zeroValue9
 t22 := Tryz.underlying142
 a22 := Tryz.isAgg142
 z22 := Tryz.sizeOf142
 v22 := Tryz.zeroValue142
 t25 := Tryz.underlying154
 a25 := Tryz.isAgg154
 z25 := Tryz.sizeOf154
 v25 := Tryz.zeroValue154
 t39 := Tryz.underlying220
 a39 := Tryz.isAgg220
 z39 := Tryz.sizeOf220
 v39 := Tryz.zeroValue220
 t45 := Tryz.underlying243
 a45 := Tryz.isAgg243
 z45 := Tryz.sizeOf243
 v45 := Tryz.zeroValue243
 t46 := Tryz.underlying244
 a46 := Tryz.isAgg244
 z46 := Tryz.sizeOf244
 v46 := Tryz.zeroValue244
 t50 := Tryz.underlying106
 a50 := Tryz.isAgg106
 z50 := Tryz.sizeOf106
 v50 := Tryz.zeroValue106
 t53 := Tryz.underlying250
 a53 := Tryz.isAgg250
 z53 := Tryz.sizeOf250
 v53 := Tryz.zeroValue250
 t55 := Tryz.underlying26
 a55 := Tryz.isAgg26
 z55 := Tryz.sizeOf26
 v55 := Tryz.zeroValue26
 t66 := Tryz.underlying254
 a66 := Tryz.isAgg254
 z66 := Tryz.sizeOf254
 v66 := Tryz.zeroValue254
 t70 := Tryz.underlying258
 a70 := Tryz.isAgg258
 z70 := Tryz.sizeOf258
 v70 := Tryz.zeroValue258
 t76 := Tryz.underlying263
 a76 := Tryz.isAgg263
 z76 := Tryz.sizeOf263
 v76 := Tryz.zeroValue263
 t77 := Tryz.underlying264
 a77 := Tryz.isAgg264
 z77 := Tryz.sizeOf264
 v77 := Tryz.zeroValue264 }
end Go.Proofs
namespace Dm
open Go Go.Proofs Go.IntWalk
abbrev ltM (a b : Int × Nat) : Prop := b.1 < a.1 ∨ (a.1 = b.1 ∧ a.2 < b.2)
instance : DecidableRel ltM := fun a b => by unfold ltM; infer_instance
theorem gby : Srt.Tot ltM := ⟨fun a => by unfold ltM; omega, fun h h' => by unfold ltM at *; omega, fun a b => by
  unfold ltM
  have : a = b ↔ a.1 = b.1 ∧ a.2 = b.2 := Prod.ext_iff
  rw [this]; omega⟩
def Mk.key (m : Mk) : Int × Nat := (yt m.s, m.id)
theorem jB {a b : Mk} : mkO a b < 0 ↔ ltM a.key b.key := by
  unfold mkO orS ltM Mk.key vad
  by_cases h1 : yt b.s < yt a.s
  · simp [h1]
  · by_cases h2 : yt a.s < yt b.s
    · simp [h1, h2]; omega
    · by_cases h3 : (a.id : Int) < b.id
      · simp [h1, h2, h3]; omega
      · by_cases h4 : (b.id : Int) < a.id
        · simp [h1, h2, h3, h4]; omega
        · simp [h1, h2, h3, h4]; omega
def xa5 (l : List Mk) : List Mk := l.foldl (Srt.put Mk.key ltM) []
def kbh (n : Nat) (c : Ch) : Bool := c.op && decide (max n 1 ≤ (zU c).1)
def uc7 (w : List Wt) (n : Nat) (c : Ch) : Mk := ⟨c.id, (xaX c (xD w c.id) (vaK n)).1⟩
def qq (l : List Ch) (w : List Wt) (n : Nat) : List Mk := (l.filter (kbh n)).map (uc7 w n)
def kba (l : List Ch) (w : List Wt) (n : Nat) : List Nat × Int := if ym l then ((xa5 (qq l w n)).map Mk.id, 0) else ([], 1)
theorem zaC {l : List Ch} {w : List Wt} {n i : Nat} (h : i < l.length) : qq (l.take (i + 1)) w n = qq (l.take i) w n ++ (if kbh n (l.getD i default) = true then [uc7 w n (l.getD i default)] else []) := by
  rw [take_succ h, qq, List.filter_append, List.map_append]
  congr 1
  generalize l.getD i default = x
  by_cases h : kbh n x = true <;> simp [h]
theorem yan {l : List Ch} {w : List Wt} {n : Nat} : (qq l w n).length ≤ l.length := by
  rw [qq, List.length_map]; exact List.length_filter_le _ _
theorem gaQ {n : Nat} (h : vbw (flo .f64 n) = true) : flo .f64 n = none := by
  rw [j7, decide_eq_true_iff, wbi, wQ (jx n)] at h
  exact xy h
theorem waR {op : BinOp} {a b : Option Nat} (h : vbw (far op a b) = true) : far op a b = none := by
  unfold far at *
  cases a with
  | none => rfl
  | some x => cases b with
    | none => rfl
    | some y =>
      simp only at *
      have key : ∀ o : Option Nat, vbw (o.bind (flo .f64)) = true → o.bind (flo .f64) = none := fun o ho => by
        cases o with
        | none => rfl
        | some z => exact gaQ ho
      split at h <;> exact key _ h
theorem wa8 {l : List Mk} : ∀ {m : List Mk}, Srt.Up Mk.key ltM m → Srt.Up Mk.key ltM (l.foldl (Srt.put Mk.key ltM) m) := by
  induction l with
  | nil => exact fun h => h
  | cons x l ih => exact fun h => ih (Srt.ube gby h)
theorem zbv {l : List Mk} : Srt.Up Mk.key ltM (xa5 l) := wa8 .nil
theorem xa6 {l : List Mk} (hd : (l.map Mk.id).Nodup) {x : Mk} : x ∈ xa5 l ↔ x ∈ l := by
  have key : ∀ (l m : List Mk), Srt.Up Mk.key ltM m → ((m ++ l).map Mk.id).Nodup → ∀ x, x ∈ l.foldl (Srt.put Mk.key ltM) m ↔ x ∈ m ∨ x ∈ l := by
    intro l
    induction l with
    | nil => intro m _ _ x; simp
    | cons y l ih =>
      intro m hu hn x
      rw [List.foldl_cons, ih _ (Srt.ube gby hu) ?_]
      · rw [Srt.bbo gby hu]
        simp only [List.mem_cons]
        constructor
        · rintro ((h | h) | h)
          · exact .inr (.inl h)
          · exact .inl h.1
          · exact .inr (.inr h)
        · rintro (h | h | h)
          · refine .inl (.inr ⟨h, fun he => ?_⟩)
            have : x.id = y.id := congrArg Prod.snd he
            rw [List.map_append, List.nodup_append] at hn
            exact hn.2.2 _ (List.mem_map.2 ⟨x, h, rfl⟩) _ (by simp) this
          · exact .inl (.inl h)
          · exact .inr h
      · have hp : (Srt.put Mk.key ltM m y).Perm (m ++ [y]) := by
          have ht : ¬ Srt.thr Mk.key ltM m y.key = true := fun h => by
            obtain ⟨z, hz, he⟩ := (Srt.yU gby hu).1 h
            have : z.id = y.id := congrArg Prod.snd he
            rw [List.map_append, List.nodup_append] at hn
            exact hn.2.2 _ (List.mem_map.2 ⟨z, hz, rfl⟩) _ (by simp) this
          rw [Srt.put, if_neg ht]
          exact Srt.kF.trans (List.perm_append_comm (l₁ := [y]))
        have := (hp.append_right l).map Mk.id
        rw [List.append_assoc] at this
        exact this.nodup_iff.2 hn
  have := key l [] .nil (by simpa using hd) x
  simpa [xa5] using this
theorem ybv {l m : List Mk} (hd : (l.map Mk.id).Nodup) (hu : Srt.Up Mk.key ltM m) (hm : ∀ x, x ∈ m ↔ x ∈ l) : m = xa5 l :=
  Srt.ext gby hu zbv fun x => by rw [hm, xa6 hd]
theorem vaQ {l : List Ch} {w : List Wt} {n : Nat} (h : ym l) : ((qq l w n).map Mk.id).Nodup := by
  have h1 := (Srt.jg (lt := ltN) Srt.qf).1 h.2.2.1
  unfold Srt.Up at h1
  rw [qq, List.map_map, List.Nodup, List.pairwise_map]
  exact (h1.sublist List.filter_sublist).imp fun hlt he => by
    change _ < _ at hlt
    change Ch.id _ = Ch.id _ at he
    omega
theorem uaD {l : List Mk} {els : List (List C)} (hd : (l.map Mk.id).Nodup) (hp : els.Perm (mks l)) (hs : els.Pairwise fun x y => ¬ mkO (Mk.dec y) (Mk.dec x) < 0) : els = mks (xa5 l) := by
  have h1 : mks (els.map Mk.dec) = els := by
    simp only [mks, List.map_map]
    refine (List.map_congr_left fun x hx => ?_).trans (List.map_id _)
    obtain ⟨a, _, rfl⟩ := List.mem_map.1 (hp.mem_iff.1 hx)
    show (Mk.dec a.enc).enc = a.enc
    rw [Mk.zh]
  have h2 : (els.map Mk.dec).Perm l := by
    have := hp.map Mk.dec
    rwa [show (mks l).map Mk.dec = l from ya2 l] at this
  have h3 : els.map Mk.dec = xa5 l := by
    refine ybv hd ?_ fun x => h2.mem_iff
    have hd2 : ((els.map Mk.dec).map Mk.id).Nodup := ((h2.map Mk.id).nodup_iff).2 hd
    unfold Srt.Up
    rw [List.Nodup, List.pairwise_map] at hd2
    have hs2 : (els.map Mk.dec).Pairwise fun x y => ¬ mkO y x < 0 := by rw [List.pairwise_map]; exact hs
    refine hd2.imp₂ ?_ hs2
    intro a b hne hno
    rw [jB] at hno
    unfold ltM Mk.key at *
    simp only at *
    omega
  rw [← h3, h1]
@[go_sem] def baR (l : List Ch) (w : List Wt) (n : Nat) : D := .tup [.sl (wv (kba l w n).1), .int .i64 (kba l w n).2]
@[go_sem] abbrev vcC : FuncId := 48
@[go_sem] def jbm : Tab := [(102, uo), (120, vK), (121, zaB), (122, uP), (123, kJ), (124, xab)]
theorem uE : ya Tryz.prog jbm := (ya.cons vo (ya.cons wV (ya.cons jaT (ya.cons gar (ya.cons jae (ya.cons uaG ya.nil))))))
set_option maxRecDepth 8000 in
set_option maxHeartbeats 1000000 in
theorem ga8 (l : List Ch) (w : List Wt) (n : Nat)  : yb Tryz.prog 48 [.sl (chs l), .sl (wts w), .c (.int .u64 (n : Int))] (baR l w n) := by
  refine .of (xdd uE (Nat.le_of_ble_eq_true rfl) ?_)
  simp -implicitDefEqProofs only [cdA, go_sem, Go.Proofs.Tryz.f48, reduceIte, reduceCtorEq, Nat.reduceEqDiff, Nat.reduceAdd, Nat.reduceLeDiff, Nat.reduceSub, Nat.reduceMul, Nat.reduceLT, Nat.reduceShiftRight, Nat.reduceMod, Int.reduceLE, Int.reduceLT, Int.reduceToNat, List.cons.injEq, cdB]
  have hcz : u9 l = 0 ↔ ym l := by unfold u9; split <;> simp_all
  rw [hcz]
  refine ⟨fun hok hl => ?_, fun hno => by rw [kba, u9, if_neg hno, if_neg hno]; exact ⟨rfl, rfl⟩⟩
  have hl32 := hok.1
  refine SWp.kb1 9 2 149 rfl (Nat.zero_le _) ?_
  refine SWp.loop (ι := { i : Nat // i ≤ l.length }) (fun i => ⟨[(1, .sl (wts w)), (2, .int .u64 n), (9, .vec 0 (qq (l.take i.1) w n).length), (23, .sl (chs l)), (24, .int .i64 l.length), (25, .int .i64 i.1)], [(0, .vec true 2 149 (mks (qq (l.take i.1) w n)))], 1⟩) (fun i => l.length - i.1) ⟨0, by omega⟩ ?_ ?_
  · simp [go_sem, qq, mks]
  · rintro ⟨i, hi⟩
    refine qb uE.toS jb7 _ _ _ rfl ?_
    simp -implicitDefEqProofs only [cdA, go_sem, reduceIte, reduceCtorEq, Nat.reduceEqDiff, Nat.reduceAdd, Nat.reduceLeDiff, Nat.reduceSub, Nat.reduceMul, Nat.reduceLT, Nat.reduceShiftRight, Nat.reduceMod, Int.reduceLE, Int.reduceLT, Int.reduceToNat, List.cons.injEq, cdB]
    refine ⟨fun h => ⟨by omega, ?_⟩, fun h => ?_⟩
    · have hi' : i < l.length := by omega
      have hc0 : yl (l.getD i default) := hok.2.1 _ (jb.2 ⟨i, hi', rfl⟩)
      have hst := zaC (w := w) (n := n) hi'
      have hr0 := yaL.2 hc0
      have hone : (xaX (l.getD i default) (xD w (l.getD i default).id) (vaK n)).2 = 0 := by rw [xaX, if_pos hc0]
      have hlen := yan (l := l.take i) (w := w) (n := n)
      rw [List.length_take] at hlen
      generalize hc : l.getD i default = c at *
      have hskip : kbh n c ≠ true → qq (l.take (i + 1)) w n = qq (l.take i) w n := fun he => by rw [hst, if_neg he, List.append_nil]
      refine ⟨fun _ => ⟨fun hop => ⟨fun hr => ?_, fun hr => ?_⟩, fun hop => ?_⟩, fun hr => absurd hr0 hr⟩
      · exact ⟨⟨i + 1, hi'⟩, by dsimp only; omega, by dsimp only; rw [hskip (by rw [kbh]; simp; intro _; omega)]; exact ⟨⟨rfl, i64_in _ (by omega)⟩, rfl⟩⟩
      · refine uc.run xbm uE qa (by kernel_rfl) (by kernel_rfl) ?_
        simp -implicitDefEqProofs only [cdA, go_sem, reduceIte, reduceCtorEq, Nat.reduceEqDiff, Nat.reduceAdd, Nat.reduceLeDiff, Nat.reduceSub, Nat.reduceMul, Nat.reduceLT, Nat.reduceShiftRight, Nat.reduceMod, Int.reduceLE, Int.reduceLT, Int.reduceToNat, List.cons.injEq, cdB]
        have hwm : ∀ a b, wts [⟨a, b⟩] = mks [⟨a, b⟩] := fun _ _ => rfl
        have hel : kbh n c = true := by
          simp at hop
          rw [kbh, hop]; simp; omega
        rw [if_pos hel] at hst
        have hfin : mks (qq (l.take i) w n) ++ wts [⟨c.id, (xaX c (xD w c.id) (vaK n)).1⟩] = mks (qq (l.take (i + 1)) w n) := by rw [hwm, ybu, hst]; rfl
        have hnext : ∀ s, s = (xaX c (xD w c.id) (vaK n)).1 → ((qq (l.take i) w n).length + 1) * 16 ≤ 140737488355328 ∧ ∃ i_1 : { i : Nat // i ≤ l.length }, l.length - i_1.val < l.length - i ∧ (D.vec 0 ((qq (l.take i) w n).length + 1) = D.vec 0 (qq (l.take i_1.val) w n).length ∧ IntKind.i64.wrap ((i : Int) + 1) = i_1.val) ∧ Ob.vec true 2 149 (mks (qq (l.take i) w n) ++ wts [⟨c.id, s⟩]) = Ob.vec true 2 149 (mks (qq (l.take i_1.val) w n)) := fun s hs => by
          refine ⟨by omega, ⟨i + 1, hi'⟩, by dsimp only; omega, ⟨by dsimp only; rw [hst]; simp, i64_in _ (by omega)⟩, ?_⟩
          rw [hs, hfin]
        refine ⟨fun _ => ⟨fun hnan => hnext _ ?_, fun _ => hnext _ rfl⟩, fun h => absurd hone h⟩
        have e1 : (xaX c (xD w c.id) (vaK n)).1 = far .mul (xD w c.id) (far .quo (far .sub (vaK (zU c).1) (vaK n)) (vaK (xg c).2.1)) := by rw [xaX, if_pos hc0]
        rw [e1] at hnan ⊢
        exact (waR hnan).symm
      · exact ⟨⟨i + 1, hi'⟩, by dsimp only; omega, by dsimp only; rw [hskip (by rw [kbh]; simp at hop; simp [hop])]; exact ⟨⟨rfl, i64_in _ (by omega)⟩, rfl⟩⟩
    · have hi' : i = l.length := by omega
      subst hi'
      rw [List.take_length]
      have hlen := yan (l := l) (w := w) (n := n)
      have hdec : ∀ a : Mk, Mk.dec a.enc = a := Mk.zh
      have hin : ∀ x ∈ mks (qq l w n), ∃ a : Mk, x = a.enc := fun x hx => by
        obtain ⟨a, _, rfl⟩ := List.mem_map.1 hx
        exact ⟨a, rfl⟩
      refine va.sort Tryz.zbK (k := 2) (by decide) Tryz.isAgg149 Tryz.sizeOf149 rfl (cf := fun x y => mkO (Mk.dec x) (Mk.dec y)) rfl (by simp) (by omega) ?_ ?_ ?_ ?_ ?_
      · intro x hx y hy
        obtain ⟨a, rfl⟩ := hin x hx
        obtain ⟨b, rfl⟩ := hin y hy
        rw [hdec, hdec]
        exact yaZ a b
      · intro x hx
        rw [jB]; exact gby.irr _
      · intro x _ y _ z _
        rw [jB, jB, jB]; exact gby.tr
      · intro x _ y _ z _
        rw [jB, jB, jB]
        unfold ltM; omega
      · intro els' hp hs
        have he := uaD (vaQ hok) hp hs
        subst he
        have hol : (xa5 (qq l w n)).length = (qq l w n).length := by
          have := hp.length_eq
          rwa [vY, vY] at this
        clear hp hs
        generalize hM : xa5 (qq l w n) = M at *
        rw [← hol]
        have hml : M.length ≤ 32 := by omega
        simp -implicitDefEqProofs only [cdA, go_sem, reduceIte, reduceCtorEq, Nat.reduceEqDiff, Nat.reduceAdd, Nat.reduceLeDiff, Nat.reduceSub, Nat.reduceMul, Nat.reduceLT, Nat.reduceShiftRight, Nat.reduceMod, Int.reduceLE, Int.reduceLT, Int.reduceToNat, List.cons.injEq, cdB]
        refine fun _ => ⟨⟨by omega, by omega⟩, fun _ => ?_⟩
        have hz : List.replicate M.length [C.int .u64 0] = wv (List.replicate M.length 0) := by simp [wv]
        rw [hz]
        refine SWp.loop (ι := { x : Nat × List Nat // x.1 ≤ M.length ∧ x.2.length = M.length ∧ ∀ j, j < x.1 → x.2.getD j default = (M.getD j default).id }) (fun x => ⟨[(15, .vec 1 M.length), (77, .vec 0 M.length), (78, .int .i64 M.length), (79, .int .i64 x.1.1)],
          [(1, .vec true 1 26 (wv x.1.2)), (0, .vec true 2 149 (mks M))], 2⟩) (fun x => M.length - x.1.1) ⟨(0, List.replicate M.length 0), by simp⟩ ?_ ?_
        · simp [go_sem]
        · rintro ⟨⟨j, X⟩, hj, hX, hall⟩
          dsimp only at hj hX hall
          refine qb uE.toS jb7 _ _ _ rfl ?_
          simp -implicitDefEqProofs only [cdA, go_sem, reduceIte, reduceCtorEq, Nat.reduceEqDiff, Nat.reduceAdd, Nat.reduceLeDiff, Nat.reduceSub, Nat.reduceMul, Nat.reduceLT, Nat.reduceShiftRight, Nat.reduceMod, Int.reduceLE, Int.reduceLT, Int.reduceToNat, List.cons.injEq, cdB]
          refine ⟨fun h2 => ⟨by omega, by omega, by omega, ⟨hX.symm, by omega⟩, ⟨(j + 1, X.set j (M.getD j default).id), by dsimp only; omega, by dsimp only; rw [List.length_set]; exact hX, fun q hq => ?_⟩, by dsimp only; omega, i64_in _ (by omega), rfl⟩, fun h2 => ?_⟩
          · dsimp only at hq ⊢
            rw [Srt.qy (by omega)]
            by_cases hqj : q = j
            · rw [if_pos hqj, hqj]
            · rw [if_neg hqj]; exact hall q (by omega)
          · have hXm : X = M.map Mk.id := by
              apply List.ext_getElem (by simpa using hX)
              intro q h3 h4
              have := hall q (by omega)
              rw [ve h3, ve (by omega)] at this
              simpa using this
            rw [kba, if_pos hok, hM, hXm]
            exact ⟨⟨by simp, _, _, _, rfl⟩, rfl⟩
def xR : List D → Option (Prop × D × Fr)
  | [.c (.sl z157), .c (.sl z158), .c (.int .u64 z159)] => some (z157 = chs (xh z157) ∧ z158 = wts (jj z158) ∧ z159 = (z159.toNat : Int), baR (xh z157) (jj z158) z159.toNat, [])
  | _ => none
attribute [go_sem] xR
theorem wap : ∀ rs p r fr, xR rs = some (p, r, fr) → p → zg Tryz.prog 48 rs r fr := by
  intro rs p r fr h hp
  unfold xR at h
  split at h <;> cases h
  obtain ⟨hc0, hc1, hc2⟩ := hp
  rename_i z157 z158 z159
  obtain ⟨z157, rfl⟩ : ∃ m, z157 = chs m := ⟨_, hc0⟩
  obtain ⟨z158, rfl⟩ : ∃ m, z158 = wts m := ⟨_, hc1⟩
  obtain ⟨z159, rfl⟩ : ∃ m : Nat, z159 = m := ⟨_, hc2⟩
  simp only [Int.toNat_natCast, xb, qd]
  exact ga8 z157 z158 z159
def yB (l : List Ch) (w : List Wt) (n : Nat) : Nat × Int := if (kba l w n).2 = 0 then (match (kba l w n).1 with
  | [] => (0, 5)
  | x :: _ => (x, 0)) else (0, (kba l w n).2)
@[go_sem] def jaW (l : List Ch) (w : List Wt) (n : Nat) : D := .tup [.int .u64 ((yB l w n).1 : Int), .int .i64 (yB l w n).2]
@[go_sem] abbrev ucO : FuncId := 12
@[go_sem] def ubn : Tab := [(48, xR)]
theorem jaF : ya Tryz.prog ubn := (ya.cons wap ya.nil)
set_option maxRecDepth 8000 in
set_option maxHeartbeats 1000000 in
theorem zaY (l : List Ch) (w : List Wt) (n : Nat)  : yb Tryz.prog 12 [.sl (chs l), .sl (wts w), .c (.int .u64 (n : Int))] (jaW l w n) := by
  refine .of (kdh jaF (Nat.le_of_ble_eq_true rfl) ?_)
  simp -implicitDefEqProofs only [cdA, go_sem, Go.Proofs.Tryz.f12, reduceIte, reduceCtorEq, Nat.reduceEqDiff, Nat.reduceAdd, Nat.reduceLeDiff, Nat.reduceSub, Nat.reduceMul, Nat.reduceLT, Nat.reduceShiftRight, Nat.reduceMod, Int.reduceLE, Int.reduceLT, Int.reduceToNat, List.cons.injEq, cdB]
  unfold yB
  refine ⟨fun h hl => ?_, fun h => by rw [if_neg h]; exact ⟨rfl, rfl⟩⟩
  rw [if_pos h]
  cases (kba l w n).1 with
  | nil => exact ⟨fun _ => ⟨rfl, rfl⟩, fun h => absurd rfl h⟩
  | cons x t => exact ⟨fun h => absurd h (by rw [List.length_cons]; omega), fun _ => ⟨by rw [List.length_cons]; omega, rfl, rfl⟩⟩
def vQ : List D → Option (Prop × D × Fr)
  | [.c (.sl z163), .c (.sl z164), .c (.int .u64 z165)] => some (z163 = chs (xh z163) ∧ z164 = wts (jj z164) ∧ z165 = (z165.toNat : Int), jaW (xh z163) (jj z164) z165.toNat, [])
  | _ => none
attribute [go_sem] vQ
theorem vas : ∀ rs p r fr, vQ rs = some (p, r, fr) → p → zg Tryz.prog 12 rs r fr := by
  intro rs p r fr h hp
  unfold vQ at h
  split at h <;> cases h
  obtain ⟨hc0, hc1, hc2⟩ := hp
  rename_i z163 z164 z165
  obtain ⟨z163, rfl⟩ : ∃ m, z163 = chs m := ⟨_, hc0⟩
  obtain ⟨z164, rfl⟩ : ∃ m, z164 = wts m := ⟨_, hc1⟩
  obtain ⟨z165, rfl⟩ : ∃ m : Nat, z165 = m := ⟨_, hc2⟩
  simp only [Int.toNat_natCast, xb, qd]
  exact zaY z163 z164 z165
end Dm
namespace Dm
open Go Go.Proofs Go.IntWalk
structure Wl where
  c : List Ch
  w : List Wt
  i : List Iv
  p : List Py
  f : Fd
  next : Nat
  tick : Nat
deriving DecidableEq, Inhabited
@[go_sem] def Wl.enc (e : Wl) : List C := [.sl (chs e.c), .sl (wts e.w), .sl (ivs e.i), .sl (pys e.p), .int .u64 (e.f.next : Int), .sl (evs e.f.l), .int .u64 (e.next : Int), .int .u64 (e.tick : Int)]
def Wl.dec : List C → Wl
  | [.sl z282, .sl z283, .sl z284, .sl z285, .int .u64 z287, .sl z288, .int .u64 z289, .int .u64 z290] => (⟨(xh z282), (jj z283), (wj z284), (gj z285), (⟨z287.toNat, (uk z288)⟩ : Fd), z289.toNat, z290.toNat⟩ : Wl)
  | _ => default
def wls (l : List Wl) : List (List C) := l.map Wl.enc
def bc6 (l : List (List C)) : List Wl := l.map Wl.dec
@[simp, go_sem] theorem xbE (l : List Wl) : (wls l).length = l.length := by simp [wls]
@[go_sem] theorem jcM (l : List Wl) (i : Nat) : (wls l).getD i [.sl [], .sl [], .sl [], .sl [], .int .u64 0, .sl [], .int .u64 0, .int .u64 0] = (l.getD i default).enc := by
  simp only [wls, List.getD_eq_getElem?_getD, List.getElem?_map]
  cases l[i]? <;> rfl
@[go_sem] theorem vco (l : List Wl) : vh 8 (wls l) = True := by
  simp [vh, wls, Wl.enc]
theorem Wl.zh (e : Wl) : Wl.dec e.enc = e := by
  simp [Wl.enc, Wl.dec, xb, vb, qc, jc, qd]
@[go_sem] theorem gcf (l : List Wl) : bc6 (wls l) = l := by
  simp only [bc6, wls, List.map_map]
  exact List.map_id'' (fun e => Wl.zh e) l
@[go_sem] theorem kcB (a b : List Wl) : wls a ++ wls b = wls (a ++ b) := by simp [wls]
@[go_sem] theorem ucb (l : List Wl) (k : Nat) : (wls l).drop k = wls (l.drop k) := by simp [wls]
@[go_sem] theorem gcr (l : List Wl) (k : Nat) : (wls l).take k = wls (l.take k) := by simp [wls]
@[go_sem] theorem qcT (z291 : List Ch) (z292 : List Wt) (z293 : List Iv) (z294 : List Py) (z295 : Int) (z296 : List Ev) (z297 : Int) (z298 : Int) (hz295 : 0 ≤ z295) (hz297 : 0 ≤ z297) (hz298 : 0 ≤ z298) : [[C.sl (chs z291), C.sl (wts z292), C.sl (ivs z293), C.sl (pys z294), C.int .u64 z295, C.sl (evs z296), C.int .u64 z297, C.int .u64 z298]] = wls [⟨z291, z292, z293, z294, ⟨z295.toNat, z296⟩, z297.toNat, z298.toNat⟩] := by simp [wls, Wl.enc, Int.toNat_of_nonneg hz295, Int.toNat_of_nonneg hz297, Int.toNat_of_nonneg hz298]
@[go_sem] theorem jcw (l : List Wl) (i : Nat) (z291 : List Ch) (z292 : List Wt) (z293 : List Iv) (z294 : List Py) (z295 : Int) (z296 : List Ev) (z297 : Int) (z298 : Int) (hz295 : 0 ≤ z295) (hz297 : 0 ≤ z297) (hz298 : 0 ≤ z298) : (wls l).set i [C.sl (chs z291), C.sl (wts z292), C.sl (ivs z293), C.sl (pys z294), C.int .u64 z295, C.sl (evs z296), C.int .u64 z297, C.int .u64 z298] = wls (l.set i ⟨z291, z292, z293, z294, ⟨z295.toNat, z296⟩, z297.toNat, z298.toNat⟩) := by simp [wls, List.map_set, Wl.enc, Int.toNat_of_nonneg hz295, Int.toNat_of_nonneg hz297, Int.toNat_of_nonneg hz298]
@[go_sem] theorem zcd (l : List Wl) (z291 : List Ch) (z292 : List Wt) (z293 : List Iv) (z294 : List Py) (z295 : Int) (z296 : List Ev) (z297 : Int) (z298 : Int) (hz295 : 0 ≤ z295) (hz297 : 0 ≤ z297) (hz298 : 0 ≤ z298) : [C.sl (chs z291), C.sl (wts z292), C.sl (ivs z293), C.sl (pys z294), C.int .u64 z295, C.sl (evs z296), C.int .u64 z297, C.int .u64 z298] :: wls l = wls (⟨z291, z292, z293, z294, ⟨z295.toNat, z296⟩, z297.toNat, z298.toNat⟩ :: l) := by simp [wls, Wl.enc, Int.toNat_of_nonneg hz295, Int.toNat_of_nonneg hz297, Int.toNat_of_nonneg hz298]
@[go_sem] theorem Wl.eta {e : Wl} : (⟨e.c, e.w, e.i, e.p, e.f, e.next, e.tick⟩ : Wl) = e := rfl
def okW (w : Wl) : Prop := ym w.c ∧ uK w.i ∧ kaH w.f ∧ w.w.length ≤ 32 ∧ w.next ≠ 0 ∧ w.next ≤ MM ∧ (0 < w.p.length → (w.p.getD (w.p.length - 1) default).id < w.next) ∧ uY w.p w.c = (true, 0)
instance (w : Wl) : Decidable (okW w) := by unfold okW; infer_instance
def bq (w : Wl) : Int := if okW w then 0 else 1
theorem qm {w : Wl} : bq w = 0 ↔ okW w := by unfold bq; split <;> rename_i h <;> simp only [h] <;> decide
@[go_sem] def wbb  : D := .agg [.sl (chs []), .sl (wts []), .sl (ivs []), .sl (pys []), .int .u64 1, .sl (evs []), .int .u64 1, .int .u64 0]
@[go_sem] abbrev wc3 : FuncId := 40
@[go_sem] def gb2 : Tab := [(116, qaa)]
theorem vaM : ya Tryz.prog gb2 := (ya.cons jaB ya.nil)
set_option maxRecDepth 8000 in
set_option maxHeartbeats 1000000 in
theorem vbn   : yb Tryz.prog 40 [] (wbb ) := by
  refine .of (kdc vaM (Nat.le_of_ble_eq_true rfl) ?_)
  simp -implicitDefEqProofs only [cdA, go_sem, Go.Proofs.Tryz.f40, reduceIte, reduceCtorEq, Nat.reduceEqDiff, Nat.reduceAdd, Nat.reduceLeDiff, Nat.reduceSub, Nat.reduceMul, Nat.reduceLT, Nat.reduceShiftRight, Nat.reduceMod, Int.reduceLE, Int.reduceLT, Int.reduceToNat, List.cons.injEq, cdB]
  exact ⟨rfl, rfl, rfl, rfl⟩
def kab : List D → Option (Prop × D × Fr)
  | [] => some (True, wbb , [])
  | _ => none
attribute [go_sem] kab
theorem yaG : ∀ rs p r fr, kab rs = some (p, r, fr) → p → zg Tryz.prog 40 rs r fr := by
  intro rs p r fr h hp
  unfold kab at h
  split at h <;> cases h
  exact vbn 
@[go_sem] def vaA (w : Wl) : D := .int .i64 (bq w)
@[go_sem] abbrev ucl : FuncId := 37
@[go_sem] def ba4 : Tab := [(102, uo), (103, xw), (104, gC), (105, xI)]
theorem gT : ya Tryz.prog ba4 := (ya.cons vo (ya.cons vC (ya.cons uN (ya.cons zam ya.nil))))
set_option maxRecDepth 8000 in
set_option maxHeartbeats 1000000 in
theorem waI (w : Wl) (h : w.f.next ≤ 18446744073709551615) : yb Tryz.prog 37 [.agg [.sl (chs w.c), .sl (wts w.w), .sl (ivs w.i), .sl (pys w.p), .c (.int .u64 (w.f.next : Int)), .sl (evs w.f.l), .c (.int .u64 (w.next : Int)), .c (.int .u64 (w.tick : Int))]] (vaA w) := by
  refine .of (bdf gT (Nat.le_of_ble_eq_true rfl) ?_)
  simp -implicitDefEqProofs only [cdA, go_sem, Go.Proofs.Tryz.f37, reduceIte, reduceCtorEq, Nat.reduceEqDiff, Nat.reduceAdd, Nat.reduceLeDiff, Nat.reduceSub, Nat.reduceMul, Nat.reduceLT, Nat.reduceShiftRight, Nat.reduceMod, Int.reduceLE, Int.reduceLT, Int.reduceToNat, List.cons.injEq, cdB]
  have hbad : ¬ okW w → 1 = bq w := fun h => by rw [bq, if_neg h]
  have hl0 : u9 w.c = 0 ↔ ym w.c := by unfold u9; split <;> rename_i h <;> simp only [h] <;> decide
  have hi0 : jas w.i = 0 ↔ uK w.i := by unfold jas; split <;> rename_i h <;> simp only [h] <;> decide
  refine ⟨fun h1 => ⟨fun h2 => ⟨h, fun h3 _ => ⟨fun h4 => ⟨fun h5 => ⟨fun h6 => hbad fun ho => ?_, fun h6 _ => ?_⟩, fun h5 => hbad fun ho => ?_⟩, fun h4 => hbad fun ho => ?_⟩, fun h3 => hbad fun ho => h3 (vag.2 ho.2.2.1)⟩, fun h2 => hbad fun ho => h2 (hi0.2 ho.2.1)⟩, fun h1 => hbad fun ho => h1 (hl0.2 ho.1)⟩
  rotate_left 1
  · refine uc.run wbV gT qa (by kernel_rfl) (by kernel_rfl) ?_
    simp -implicitDefEqProofs only [cdA, go_sem, reduceIte, reduceCtorEq, Nat.reduceEqDiff, Nat.reduceAdd, Nat.reduceLeDiff, Nat.reduceSub, Nat.reduceMul, Nat.reduceLT, Nat.reduceShiftRight, Nat.reduceMod, Int.reduceLE, Int.reduceLT, Int.reduceToNat, List.cons.injEq, cdB]
    have hL := hl0.1 h1
    have hh : ∀ c ∈ w.c, c.holds.length ≤ 1000000 := fun c hc => by have := (hL.2.1 c hc).2.2.1; omega
    have hfin : (0 < w.p.length → (w.p.getD (w.p.length - 1) default).id < w.next) → ((uY w.p w.c).2 = 0 → ((uY w.p w.c).1 = true → 0 = bq w) ∧ ((uY w.p w.c).1 = false → 1 = bq w)) ∧ (¬(uY w.p w.c).2 = 0 → 1 = bq w) := fun h7 =>
      ⟨fun h8 => ⟨fun h9 => by
        rw [bq, if_pos (show okW w from ⟨hL, hi0.1 h2, vag.1 h3, by omega, by omega, by unfold MM; omega, h7, Prod.ext h9 h8⟩)], fun h9 => hbad fun ho => by have := ho.2.2.2.2.2.2.2; rw [this] at h9; cases h9⟩,
        fun h8 => hbad fun ho => by have := ho.2.2.2.2.2.2.2; rw [this] at h8; exact h8 rfl⟩
    refine ⟨fun h7 => ?_, fun h7 => ⟨hh, hfin fun h => absurd h (by omega)⟩⟩
    rw [i64_in _ (by omega), show ((w.p.length : Int) - 1).toNat = w.p.length - 1 by omega]
    refine ⟨by omega, fun h8 => hbad fun ho => ?_, fun h8 => ⟨hh, hfin fun _ => by omega⟩⟩
    have := ho.2.2.2.2.2.2.1 (by omega); omega
  · have := ho.2.2.2.2.1; omega
  · have := ho.2.2.2.1; omega
  · have := ho.2.2.2.2.2.1; unfold MM at this; omega
@[go_sem] def gaw (w : Wl) : Prop := (w.f.next ≤ 18446744073709551615)
def bh : List D → Option (Prop × D × Fr)
  | [.agg [.c (.sl z300), .c (.sl z301), .c (.sl z302), .c (.sl z303), .c (.int .u64 z305), .c (.sl z306), .c (.int .u64 z307), .c (.int .u64 z308)]] => some (z300 = chs (xh z300) ∧ z301 = wts (jj z301) ∧ z302 = ivs (wj z302) ∧ z303 = pys (gj z303) ∧ z305 = (z305.toNat : Int) ∧ z306 = evs (uk z306) ∧ z307 = (z307.toNat : Int) ∧ z308 = (z308.toNat : Int) ∧ gaw (⟨(xh z300), (jj z301), (wj z302), (gj z303), (⟨z305.toNat, (uk z306)⟩ : Fd), z307.toNat, z308.toNat⟩ : Wl), vaA (⟨(xh z300), (jj z301), (wj z302), (gj z303), (⟨z305.toNat, (uk z306)⟩ : Fd), z307.toNat, z308.toNat⟩ : Wl), [])
  | _ => none
attribute [go_sem] bh
theorem vg : ∀ rs p r fr, bh rs = some (p, r, fr) → p → zg Tryz.prog 37 rs r fr := by
  intro rs p r fr h hp
  unfold bh at h
  split at h <;> cases h
  obtain ⟨hc0, hc1, hc2, hc3, hc4, hc5, hc6, hc7, hp⟩ := hp
  rename_i z300 z301 z302 z303 z305 z306 z307 z308
  obtain ⟨z300, rfl⟩ : ∃ m, z300 = chs m := ⟨_, hc0⟩
  obtain ⟨z301, rfl⟩ : ∃ m, z301 = wts m := ⟨_, hc1⟩
  obtain ⟨z302, rfl⟩ : ∃ m, z302 = ivs m := ⟨_, hc2⟩
  obtain ⟨z303, rfl⟩ : ∃ m, z303 = pys m := ⟨_, hc3⟩
  obtain ⟨z305, rfl⟩ : ∃ m : Nat, z305 = m := ⟨_, hc4⟩
  obtain ⟨z306, rfl⟩ : ∃ m, z306 = evs m := ⟨_, hc5⟩
  obtain ⟨z307, rfl⟩ : ∃ m : Nat, z307 = m := ⟨_, hc6⟩
  obtain ⟨z308, rfl⟩ : ∃ m : Nat, z308 = m := ⟨_, hc7⟩
  simp only [Int.toNat_natCast, xb, vb, qc, jc, qd]
  simp only [Int.toNat_natCast, xb, vb, qc, jc, qd, gaw] at hp
  exact waI ⟨z300, z301, z302, z303, ⟨z305, z306⟩, z307, z308⟩ hp
end Dm
namespace Dm
open Go Go.Proofs Go.IntWalk
@[go_sem] def yav (l : List Hd) : D := .sl (hds l)
@[go_sem] abbrev wb9 : FuncId := 153
@[go_sem] def xa3 : Tab := []
theorem jaq : ya Tryz.prog xa3 := ya.nil
set_option maxRecDepth 8000 in
set_option maxHeartbeats 1000000 in
theorem kaR (l : List Hd) (h : l.length ≤ 1000000) : yb Tryz.prog 153 [.sl (hds l)] (yav l) := by
  refine .of (bbR jaq (Nat.le_of_ble_eq_true rfl) ?_)
  simp -implicitDefEqProofs only [cdA, go_sem, Go.Proofs.Tryz.f153, reduceIte, reduceCtorEq, Nat.reduceEqDiff, Nat.reduceAdd, Nat.reduceLeDiff, Nat.reduceSub, Nat.reduceMul, Nat.reduceLT, Nat.reduceShiftRight, Nat.reduceMod, Int.reduceLE, Int.reduceLT, Int.reduceToNat, List.cons.injEq, cdB]
  exact fun b hb => ⟨hb, fun _ => ⟨by omega, _, _, _, rfl⟩⟩
@[go_sem] def qax (l : List Hd) : Prop := (l.length ≤ 1000000)
def qw : List D → Option (Prop × D × Fr)
  | [.c (.sl z169)] => some (z169 = hds (um z169) ∧ qax (um z169), yav (um z169), [])
  | _ => none
attribute [go_sem] qw
theorem wA : ∀ rs p r fr, qw rs = some (p, r, fr) → p → zg Tryz.prog 153 rs r fr := by
  intro rs p r fr h hp
  unfold qw at h
  split at h <;> cases h
  obtain ⟨hc0, hp⟩ := hp
  rename_i z169
  obtain ⟨z169, rfl⟩ : ∃ m, z169 = hds m := ⟨_, hc0⟩
  simp only [ze]
  simp only [ze, qax] at hp
  exact kaR z169 hp
@[go_sem] def jbO (c : Ch) : D := .agg [.int .u64 c.id, .int .u64 c.loc, .int .u64 c.rem, .int .u64 c.res, .int .u64 c.most, .sl (hds c.holds), .bool c.op]
@[go_sem] abbrev qdj : FuncId := 64
@[go_sem] def ycG : Tab := [(153, qw)]
theorem wa9 : ya Tryz.prog ycG := (ya.cons wA ya.nil)
set_option maxRecDepth 8000 in
set_option maxHeartbeats 1000000 in
theorem vbY (c : Ch) (h : c.holds.length ≤ 1000000) : yb Tryz.prog 64 [.agg [.c (.int .u64 (c.id : Int)), .c (.int .u64 (c.loc : Int)), .c (.int .u64 (c.rem : Int)), .c (.int .u64 (c.res : Int)), .c (.int .u64 (c.most : Int)), .sl (hds c.holds), .c (.bool c.op)]] (jbO c) := by
  refine .of (ydj wa9 (Nat.le_of_ble_eq_true rfl) ?_)
  simp -implicitDefEqProofs only [cdA, go_sem, Go.Proofs.Tryz.f64, reduceIte, reduceCtorEq, Nat.reduceEqDiff, Nat.reduceAdd, Nat.reduceLeDiff, Nat.reduceSub, Nat.reduceMul, Nat.reduceLT, Nat.reduceShiftRight, Nat.reduceMod, Int.reduceLE, Int.reduceLT, Int.reduceToNat, List.cons.injEq, cdB]
  exact h
@[go_sem] def ybX (c : Ch) : Prop := (c.holds.length ≤ 1000000)
def baj : List D → Option (Prop × D × Fr)
  | [.agg [.c (.int .u64 z171), .c (.int .u64 z172), .c (.int .u64 z173), .c (.int .u64 z174), .c (.int .u64 z175), .c (.sl z176), .c (.bool z177)]] => some (z171 = (z171.toNat : Int) ∧ z172 = (z172.toNat : Int) ∧ z173 = (z173.toNat : Int) ∧ z174 = (z174.toNat : Int) ∧ z175 = (z175.toNat : Int) ∧ z176 = hds (um z176) ∧ ybX (⟨z171.toNat, z172.toNat, z173.toNat, z174.toNat, z175.toNat, (um z176), z177⟩ : Ch), jbO (⟨z171.toNat, z172.toNat, z173.toNat, z174.toNat, z175.toNat, (um z176), z177⟩ : Ch), [])
  | _ => none
attribute [go_sem] baj
theorem bai : ∀ rs p r fr, baj rs = some (p, r, fr) → p → zg Tryz.prog 64 rs r fr := by
  intro rs p r fr h hp
  unfold baj at h
  split at h <;> cases h
  obtain ⟨hc0, hc1, hc2, hc3, hc4, hc5, hp⟩ := hp
  rename_i z171 z172 z173 z174 z175 z176 z177
  obtain ⟨z171, rfl⟩ : ∃ m : Nat, z171 = m := ⟨_, hc0⟩
  obtain ⟨z172, rfl⟩ : ∃ m : Nat, z172 = m := ⟨_, hc1⟩
  obtain ⟨z173, rfl⟩ : ∃ m : Nat, z173 = m := ⟨_, hc2⟩
  obtain ⟨z174, rfl⟩ : ∃ m : Nat, z174 = m := ⟨_, hc3⟩
  obtain ⟨z175, rfl⟩ : ∃ m : Nat, z175 = m := ⟨_, hc4⟩
  obtain ⟨z176, rfl⟩ : ∃ m, z176 = hds m := ⟨_, hc5⟩
  simp only [Int.toNat_natCast, ze]
  simp only [Int.toNat_natCast, ze, ybX] at hp
  exact vbY ⟨z171, z172, z173, z174, z175, z176, z177⟩ hp
def vf (l : List Ch) (id : Nat) : Int × Int := if ym l then (if Srt.thr Ch.id ltN l id = true then ((Srt.pos Ch.id ltN l id : Nat), 0) else (0, 5)) else (0, 1)
@[go_sem] def gaW (l : List Ch) (id : Nat) : D := .tup [.int .i64 (vf l id).1, .int .i64 (vf l id).2]
@[go_sem] abbrev ycx : FuncId := 63
@[go_sem] def kbj : Tab := [(102, uo), (144, yw)]
theorem bL : ya Tryz.prog kbj := (ya.cons vo (ya.cons xB ya.nil))
set_option maxRecDepth 8000 in
set_option maxHeartbeats 1000000 in
theorem ba8 (l : List Ch) (id : Nat)  : yb Tryz.prog 63 [.sl (chs l), .c (.int .u64 (id : Int))] (gaW l id) := by
  refine .of (udc bL (Nat.le_of_ble_eq_true rfl) ?_)
  simp -implicitDefEqProofs only [cdA, go_sem, Go.Proofs.Tryz.f63, reduceIte, reduceCtorEq, Nat.reduceEqDiff, Nat.reduceAdd, Nat.reduceLeDiff, Nat.reduceSub, Nat.reduceMul, Nat.reduceLT, Nat.reduceShiftRight, Nat.reduceMod, Int.reduceLE, Int.reduceLT, Int.reduceToNat, List.cons.injEq, cdB]
  have hcz : u9 l = 0 ↔ ym l := by unfold u9; split <;> simp_all
  refine ⟨fun hok0 => ?_, fun hno0 => by
    have hno : ¬ ym l := fun h => hno0 (hcz.2 h)
    rw [vf, u9, if_neg hno, if_neg hno]; exact ⟨rfl, rfl⟩⟩
  have hok := hcz.1 hok0
  have hu : Srt.Up Ch.id ltN l := (Srt.jg (lt := ltN) Srt.qf).1 hok.2.2.1
  have hl32 := hok.1
  refine ybY bL (Nat.le_of_ble_eq_true rfl) ?_
  simp -implicitDefEqProofs only [cdA, go_sem, Go.Proofs.Tryz.f152, reduceIte, reduceCtorEq, Nat.reduceEqDiff, Nat.reduceAdd, Nat.reduceLeDiff, Nat.reduceSub, Nat.reduceMul, Nat.reduceLT, Nat.reduceShiftRight, Nat.reduceMod, Int.reduceLE, Int.reduceLT, Int.reduceToNat, List.cons.injEq, cdB]
  refine fun _ => SWp.loop (ι := { x : Nat × Nat // x.1 ≤ x.2 ∧ x.2 ≤ l.length ∧ (∀ k, k < x.1 → (l.getD k default).id < id) ∧ ∀ k, x.2 ≤ k → k < l.length → ¬ (l.getD k default).id < id }) (fun x => ⟨[(0, .sl (chs l)), (1, .int .u64 id), (2, .fn (.func 144) [] []), (8, .int .i64 l.length), (9, .int .i64 x.1.1), (10, .int .i64 x.1.2)], [], 0⟩) (fun x => x.1.2 - x.1.1) ⟨(0, l.length), by simp, by simp, fun k hk => absurd hk (by simp), fun k h1 h2 => absurd h1 (by simpa using h2)⟩ ?_ ?_
  · simp [go_sem]
  · rintro ⟨⟨i, j⟩, hij, hj, hlo, hup⟩
    dsimp only at hij hj hlo hup
    refine qb bL.toS za4 _ _ _ rfl ?_
    simp -implicitDefEqProofs only [cdA, go_sem, reduceIte, reduceCtorEq, Nat.reduceEqDiff, Nat.reduceAdd, Nat.reduceLeDiff, Nat.reduceSub, Nat.reduceMul, Nat.reduceLT, Nat.reduceShiftRight, Nat.reduceMod, Int.reduceLE, Int.reduceLT, Int.reduceToNat, List.cons.injEq, cdB]
    rw [yS hij hj ‹_›]
    refine ⟨fun h4 => ?_, fun h4 => ?_⟩
    · have hm : (i + j) / 2 < l.length := by omega
      rw [xk, Int.toNat_natCast]
      refine ⟨by omega, fun h5 => ⟨⟨((i + j) / 2 + 1, j), by dsimp only; omega, hj, fun k hk => ?_, hup⟩, by dsimp only; omega, i64_in _ (by omega), rfl⟩, fun h5 => ⟨⟨(i, (i + j) / 2), by dsimp only; omega, by dsimp only; omega, hlo, fun k hk1 hk2 => ?_⟩, by dsimp only; omega, rfl, rfl⟩⟩
      · dsimp only at hk
        by_cases hkm : k = (i + j) / 2
        · rw [hkm]; omega
        · have := Srt.kj.1 hu k _ (by omega) hm
          simp only [ltN] at this; omega
      · dsimp only at hk1
        by_cases hkm : k = (i + j) / 2
        · rw [hkm]; omega
        · have := Srt.kj.1 hu ((i + j) / 2) k (by omega) hk2
          simp only [ltN] at this; omega
    · have hp : Srt.pos Ch.id ltN l id = i := Srt.pos_eq (by omega) hlo (fun h => hup i (by omega) h)
      rw [vf, if_pos hok, Srt.thr, hp, wz]
      refine ⟨fun h5 => ⟨by omega, fun h6 => ?_, fun h6 => ?_⟩, fun h5 => ?_⟩
      · rw [if_pos (decide_eq_true ⟨by omega, by omega⟩)]; exact ⟨rfl, rfl⟩
      · rw [if_neg (by rw [decide_eq_true_iff]; omega)]; exact ⟨rfl, rfl⟩
      · rw [if_neg (by rw [decide_eq_true_iff]; omega)]; exact ⟨rfl, rfl⟩
def jy : List D → Option (Prop × D × Fr)
  | [.c (.sl z178), .c (.int .u64 z179)] => some (z178 = chs (xh z178) ∧ z179 = (z179.toNat : Int), gaW (xh z178) z179.toNat, [])
  | _ => none
attribute [go_sem] jy
theorem xz : ∀ rs p r fr, jy rs = some (p, r, fr) → p → zg Tryz.prog 63 rs r fr := by
  intro rs p r fr h hp
  unfold jy at h
  split at h <;> cases h
  obtain ⟨hc0, hc1⟩ := hp
  rename_i z178 z179
  obtain ⟨z178, rfl⟩ : ∃ m, z178 = chs m := ⟨_, hc0⟩
  obtain ⟨z179, rfl⟩ : ∃ m : Nat, z179 = m := ⟨_, hc1⟩
  simp only [Int.toNat_natCast, xb]
  exact ba8 z178 z179
end Dm
namespace Dm
open Go Go.Proofs Go.IntWalk
@[go_sem] def vau (l : List Ch) : D := .vec 0 l.length
@[go_sem] def xai (l : List Ch) : Fr := [(7, 50, true, chs l)]
@[go_sem] abbrev zcq : FuncId := 204
@[go_sem] def wa3 : Tab := []
theorem kao : ya Tryz.prog wa3 := ya.nil
set_option maxRecDepth 8000 in
set_option maxHeartbeats 1000000 in
theorem yaN (l : List Ch) (h : l.length ≤ 1000000) : zn Tryz.prog 204 [.sl (chs l)] (vau l) (xai l) := by
  refine .of (qcz kao (Nat.le_of_ble_eq_true rfl) ?_)
  simp -implicitDefEqProofs only [cdA, go_sem, Go.Proofs.Tryz.f204, reduceIte, reduceCtorEq, Nat.reduceEqDiff, Nat.reduceAdd, Nat.reduceLeDiff, Nat.reduceSub, Nat.reduceMul, Nat.reduceLT, Nat.reduceShiftRight, Nat.reduceMod, Int.reduceLE, Int.reduceLT, Int.reduceToNat, List.cons.injEq, cdB]
  refine fun b hb => ⟨fun h => ?_, fun h => ?_⟩
  · exact ⟨[none], by simp [go_sem, hb h], by cases l <;> simp_all [go_sem, chs]⟩
  · exact ⟨by omega, [some 0], by simp [go_sem]⟩
@[go_sem] def uaz (l : List Ch) : Prop := (l.length ≤ 1000000)
def zD : List D → Option (Prop × D × Fr)
  | [.c (.sl z182)] => some (z182 = chs (xh z182) ∧ uaz (xh z182), vau (xh z182), xai (xh z182))
  | _ => none
attribute [go_sem] zD
theorem qN : ∀ rs p r fr, zD rs = some (p, r, fr) → p → zg Tryz.prog 204 rs r fr := by
  intro rs p r fr h hp
  unfold zD at h
  split at h <;> cases h
  obtain ⟨hc0, hp⟩ := hp
  rename_i z182
  obtain ⟨z182, rfl⟩ : ∃ m, z182 = chs m := ⟨_, hc0⟩
  simp only [xb]
  simp only [xb, uaz] at hp
  exact (show zg _ _ _ _ _ from And.intro rfl (yaN z182 hp))
def qj (l : List Ch) (h : Nat) : Nat × Int := if ym l then (match nlk h (hm 0 l) with
  | some i => ((l.getD i.toNat default).id, 0)
  | none => (0, 5)) else (0, 1)
theorem baw : ∀ {l : List Ch} {s : Int} {k : Nat} {a : Int}, (k, a) ∈ hm s l → s ≤ a ∧ a < s + l.length
  | [], _, _, _, h => by cases h
  | c :: l, s, k, a, h => by
    rw [hm, List.mem_append] at h
    simp only [List.length_cons]
    rcases h with h | h
    · obtain ⟨x, _, hx⟩ := List.mem_map.1 h
      cases hx
      omega
    · have := baw h
      omega
@[go_sem] def bav (l : List Ch) (h : Nat) : D := .tup [.int .u64 ((qj l h).1 : Int), .int .i64 (qj l h).2]
@[go_sem] abbrev kcr : FuncId := 14
@[go_sem] def za0 : Tab := [(57, xK)]
theorem uaq : ya Tryz.prog za0 := (ya.cons bR ya.nil)
set_option maxRecDepth 8000 in
set_option maxHeartbeats 1000000 in
theorem baL (l : List Ch) (h : Nat)  : yb Tryz.prog 14 [.sl (chs l), .c (.int .u64 (h : Int))] (bav l h) := by
  refine .of (vde uaq (Nat.le_of_ble_eq_true rfl) ?_)
  simp -implicitDefEqProofs only [cdA, go_sem, Go.Proofs.Tryz.f14, reduceIte, reduceCtorEq, Nat.reduceEqDiff, Nat.reduceAdd, Nat.reduceLeDiff, Nat.reduceSub, Nat.reduceMul, Nat.reduceLT, Nat.reduceShiftRight, Nat.reduceMod, Int.reduceLE, Int.reduceLT, Int.reduceToNat, List.cons.injEq, cdB]
  by_cases hok : ym l
  · have e1 : zV l = (hm 0 l, 0) := by rw [zV, if_pos hok]
    rw [e1, qj, if_pos hok]
    refine ⟨fun _ => ⟨fun a ha => ?_, fun hn => ?_⟩, fun h => absurd rfl h⟩
    · have hnd : ((hm 0 l).map (·.1)).Nodup := by rw [xH]; exact hok.2.2.2.1
      have := baw ((kH hnd).1 ha)
      rw [ha]
      exact ⟨⟨by omega, by omega⟩, rfl, rfl⟩
    · rw [hn]; exact ⟨rfl, rfl⟩
  · have e1 : zV l = ([], 1) := by rw [zV, if_neg hok]
    rw [e1, qj, if_neg hok]
    exact ⟨fun h => absurd h (by decide), fun _ => ⟨rfl, rfl⟩⟩
def uB : List D → Option (Prop × D × Fr)
  | [.c (.sl z183), .c (.int .u64 z184)] => some (z183 = chs (xh z183) ∧ z184 = (z184.toNat : Int), bav (xh z183) z184.toNat, [])
  | _ => none
attribute [go_sem] uB
theorem wO : ∀ rs p r fr, uB rs = some (p, r, fr) → p → zg Tryz.prog 14 rs r fr := by
  intro rs p r fr h hp
  unfold uB at h
  split at h <;> cases h
  obtain ⟨hc0, hc1⟩ := hp
  rename_i z183 z184
  obtain ⟨z183, rfl⟩ : ∃ m, z183 = chs m := ⟨_, hc0⟩
  obtain ⟨z184, rfl⟩ : ∃ m : Nat, z184 = m := ⟨_, hc1⟩
  simp only [Int.toNat_natCast, xb]
  exact baL z183 z184
@[go_sem] def jbg (l : List Ch) : D := .vec 0 l.length
@[go_sem] def qaJ (l : List Ch) : Fr := [(7, 50, true, chs l)]
@[go_sem] abbrev wc6 : FuncId := 185
@[go_sem] def yb2 : Tab := [(204, zD), (64, baj)]
theorem qam : ya Tryz.prog yb2 := (ya.cons qN (ya.cons bai ya.nil))
set_option maxRecDepth 8000 in
set_option maxHeartbeats 1000000 in
theorem ubj (l : List Ch) (h : l.length ≤ 1000000 ∧ ∀ c ∈ l, c.holds.length ≤ 1000000) : zn Tryz.prog 185 [.sl (chs l)] (jbg l) (qaJ l) := by
  refine .of (kcC qam (Nat.le_of_ble_eq_true rfl) ?_)
  simp -implicitDefEqProofs only [cdA, go_sem, Go.Proofs.Tryz.f185, reduceIte, reduceCtorEq, Nat.reduceEqDiff, Nat.reduceAdd, Nat.reduceLeDiff, Nat.reduceSub, Nat.reduceMul, Nat.reduceLT, Nat.reduceShiftRight, Nat.reduceMod, Int.reduceLE, Int.reduceLT, Int.reduceToNat, List.cons.injEq, cdB]
  refine ⟨h.1, fun _ => SWp.loop (ι := { i : Nat // i ≤ l.length }) (fun i => ⟨[(0, .vec 0 l.length), (7, .vec 0 l.length), (8, .int .i64 l.length), (9, .int .i64 i.1)], [(0, .vec true 7 50 (chs l))], 1⟩) (fun i => l.length - i.1) ⟨0, by omega⟩ ?_ ?_⟩
  · simp [go_sem]
  · rintro ⟨i, hi⟩
    refine qb qam.toS vbk _ _ _ rfl ?_
    simp -implicitDefEqProofs only [cdA, go_sem, reduceIte, reduceCtorEq, Nat.reduceEqDiff, Nat.reduceAdd, Nat.reduceLeDiff, Nat.reduceSub, Nat.reduceMul, Nat.reduceLT, Nat.reduceShiftRight, Nat.reduceMod, Int.reduceLE, Int.reduceLT, Int.reduceToNat, List.cons.injEq, cdB]
    refine ⟨fun h1 => ?_, fun _ => ⟨[some 0], by simp [go_sem]⟩⟩
    have hi' : i < l.length := by omega
    have hself : l.set i (l.getD i default) = l := by
      rw [ve hi']; exact List.set_getElem_self hi'
    exact ⟨by omega, hi', h.2 _ (jb.2 ⟨i, hi', rfl⟩), by omega, hi', ⟨i + 1, hi'⟩, by dsimp only; omega, i64_in _ (by omega), by rw [hself]⟩
@[go_sem] def ybe (l : List Ch) : Prop := (l.length ≤ 1000000 ∧ ∀ c ∈ l, c.holds.length ≤ 1000000)
def vB : List D → Option (Prop × D × Fr)
  | [.c (.sl z185)] => some (z185 = chs (xh z185) ∧ ybe (xh z185), jbg (xh z185), qaJ (xh z185))
  | _ => none
attribute [go_sem] vB
theorem zw : ∀ rs p r fr, vB rs = some (p, r, fr) → p → zg Tryz.prog 185 rs r fr := by
  intro rs p r fr h hp
  unfold vB at h
  split at h <;> cases h
  obtain ⟨hc0, hp⟩ := hp
  rename_i z185
  obtain ⟨z185, rfl⟩ : ∃ m, z185 = chs m := ⟨_, hc0⟩
  simp only [xb]
  simp only [xb, ybe] at hp
  exact (show zg _ _ _ _ _ from And.intro rfl (ubj z185 hp))
end Dm
namespace Dm
open Go Go.Proofs Go.IntWalk
@[go_sem] def qal (l : List Wt) : D := .sl (wts l)
@[go_sem] abbrev zb4 : FuncId := 205
@[go_sem] def xaI : Tab := []
theorem wah : ya Tryz.prog xaI := ya.nil
set_option maxRecDepth 8000 in
set_option maxHeartbeats 1000000 in
theorem kaC (l : List Wt) (h : l.length ≤ 1000000) : yb Tryz.prog 205 [.sl (wts l)] (qal l) := by
  refine .of (qcC wah (Nat.le_of_ble_eq_true rfl) ?_)
  simp -implicitDefEqProofs only [cdA, go_sem, Go.Proofs.Tryz.f205, reduceIte, reduceCtorEq, Nat.reduceEqDiff, Nat.reduceAdd, Nat.reduceLeDiff, Nat.reduceSub, Nat.reduceMul, Nat.reduceLT, Nat.reduceShiftRight, Nat.reduceMod, Int.reduceLE, Int.reduceLT, Int.reduceToNat, List.cons.injEq, cdB]
  exact fun b hb => ⟨hb, fun _ => ⟨by omega, _, _, _, rfl⟩⟩
@[go_sem] def gal (l : List Wt) : Prop := (l.length ≤ 1000000)
def bE : List D → Option (Prop × D × Fr)
  | [.c (.sl z309)] => some (z309 = wts (jj z309) ∧ gal (jj z309), qal (jj z309), [])
  | _ => none
attribute [go_sem] bE
theorem vac : ∀ rs p r fr, bE rs = some (p, r, fr) → p → zg Tryz.prog 205 rs r fr := by
  intro rs p r fr h hp
  unfold bE at h
  split at h <;> cases h
  obtain ⟨hc0, hp⟩ := hp
  rename_i z309
  obtain ⟨z309, rfl⟩ : ∃ m, z309 = wts m := ⟨_, hc0⟩
  simp only [qd]
  simp only [qd, gal] at hp
  exact kaC z309 hp
@[go_sem] def jag (l : List Iv) : D := .sl (ivs l)
@[go_sem] abbrev ubU : FuncId := 172
@[go_sem] def jaM : Tab := []
theorem zak : ya Tryz.prog jaM := ya.nil
set_option maxRecDepth 8000 in
set_option maxHeartbeats 1000000 in
theorem baG (l : List Iv) (h : l.length ≤ 1000000) : yb Tryz.prog 172 [.sl (ivs l)] (jag l) := by
  refine .of (zbV zak (Nat.le_of_ble_eq_true rfl) ?_)
  simp -implicitDefEqProofs only [cdA, go_sem, Go.Proofs.Tryz.f172, reduceIte, reduceCtorEq, Nat.reduceEqDiff, Nat.reduceAdd, Nat.reduceLeDiff, Nat.reduceSub, Nat.reduceMul, Nat.reduceLT, Nat.reduceShiftRight, Nat.reduceMod, Int.reduceLE, Int.reduceLT, Int.reduceToNat, List.cons.injEq, cdB]
  exact fun b hb => ⟨hb, fun _ => ⟨by omega, _, _, _, rfl⟩⟩
@[go_sem] def bag (l : List Iv) : Prop := (l.length ≤ 1000000)
def uD : List D → Option (Prop × D × Fr)
  | [.c (.sl z310)] => some (z310 = ivs (wj z310) ∧ bag (wj z310), jag (wj z310), [])
  | _ => none
attribute [go_sem] uD
theorem vab : ∀ rs p r fr, uD rs = some (p, r, fr) → p → zg Tryz.prog 172 rs r fr := by
  intro rs p r fr h hp
  unfold uD at h
  split at h <;> cases h
  obtain ⟨hc0, hp⟩ := hp
  rename_i z310
  obtain ⟨z310, rfl⟩ : ∃ m, z310 = ivs m := ⟨_, hc0⟩
  simp only [qc]
  simp only [qc, bag] at hp
  exact baG z310 hp
@[go_sem] def vam (l : List Py) : D := .sl (pys l)
@[go_sem] abbrev qbR : FuncId := 132
@[go_sem] def waM : Tab := []
theorem bal : ya Tryz.prog waM := ya.nil
set_option maxRecDepth 8000 in
set_option maxHeartbeats 1000000 in
theorem xaH (l : List Py) (h : l.length ≤ 1000000) : yb Tryz.prog 132 [.sl (pys l)] (vam l) := by
  refine .of (ybP bal (Nat.le_of_ble_eq_true rfl) ?_)
  simp -implicitDefEqProofs only [cdA, go_sem, Go.Proofs.Tryz.f132, reduceIte, reduceCtorEq, Nat.reduceEqDiff, Nat.reduceAdd, Nat.reduceLeDiff, Nat.reduceSub, Nat.reduceMul, Nat.reduceLT, Nat.reduceShiftRight, Nat.reduceMod, Int.reduceLE, Int.reduceLT, Int.reduceToNat, List.cons.injEq, cdB]
  exact fun b hb => ⟨hb, fun _ => ⟨by omega, _, _, _, rfl⟩⟩
@[go_sem] def gai (l : List Py) : Prop := (l.length ≤ 1000000)
def vE : List D → Option (Prop × D × Fr)
  | [.c (.sl z311)] => some (z311 = pys (gj z311) ∧ gai (gj z311), vam (gj z311), [])
  | _ => none
attribute [go_sem] vE
theorem kac : ∀ rs p r fr, vE rs = some (p, r, fr) → p → zg Tryz.prog 132 rs r fr := by
  intro rs p r fr h hp
  unfold vE at h
  split at h <;> cases h
  obtain ⟨hc0, hp⟩ := hp
  rename_i z311
  obtain ⟨z311, rfl⟩ : ∃ m, z311 = pys m := ⟨_, hc0⟩
  simp only [jc]
  simp only [jc, gai] at hp
  exact xaH z311 hp
@[go_sem] def j5 (l : List Ev) : D := .sl (evs l)
@[go_sem] abbrev vbC : FuncId := 206
@[go_sem] def kaG : Tab := []
theorem w8 : ya Tryz.prog kaG := ya.nil
set_option maxRecDepth 8000 in
set_option maxHeartbeats 1000000 in
theorem qas (l : List Ev) (h : l.length ≤ 1000000) : yb Tryz.prog 206 [.sl (evs l)] (j5 l) := by
  refine .of (kb5 w8 (Nat.le_of_ble_eq_true rfl) ?_)
  simp -implicitDefEqProofs only [cdA, go_sem, Go.Proofs.Tryz.f206, reduceIte, reduceCtorEq, Nat.reduceEqDiff, Nat.reduceAdd, Nat.reduceLeDiff, Nat.reduceSub, Nat.reduceMul, Nat.reduceLT, Nat.reduceShiftRight, Nat.reduceMod, Int.reduceLE, Int.reduceLT, Int.reduceToNat, List.cons.injEq, cdB]
  exact fun b hb => ⟨hb, fun _ => ⟨by omega, _, _, _, rfl⟩⟩
@[go_sem] def wX (l : List Ev) : Prop := (l.length ≤ 1000000)
def yy : List D → Option (Prop × D × Fr)
  | [.c (.sl z312)] => some (z312 = evs (uk z312) ∧ wX (uk z312), j5 (uk z312), [])
  | _ => none
attribute [go_sem] yy
theorem xX : ∀ rs p r fr, yy rs = some (p, r, fr) → p → zg Tryz.prog 206 rs r fr := by
  intro rs p r fr h hp
  unfold yy at h
  split at h <;> cases h
  obtain ⟨hc0, hp⟩ := hp
  rename_i z312
  obtain ⟨z312, rfl⟩ : ∃ m, z312 = evs m := ⟨_, hc0⟩
  simp only [vb]
  simp only [vb, wX] at hp
  exact qas z312 hp
def qv (w : Wl) : Prop := w.c.length ≤ 1000000 ∧ (∀ c ∈ w.c, c.holds.length ≤ 1000000) ∧ w.w.length ≤ 1000000 ∧ w.i.length ≤ 1000000 ∧ w.p.length ≤ 1000000 ∧ w.f.l.length ≤ 1000000
@[go_sem] def ybf (w : Wl) : D := .agg [.sl (chs w.c), .sl (wts w.w), .sl (ivs w.i), .sl (pys w.p), .int .u64 w.f.next, .sl (evs w.f.l), .int .u64 w.next, .int .u64 w.tick]
@[go_sem] abbrev jcZ : FuncId := 119
@[go_sem] def kb0 : Tab := [(204, zD), (153, qw), (205, bE), (172, uD), (132, vE), (206, yy)]
theorem wK : ya Tryz.prog kb0 := (ya.cons qN (ya.cons wA (ya.cons vac (ya.cons vab (ya.cons kac (ya.cons xX ya.nil))))))
set_option maxRecDepth 8000 in
set_option maxHeartbeats 1000000 in
theorem ybt (w : Wl) (h : qv w) : yb Tryz.prog 119 [.agg [.sl (chs w.c), .sl (wts w.w), .sl (ivs w.i), .sl (pys w.p), .c (.int .u64 (w.f.next : Int)), .sl (evs w.f.l), .c (.int .u64 (w.next : Int)), .c (.int .u64 (w.tick : Int))]] (ybf w) := by
  refine .of (ucJ wK (Nat.le_of_ble_eq_true rfl) ?_)
  simp -implicitDefEqProofs only [cdA, go_sem, Go.Proofs.Tryz.f119, reduceIte, reduceCtorEq, Nat.reduceEqDiff, Nat.reduceAdd, Nat.reduceLeDiff, Nat.reduceSub, Nat.reduceMul, Nat.reduceLT, Nat.reduceShiftRight, Nat.reduceMod, Int.reduceLE, Int.reduceLT, Int.reduceToNat, List.cons.injEq, cdB]
  refine uc.run jbi wK qa (by kernel_rfl) (by kernel_rfl) ?_
  simp -implicitDefEqProofs only [cdA, go_sem, reduceIte, reduceCtorEq, Nat.reduceEqDiff, Nat.reduceAdd, Nat.reduceLeDiff, Nat.reduceSub, Nat.reduceMul, Nat.reduceLT, Nat.reduceShiftRight, Nat.reduceMod, Int.reduceLE, Int.reduceLT, Int.reduceToNat, List.cons.injEq, cdB]
  obtain ⟨h1, h2, h3, h4, h5, h6⟩ := h
  refine ⟨h1, h3, h4, h5, h6, fun _ => SWp.loop (ι := { i : Nat // i ≤ w.c.length }) (fun i => ⟨[(1, .ref 0 0), (2, .ref 1 0), (28, .vec 2 w.c.length), (29, .int .i64 w.c.length), (30, .int .i64 i.1)],
    [(2, .vec true 7 50 (chs w.c)), (0, .box [.vec 2 w.c.length, .sl (wts w.w), .sl (ivs w.i), .sl (pys w.p), .c (.int .u64 w.f.next), .sl (evs w.f.l), .c (.int .u64 w.next), .c (.int .u64 w.tick)]),
      (1, .box [.nil, .nil, .nil, .nil, .c (.int .u64 0), .nil, .c (.int .u64 0), .c (.int .u64 0)])], 3⟩) (fun i => w.c.length - i.1) ⟨0, by omega⟩ ?_ ?_⟩
  · simp [go_sem]
  · rintro ⟨i, hi⟩
    refine qb wK.toS vbj _ _ _ rfl ?_
    simp -implicitDefEqProofs only [cdA, go_sem, reduceIte, reduceCtorEq, Nat.reduceEqDiff, Nat.reduceAdd, Nat.reduceLeDiff, Nat.reduceSub, Nat.reduceMul, Nat.reduceLT, Nat.reduceShiftRight, Nat.reduceMod, Int.reduceLE, Int.reduceLT, Int.reduceToNat, List.cons.injEq, cdB]
    refine ⟨fun h7 => ⟨by omega, by omega, ?_⟩, fun _ => ⟨_, _, _, rfl⟩⟩
    have hi' : i < w.c.length := by omega
    have hself : w.c.set i (w.c.getD i default) = w.c := by
      rw [ve hi']; exact List.set_getElem_self hi'
    have hhl := h2 _ (jb.2 ⟨i, hi', rfl⟩)
    refine uc.run wbn wK qa (by kernel_rfl) (by kernel_rfl) ?_
    simp -implicitDefEqProofs only [cdA, go_sem, reduceIte, reduceCtorEq, Nat.reduceEqDiff, Nat.reduceAdd, Nat.reduceLeDiff, Nat.reduceSub, Nat.reduceMul, Nat.reduceLT, Nat.reduceShiftRight, Nat.reduceMod, Int.reduceLE, Int.reduceLT, Int.reduceToNat, List.cons.injEq, cdB]
    exact ⟨hhl, by omega, hi', ⟨i + 1, hi'⟩, by dsimp only; omega, i64_in _ (by omega), by rw [hself]⟩
@[go_sem] def zbd (w : Wl) : Prop := (qv w)
def gp : List D → Option (Prop × D × Fr)
  | [.agg [.c (.sl z314), .c (.sl z315), .c (.sl z316), .c (.sl z317), .c (.int .u64 z319), .c (.sl z320), .c (.int .u64 z321), .c (.int .u64 z322)]] => some (z314 = chs (xh z314) ∧ z315 = wts (jj z315) ∧ z316 = ivs (wj z316) ∧ z317 = pys (gj z317) ∧ z319 = (z319.toNat : Int) ∧ z320 = evs (uk z320) ∧ z321 = (z321.toNat : Int) ∧ z322 = (z322.toNat : Int) ∧ zbd (⟨(xh z314), (jj z315), (wj z316), (gj z317), (⟨z319.toNat, (uk z320)⟩ : Fd), z321.toNat, z322.toNat⟩ : Wl), ybf (⟨(xh z314), (jj z315), (wj z316), (gj z317), (⟨z319.toNat, (uk z320)⟩ : Fd), z321.toNat, z322.toNat⟩ : Wl), [])
  | _ => none
attribute [go_sem] gp
theorem yj : ∀ rs p r fr, gp rs = some (p, r, fr) → p → zg Tryz.prog 119 rs r fr := by
  intro rs p r fr h hp
  unfold gp at h
  split at h <;> cases h
  obtain ⟨hc0, hc1, hc2, hc3, hc4, hc5, hc6, hc7, hp⟩ := hp
  rename_i z314 z315 z316 z317 z319 z320 z321 z322
  obtain ⟨z314, rfl⟩ : ∃ m, z314 = chs m := ⟨_, hc0⟩
  obtain ⟨z315, rfl⟩ : ∃ m, z315 = wts m := ⟨_, hc1⟩
  obtain ⟨z316, rfl⟩ : ∃ m, z316 = ivs m := ⟨_, hc2⟩
  obtain ⟨z317, rfl⟩ : ∃ m, z317 = pys m := ⟨_, hc3⟩
  obtain ⟨z319, rfl⟩ : ∃ m : Nat, z319 = m := ⟨_, hc4⟩
  obtain ⟨z320, rfl⟩ : ∃ m, z320 = evs m := ⟨_, hc5⟩
  obtain ⟨z321, rfl⟩ : ∃ m : Nat, z321 = m := ⟨_, hc6⟩
  obtain ⟨z322, rfl⟩ : ∃ m : Nat, z322 = m := ⟨_, hc7⟩
  simp only [Int.toNat_natCast, xb, vb, qc, jc, qd]
  simp only [Int.toNat_natCast, xb, vb, qc, jc, qd, zbd] at hp
  exact ybt ⟨z314, z315, z316, z317, ⟨z319, z320⟩, z321, z322⟩ hp
end Dm
namespace Dm
open Go Go.Proofs Go.IntWalk
@[go_sem] def vbv : Tab := [ovk 252]
theorem yM : ya Tryz.prog vbv := .cons (waD 252) .nil
@[go_sem] def qbt : Tab := [fg 12]
theorem qaG : ya Tryz.prog qbt := .cons (bao 12) .nil
theorem wai (l : List Hd) : vh 2 (hds l) := of_eq_true (k8 l)
set_option maxRecDepth 8000 in
set_option maxHeartbeats 1000000 in
theorem zbi (l : List Hd) (x : Hd) (i : Nat) (hi : i ≤ l.length) (hl : l.length ≤ 1000000) :
    va Tryz.prog 219 [.vec 0 l.length, .int .i64 i, .vec 1 1] [(1, .vec true 2 62 (hds [x])), (0, .vec true 2 62 (hds l))] 2 fun d os _ => Grown 2 62 (hds (Srt.ins l i x)) d os := by
  have hil : (Srt.ins l i x).length = l.length + 1 := Srt.jk
  have hq : ∀ j os, lk j os = some (.vec true 2 62 (hds (Srt.ins l i x))) → Grown 2 62 (hds (Srt.ins l i x)) (.vec j (l.length + 1)) os := fun j os h => ⟨j, by rw [yd, hil], h⟩
  by_cases hin : i = l.length
  · refine bbV qaG (Nat.le_of_ble_eq_true rfl) ?_
    have e4 : ((1 : Int) = 0) = False := eq_false (by decide)
    subst hin
    simp -implicitDefEqProofs only [cdA, go_sem, Go.Proofs.Tryz.f219, e4, decide_true, reduceIte, reduceCtorEq, Nat.reduceEqDiff, Nat.reduceAdd, Nat.reduceLeDiff, Nat.reduceSub, Nat.reduceMul, Nat.reduceLT, Nat.reduceShiftRight, Nat.reduceMod, Int.reduceLE, Int.reduceLT, Int.reduceToNat, List.cons.injEq, cdB]
    refine ⟨Int.le_refl _, fun h => h.elim, fun _ => ⟨by omega, hq _ _ ?_⟩⟩
    rw [gb, if_neg (by decide), kP]
    simp [Srt.ins]
  · have hlt : i < l.length := by omega
    refine va.opn 0 rfl (by rw [yd]; omega) fun c hc hcm => ?_
    refine va.sld ?_
    rw [yd] at hc
    refine bbV yM (Nat.le_of_ble_eq_true rfl) ?_
    have e1 : IntKind.i64.wrap ((l.length : Int) + 1) = ((l.length + 1 : Nat) : Int) := by rw [i64_in _ (by omega)]; omega
    have e2 : IntKind.i64.wrap ((i : Int) + 1) = ((i + 1 : Nat) : Int) := by rw [i64_in _ (by omega)]; omega
    have e3 : ((i : Int) = (l.length : Int)) = False := eq_false (by omega)
    have e4 : ((1 : Int) = 0) = False := eq_false (by decide)
    have e5 : IntKind.i64.wrap ((l.length : Int) + 1 - (i : Int)) = ((l.length + 1 - i : Nat) : Int) := by rw [i64_in _ (by omega)]; omega
    have e6 : ((l.length : Int) + 1).toNat = l.length + 1 := by omega
    have e7 : ((i : Int) + 1).toNat = i + 1 := by omega
    have e8 : i + (l.length + 1 - i) = l.length + 1 := by omega
    simp -implicitDefEqProofs only [cdA, go_sem, Go.Proofs.Tryz.f219, e3, e4, e1, e2, e5, e6, e7, e8, decide_false, reduceIte, reduceCtorEq, Nat.reduceEqDiff, Nat.reduceAdd, Nat.reduceLeDiff, Nat.reduceSub, Nat.reduceMul, Nat.reduceLT, Nat.reduceShiftRight, Nat.reduceMod, Int.reduceLE, Int.reduceLT, Int.reduceToNat, List.cons.injEq, cdB]
    refine ⟨by omega, fun _ => ⟨fun h1 => ⟨by omega, by omega, fun c1 h2 h3 => ⟨by omega, ?_⟩⟩, fun h1 => ⟨by omega, by omega, ?_, ?_⟩⟩⟩
    · refine uc.run wa0 yM qa (by kernel_rfl) (by kernel_rfl) ?_
      simp -implicitDefEqProofs only [cdA, go_sem, e1, e2, e5, e6, e7, e8, reduceIte, reduceCtorEq, Nat.reduceEqDiff, Nat.reduceAdd, Nat.reduceLeDiff, Nat.reduceSub, Nat.reduceMul, Nat.reduceLT, Nat.reduceShiftRight, Nat.reduceMod, Int.reduceLE, Int.reduceLT, Int.reduceToNat, List.cons.injEq, cdB]
      refine ⟨by omega, by omega, fun y hy => qk (wai l) y (List.mem_of_mem_take (List.mem_of_mem_drop hy)), ?_⟩
      have := k7 (sz := 2) (c := c) (c1 := c1) (i := i) (E := hds l) (x := x.enc) (z := [C.int .u64 0, C.int .u64 0]) (by rw [yd]; exact hlt) (by rw [yd]; exact hc) (by rw [yd]; exact h2)
      rw [yd] at this
      refine hq _ _ ?_
      rw [kP]
      congr 2
      rw [show hds (List.take (l.length + 1 - i) [x]) = List.take (l.length + 1 - i) [x.enc] by simp [hds], this]
      simp [hds, Srt.ins]
    · exact ⟨_, 48, 4, _, rfl, rfl, rfl, rfl, by kernel_rfl, zbq⟩
    · refine uc.run xa2 yM qa (by kernel_rfl) (by kernel_rfl) ?_
      simp -implicitDefEqProofs only [cdA, go_sem, e1, e2, e5, e6, e7, e8, reduceIte, reduceCtorEq, Nat.reduceEqDiff, Nat.reduceAdd, Nat.reduceLeDiff, Nat.reduceSub, Nat.reduceMul, Nat.reduceLT, Nat.reduceShiftRight, Nat.reduceMod, Int.reduceLE, Int.reduceLT, Int.reduceToNat, List.cons.injEq, cdB]
      refine ⟨by omega, by omega, fun y hy => qk (wai l) y (List.mem_of_mem_take (List.mem_of_mem_drop hy)), by omega, ?_⟩
      have := baa (sz := 2) (c := c) (i := i) (E := hds l) (x := x.enc) (by rw [yd]; exact hlt) (by rw [yd]; omega)
      rw [yd] at this
      refine hq _ _ ?_
      rw [kP]
      congr 2
      rw [show hds (List.take (l.length + 1 - i) [x]) = List.take (l.length + 1 - i) [x.enc] by simp [hds], this]
      simp [hds, Srt.ins]

@[go_sem] def kag (l : List Hd) : D := .vec 0 l.length
@[go_sem] def j3 (l : List Hd) : Fr := [(2, 62, true, hds l)]
@[go_sem] abbrev vbZ : FuncId := 153
@[go_sem] def vaI : Tab := []
theorem qae : ya Tryz.prog vaI := ya.nil
set_option maxRecDepth 8000 in
set_option maxHeartbeats 1000000 in
theorem xaC (l : List Hd) (hl : l.length ≤ 1000000) : zn Tryz.prog 153 [.sl (hds l)] (kag l) (j3 l) := by
  refine .of (bbR qae (Nat.le_of_ble_eq_true rfl) ?_)
  simp -implicitDefEqProofs only [cdA, go_sem, Go.Proofs.Tryz.f153, reduceIte, reduceCtorEq, Nat.reduceEqDiff, Nat.reduceAdd, Nat.reduceLeDiff, Nat.reduceSub, Nat.reduceMul, Nat.reduceLT, Nat.reduceShiftRight, Nat.reduceMod, Int.reduceLE, Int.reduceLT, Int.reduceToNat, List.cons.injEq, cdB]
  refine fun b hb => ⟨fun h => ?_, fun h => ?_⟩
  · exact ⟨[none], by simp [go_sem, hb h], by cases l <;> simp_all [go_sem, hds]⟩
  · exact ⟨by omega, [some 0], by simp [go_sem]⟩
@[go_sem] def qaf (l : List Hd) : Prop := (l.length ≤ 1000000)
def uq : List D → Option (Prop × D × Fr)
  | [.c (.sl z186)] => some (z186 = hds (um z186) ∧ qaf (um z186), kag (um z186), j3 (um z186))
  | _ => none
attribute [go_sem] uq
theorem kz : ∀ rs p r fr, uq rs = some (p, r, fr) → p → zg Tryz.prog 153 rs r fr := by
  intro rs p r fr h hp
  unfold uq at h
  split at h <;> cases h
  obtain ⟨hc0, hp⟩ := hp
  rename_i z186
  obtain ⟨z186, rfl⟩ : ∃ m, z186 = hds m := ⟨_, hc0⟩
  simp only [ze]
  simp only [ze, qaf] at hp
  exact (show zg _ _ _ _ _ from And.intro rfl (xaC z186 hp))
def bsH (l : List Hd) (id : Nat) (i j : Nat) : Nat :=
  if h : i < j then (if (l.getD ((i + j) / 2) default).id < id then bsH l id ((i + j) / 2 + 1) j else bsH l id i ((i + j) / 2)) else i
termination_by j - i
decreasing_by all_goals omega
theorem jby {l : List Hd} {id : Nat} (hu : Srt.Up Hd.key ltN l) : ∀ (m i j : Nat), j - i ≤ m → i ≤ j → j ≤ l.length → (∀ k, k < i → (l.getD k default).id < id) → (∀ k, j ≤ k → k < l.length → ¬ (l.getD k default).id < id) → bsH l id i j = Srt.pos Hd.key ltN l id := by
  intro m
  induction m with
  | zero =>
    intro i j hm hij hj hlo hup
    rw [bsH, dif_neg (by omega)]
    exact (Srt.pos_eq (by omega) hlo (fun h => hup i (by omega) h)).symm
  | succ m ih =>
    intro i j hm hij hj hlo hup
    rw [bsH]
    split
    · rename_i hlt
      have hup2 := Srt.kj.1 hu
      split
      · rename_i h5
        refine ih _ _ (by omega) (by omega) hj (fun k hk => ?_) hup
        by_cases hkm : k = (i + j) / 2
        · rw [hkm]; exact h5
        · have := hup2 k ((i + j) / 2) (by omega) (by omega)
          simp only [ltN, Hd.key] at this; omega
      · rename_i h5
        refine ih _ _ (by omega) (by omega) (by omega) hlo (fun k hk1 hk2 => ?_)
        by_cases hkm : k = (i + j) / 2
        · rw [hkm]; exact h5
        · have := hup2 ((i + j) / 2) k (by omega) (by omega)
          simp only [ltN, Hd.key] at this; omega
    · exact (Srt.pos_eq (by omega) hlo (fun h => hup i (by omega) h)).symm
def qu (c : Ch) (id n : Nat) : Int :=
  if ¬ yl c ∨ n = 0 ∨ ¬ n ≤ MM then 1 else if c.op = false then 14 else if Srt.thr Hd.key ltN c.holds id = true then 6 else if c.holds.length = 64 then 7 else if c.loc < c.res ∨ c.loc - c.res < n then 9 else if c.most - held c.holds < n then 8 else 0
def ji (c : Ch) (id n : Nat) : Ch × Int := if qu c id n = 0 then (⟨c.id, c.loc - n, c.rem, c.res, c.most, Srt.ins c.holds (Srt.pos Hd.key ltN c.holds id) ⟨id, n⟩, c.op⟩, 0) else (default, qu c id n)
@[go_sem] def qaN (c : Ch) (id : Nat) (n : Nat) : D := .tup [.agg [.int .u64 (ji c id n).1.id, .int .u64 (ji c id n).1.loc, .int .u64 (ji c id n).1.rem, .int .u64 (ji c id n).1.res, .int .u64 (ji c id n).1.most, .sl (hds (ji c id n).1.holds), .bool (ji c id n).1.op], .int .i64 (ji c id n).2]
@[go_sem] abbrev ucy : FuncId := 139
@[go_sem] def zbk : Tab := [(203, jt), (49, yg), (153, uq), (218, ur)]
theorem kL : ya Tryz.prog zbk := (ya.cons jr (ya.cons uf (ya.cons kz (ya.cons qt ya.nil))))
set_option maxRecDepth 8000 in
set_option maxHeartbeats 1000000 in
theorem qa6 (c : Ch) (id : Nat) (n : Nat)  : yb Tryz.prog 139 [.agg [.c (.int .u64 (c.id : Int)), .c (.int .u64 (c.loc : Int)), .c (.int .u64 (c.rem : Int)), .c (.int .u64 (c.res : Int)), .c (.int .u64 (c.most : Int)), .sl (hds c.holds), .c (.bool c.op)], .c (.int .u64 (id : Int)), .c (.int .u64 (n : Int))] (qaN c id n) := by
  refine .of (qcO kL (Nat.le_of_ble_eq_true rfl) ?_)
  simp -implicitDefEqProofs only [cdA, go_sem, Go.Proofs.Tryz.f139, reduceIte, reduceCtorEq, Nat.reduceEqDiff, Nat.reduceAdd, Nat.reduceLeDiff, Nat.reduceSub, Nat.reduceMul, Nat.reduceLT, Nat.reduceShiftRight, Nat.reduceMod, Int.reduceLE, Int.reduceLT, Int.reduceToNat, List.cons.injEq, cdB]
  refine zby kL (Nat.le_of_ble_eq_true rfl) ?_
  simp -implicitDefEqProofs only [cdA, go_sem, Go.Proofs.Tryz.f217, reduceIte, reduceCtorEq, Nat.reduceEqDiff, Nat.reduceAdd, Nat.reduceLeDiff, Nat.reduceSub, Nat.reduceMul, Nat.reduceLT, Nat.reduceShiftRight, Nat.reduceMod, Int.reduceLE, Int.reduceLT, Int.reduceToNat, List.cons.injEq, cdB]
  refine fun _ => SWp.loop (ι := { x : Nat × Nat // x.1 ≤ x.2 ∧ x.2 ≤ c.holds.length ∧ bsH c.holds id x.1 x.2 = bsH c.holds id 0 c.holds.length }) (fun x => ⟨[(0, .sl (hds c.holds)), (1, .int .u64 id), (2, .fn (.func 218) [] []), (8, .int .i64 c.holds.length), (9, .int .i64 x.1.1), (10, .int .i64 x.1.2)], [(0, .box [.int .u64 c.id, .int .u64 c.loc, .int .u64 c.rem, .int .u64 c.res, .int .u64 c.most, .sl (hds c.holds), .bool c.op]), (1, .box [.int .u64 0, .int .u64 0, .int .u64 0, .int .u64 0, .int .u64 0, .nil, .bool false])], 2⟩) (fun x => x.1.2 - x.1.1) ⟨(0, c.holds.length), by simp⟩ ?_ ?_
  · simp [go_sem]
  · rintro ⟨⟨i, j⟩, hij, hj, hb⟩
    dsimp only at hij hj hb
    refine qb kL.toS gaS _ _ _ rfl ?_
    simp -implicitDefEqProofs only [cdA, go_sem, reduceIte, reduceCtorEq, Nat.reduceEqDiff, Nat.reduceAdd, Nat.reduceLeDiff, Nat.reduceSub, Nat.reduceMul, Nat.reduceLT, Nat.reduceShiftRight, Nat.reduceMod, Int.reduceLE, Int.reduceLT, Int.reduceToNat, List.cons.injEq, cdB]
    rw [yS hij hj ‹_›]
    have hbad : ∀ k, qu c id n = k → ¬ k = 0 → (0 = ((ji c id n).1.id : Int) ∧ 0 = ((ji c id n).1.loc : Int) ∧ 0 = ((ji c id n).1.rem : Int) ∧ 0 = ((ji c id n).1.res : Int) ∧ 0 = ((ji c id n).1.most : Int) ∧ hds (ji c id n).1.holds = [] ∧ false = (ji c id n).1.op) ∧ k = (ji c id n).2 := fun k hk h0 => by
      have : ji c id n = (default, k) := by rw [ji, if_neg (by rw [hk]; exact h0), hk]
      rw [this]; exact ⟨⟨rfl, rfl, rfl, rfl, rfl, rfl, rfl⟩, rfl⟩
    refine ⟨fun h4 => ?_, fun h4 => ?_⟩
    · have hm : (i + j) / 2 < c.holds.length := by omega
      rw [bsH, dif_pos (by omega)] at hb
      rw [xk, Int.toNat_natCast]
      refine ⟨⟨by omega, by omega⟩, fun h5 => ?_, fun h5 => ?_⟩
      · rw [if_pos (by omega)] at hb
        exact ⟨⟨((i + j) / 2 + 1, j), by dsimp only; omega, hj, hb⟩, by dsimp only; omega, i64_in _ (by omega), rfl⟩
      · rw [if_neg (by omega)] at hb
        exact ⟨⟨(i, (i + j) / 2), by dsimp only; omega, by dsimp only; omega, hb⟩, by dsimp only; omega, rfl, rfl⟩
    · rw [bsH, dif_neg (by omega)] at hb
      have hok : (xg c).2.2 = 0 ↔ yl c := gG
      have hpos : yl c → Srt.pos Hd.key ltN c.holds id = i := fun h => by
        rw [hb]
        exact (jby ((Srt.jg (lt := ltN) Srt.qf).1 h.2.2.2.2.2.1) _ 0 c.holds.length (Nat.le_refl _) (by omega) (Nat.le_refl _) (fun k hk => absurd hk (by omega)) (fun k h1 h2 => by omega)).symm
      rw [hok]
      have hthr : yl c → Srt.thr Hd.key ltN c.holds id = decide (i < c.holds.length ∧ (c.holds.getD i default).id = id) := fun h => by rw [Srt.thr, hpos h]; rfl
      have hmon : wS [n] = 0 ↔ n ≤ MM := van
      have e1 : ∀ h : yl c, (xg c).1 = held c.holds := fun h => by rw [xg, if_pos h]
      refine ⟨fun h6 => ⟨h6, fun ho => ⟨fun hn => ⟨fun hm => ⟨fun hop => ⟨fun ht => hbad 6 ?_ (by decide), fun ht _ => ⟨fun h64 => hbad 7 ?_ (by decide), fun h64 => ⟨fun hl => ⟨fun hx => hbad 9 ?_ (by decide), fun hx => ⟨fun hy => hbad 8 ?_ (by decide), fun hy => ⟨by have := ho.2.2.1; omega, ?_⟩⟩⟩, fun hl => hbad 9 ?_ (by decide)⟩⟩⟩, fun hop => hbad 14 ?_ (by decide)⟩, fun hm => hbad 1 ?_ (by decide)⟩, fun hn => hbad 1 ?_ (by decide)⟩, fun ho => hbad 1 ?_ (by decide)⟩,
        fun h6 => ⟨fun ho => ⟨fun hn => ⟨fun hm => ⟨fun hop _ => ⟨fun h64 => hbad 7 ?_ (by decide), fun h64 => ⟨fun hl => ⟨fun hx => hbad 9 ?_ (by decide), fun hx => ⟨fun hy => hbad 8 ?_ (by decide), fun hy => ⟨by have := ho.2.2.1; omega, ?_⟩⟩⟩, fun hl => hbad 9 ?_ (by decide)⟩⟩, fun hop => hbad 14 ?_ (by decide)⟩, fun hm => hbad 1 ?_ (by decide)⟩, fun hn => hbad 1 ?_ (by decide)⟩, fun ho => hbad 1 ?_ (by decide)⟩⟩
      all_goals first | (unfold qu; rw [if_pos (.inl ho)]; done) | skip
      all_goals first | (unfold qu; rw [if_pos (.inr (.inl (by omega)))]; done) | skip
      all_goals first | (unfold qu; rw [if_pos (.inr (.inr fun h => hm (hmon.2 h)))]; done) | skip
      all_goals
        have hA : ¬ (¬ yl c ∨ n = 0 ∨ ¬ n ≤ MM) := by
          rintro (h | h | h)
          · exact h ho
          · exact hn (by omega)
          · exact h (hmon.1 hm)
        have q4 : held c.holds ≤ c.most := ho.2.2.2.2.2.2.1
        have q2 : c.most ≤ MM := ho.2.1
        have q3 : c.loc ≤ MM := ho.2.2.2.2.2.2.2.1
        have e2 := e1 ho
        unfold MM at q2 q3
      all_goals first | (unfold qu; rw [if_neg hA, if_pos (by simpa using hop)]; done) | skip
      all_goals have hop' : ¬ c.op = false := by rw [hop]; decide
      all_goals first
        | (unfold qu; rw [if_neg hA, if_neg hop', if_pos (by rw [hthr ho]; exact decide_eq_true ⟨by omega, by have := wz.1 ht; omega⟩)]; done)
        | skip
      all_goals
        have ht' : ¬ Srt.thr Hd.key ltN c.holds id = true := by
          rw [hthr ho, decide_eq_true_eq]
          rintro ⟨h1, h2⟩
          first | exact ht (wz.2 (by omega)) | omega
      all_goals first
        | (unfold qu; rw [if_neg hA, if_neg hop', if_neg ht', if_pos (by omega)]; done)
        | skip
      all_goals have h64' : ¬ c.holds.length = 64 := by omega
      all_goals first
        | (unfold qu; rw [if_neg hA, if_neg hop', if_neg ht', if_neg h64', if_pos (.inl (by omega))]; done)
        | (rw [u64_in ((c.loc : Int) - _) (by omega)] at hx; unfold qu; rw [if_neg hA, if_neg hop', if_neg ht', if_neg h64', if_pos (by omega)]; done)
        | skip
      all_goals
        rw [u64_in ((c.loc : Int) - _) (by omega)] at hx
        have h9' : ¬ (c.loc < c.res ∨ c.loc - c.res < n) := by omega
        rw [e2, u64_in ((c.most : Int) - _) (by omega)] at hy
      all_goals first
        | (unfold qu; rw [if_neg hA, if_neg hop', if_neg ht', if_neg h64', if_neg h9', if_pos (by omega)]; done)
        | skip
      all_goals
        have h0 : qu c id n = 0 := by unfold qu; rw [if_neg hA, if_neg hop', if_neg ht', if_neg h64', if_neg h9', if_neg (by omega)]
        have h20 := ho.2.2.1
        refine va.grow (mid := [.int .i64 _]) (zbi c.holds ⟨id, n⟩ i (by omega) (by omega)) rfl rfl (by decide) (by simp [Srt.jk]) (fun d hd g g' w v hv => ?_) ?_
      all_goals first
        | (simp at hd; subst hd
           cases hv with
           | c _ _ h => cases h; exact .c _ _ (.int _ _))
        | skip
      all_goals
        simp -implicitDefEqProofs only [cdA, go_sem, reduceIte, reduceCtorEq, Nat.reduceEqDiff, Nat.reduceAdd, Nat.reduceLeDiff, Nat.reduceSub, Nat.reduceMul, Nat.reduceLT, Nat.reduceShiftRight, Nat.reduceMod, Int.reduceLE, Int.reduceLT, Int.reduceToNat, List.cons.injEq, cdB]
        rw [ji, if_pos h0, hpos ho, u64_in ((c.loc : Int) - _) (by omega)]
        exact ⟨⟨rfl, by dsimp only; omega, rfl, rfl, rfl, ⟨rfl, _, _, _, rfl⟩, rfl⟩, rfl⟩
def vR : List D → Option (Prop × D × Fr)
  | [.agg [.c (.int .u64 z188), .c (.int .u64 z189), .c (.int .u64 z190), .c (.int .u64 z191), .c (.int .u64 z192), .c (.sl z193), .c (.bool z194)], .c (.int .u64 z195), .c (.int .u64 z196)] => some (z188 = (z188.toNat : Int) ∧ z189 = (z189.toNat : Int) ∧ z190 = (z190.toNat : Int) ∧ z191 = (z191.toNat : Int) ∧ z192 = (z192.toNat : Int) ∧ z193 = hds (um z193) ∧ z195 = (z195.toNat : Int) ∧ z196 = (z196.toNat : Int), qaN (⟨z188.toNat, z189.toNat, z190.toNat, z191.toNat, z192.toNat, (um z193), z194⟩ : Ch) z195.toNat z196.toNat, [])
  | _ => none
attribute [go_sem] vR
theorem yar : ∀ rs p r fr, vR rs = some (p, r, fr) → p → zg Tryz.prog 139 rs r fr := by
  intro rs p r fr h hp
  unfold vR at h
  split at h <;> cases h
  obtain ⟨hc0, hc1, hc2, hc3, hc4, hc5, hc6, hc7⟩ := hp
  rename_i z188 z189 z190 z191 z192 z193 z194 z195 z196
  obtain ⟨z188, rfl⟩ : ∃ m : Nat, z188 = m := ⟨_, hc0⟩
  obtain ⟨z189, rfl⟩ : ∃ m : Nat, z189 = m := ⟨_, hc1⟩
  obtain ⟨z190, rfl⟩ : ∃ m : Nat, z190 = m := ⟨_, hc2⟩
  obtain ⟨z191, rfl⟩ : ∃ m : Nat, z191 = m := ⟨_, hc3⟩
  obtain ⟨z192, rfl⟩ : ∃ m : Nat, z192 = m := ⟨_, hc4⟩
  obtain ⟨z193, rfl⟩ : ∃ m, z193 = hds m := ⟨_, hc5⟩
  obtain ⟨z195, rfl⟩ : ∃ m : Nat, z195 = m := ⟨_, hc6⟩
  obtain ⟨z196, rfl⟩ : ∃ m : Nat, z196 = m := ⟨_, hc7⟩
  simp only [Int.toNat_natCast, ze]
  exact qa6 ⟨z188, z189, z190, z191, z192, z193, z194⟩ z195 z196
end Dm
namespace Dm
open Go Go.Proofs Go.IntWalk
def jm (l : List Ch) (id h n : Nat) : List Ch × Int :=
  if ym l then (if Srt.thr Ch.id ltN l id = true then (if (qj l h).2 = 0 then ([], 6) else if qu (l.getD (Srt.pos Ch.id ltN l id) default) h n = 0 then (l.set (Srt.pos Ch.id ltN l id) (ji (l.getD (Srt.pos Ch.id ltN l id) default) h n).1, 0) else ([], qu (l.getD (Srt.pos Ch.id ltN l id) default) h n)) else ([], 5)) else ([], 1)
theorem jaS {c : Ch} {id n : Nat} : (ji c id n).2 = qu c id n := by
  unfold ji
  split
  · rename_i h; exact h.symm
  · rfl
@[go_sem] def waO (l : List Ch) (id : Nat) (h : Nat) (n : Nat) : D := .tup [.sl (chs (jm l id h n).1), .int .i64 (jm l id h n).2]
@[go_sem] abbrev xcE : FuncId := 55
@[go_sem] def ubl : Tab := [(63, jy), (14, uB), (139, vR), (185, vB)]
theorem jL : ya Tryz.prog ubl := (ya.cons xz (ya.cons wO (ya.cons yar (ya.cons zw ya.nil))))
set_option maxRecDepth 8000 in
set_option maxHeartbeats 1000000 in
theorem ka0 (l : List Ch) (id : Nat) (h : Nat) (n : Nat)  : yb Tryz.prog 55 [.sl (chs l), .c (.int .u64 (id : Int)), .c (.int .u64 (h : Int)), .c (.int .u64 (n : Int))] (waO l id h n) := by
  refine .of (xdg jL (Nat.le_of_ble_eq_true rfl) ?_)
  simp -implicitDefEqProofs only [cdA, go_sem, Go.Proofs.Tryz.f55, reduceIte, reduceCtorEq, Nat.reduceEqDiff, Nat.reduceAdd, Nat.reduceLeDiff, Nat.reduceSub, Nat.reduceMul, Nat.reduceLT, Nat.reduceShiftRight, Nat.reduceMod, Int.reduceLE, Int.reduceLT, Int.reduceToNat, List.cons.injEq, cdB]
  refine za8 jL (Nat.le_of_ble_eq_true rfl) ?_
  simp -implicitDefEqProofs only [cdA, go_sem, Go.Proofs.Tryz.f137, reduceIte, reduceCtorEq, Nat.reduceEqDiff, Nat.reduceAdd, Nat.reduceLeDiff, Nat.reduceSub, Nat.reduceMul, Nat.reduceLT, Nat.reduceShiftRight, Nat.reduceMod, Int.reduceLE, Int.reduceLT, Int.reduceToNat, List.cons.injEq, cdB]
  by_cases hok : ym l
  · by_cases ht : Srt.thr Ch.id ltN l id = true
    · have e1 : vf l id = (((Srt.pos Ch.id ltN l id : Nat) : Int), 0) := by rw [vf, if_pos hok, if_pos ht]
      have hp : Srt.pos Ch.id ltN l id < l.length := by
        unfold Srt.thr at ht
        exact (of_decide_eq_true ht).1
      rw [e1, Int.toNat_natCast, jm, if_pos hok, if_pos ht]
      refine ⟨fun _ => ⟨⟨by omega, by omega⟩, ?_⟩, fun h => absurd rfl h⟩
      refine bcP jL (Nat.le_of_ble_eq_true rfl) ?_
      simp -implicitDefEqProofs only [cdA, go_sem, Go.Proofs.Tryz.f138, reduceIte, reduceCtorEq, Nat.reduceEqDiff, Nat.reduceAdd, Nat.reduceLeDiff, Nat.reduceSub, Nat.reduceMul, Nat.reduceLT, Nat.reduceShiftRight, Nat.reduceMod, Int.reduceLE, Int.reduceLT, Int.reduceToNat, List.cons.injEq, cdB]
      have h32 : l.length ≤ 1000000 ∧ ∀ c ∈ l, c.holds.length ≤ 1000000 := ⟨by have := hok.1; omega, fun c hc => by have := (hok.2.1 c hc).2.2.1; omega⟩
      refine ⟨fun hw => ⟨fun h6 => absurd h6 (by decide), fun _ => ?_⟩, fun hw => ⟨fun h0 => ?_, fun h0 => ?_⟩⟩
      · rw [if_pos hw]; exact ⟨rfl, rfl⟩
      · rw [jaS] at h0
        rw [if_neg hw, if_pos h0]
        exact ⟨h32, by omega, hp, ⟨by simp, _, _, _, rfl⟩, rfl⟩
      · rw [jaS] at h0 ⊢
        rw [if_neg hw, if_neg h0]
        exact ⟨rfl, rfl⟩
    · have e1 : vf l id = (0, 5) := by rw [vf, if_pos hok, if_neg ht]
      have e2 : jm l id h n = ([], 5) := by rw [jm, if_pos hok, if_neg ht]
      rw [e1, e2]
      exact ⟨fun h => absurd h (by decide), fun _ => ⟨rfl, rfl⟩⟩
  · have e1 : vf l id = (0, 1) := by rw [vf, if_neg hok]
    have e2 : jm l id h n = ([], 1) := by rw [jm, if_neg hok]
    rw [e1, e2]
    exact ⟨fun h => absurd h (by decide), fun _ => ⟨rfl, rfl⟩⟩
def bQ : List D → Option (Prop × D × Fr)
  | [.c (.sl z197), .c (.int .u64 z198), .c (.int .u64 z199), .c (.int .u64 z200)] => some (z197 = chs (xh z197) ∧ z198 = (z198.toNat : Int) ∧ z199 = (z199.toNat : Int) ∧ z200 = (z200.toNat : Int), waO (xh z197) z198.toNat z199.toNat z200.toNat, [])
  | _ => none
attribute [go_sem] bQ
theorem uat : ∀ rs p r fr, bQ rs = some (p, r, fr) → p → zg Tryz.prog 55 rs r fr := by
  intro rs p r fr h hp
  unfold bQ at h
  split at h <;> cases h
  obtain ⟨hc0, hc1, hc2, hc3⟩ := hp
  rename_i z197 z198 z199 z200
  obtain ⟨z197, rfl⟩ : ∃ m, z197 = chs m := ⟨_, hc0⟩
  obtain ⟨z198, rfl⟩ : ∃ m : Nat, z198 = m := ⟨_, hc1⟩
  obtain ⟨z199, rfl⟩ : ∃ m : Nat, z199 = m := ⟨_, hc2⟩
  obtain ⟨z200, rfl⟩ : ∃ m : Nat, z200 = m := ⟨_, hc3⟩
  simp only [Int.toNat_natCast, xb]
  exact ka0 z197 z198 z199 z200
end Dm
namespace Dm
open Go Go.Proofs Go.IntWalk
theorem wT {l : List Hd} {i : Nat} {x : Hd} : List.Perm (Srt.ins l i x) (x :: l) := Srt.kF
theorem jI {l : List Ch} {p : Nat} (hp : p < l.length) : l = l.take p ++ l.getD p default :: l.drop (p + 1) := by
  rw [ve hp, List.getElem_cons_drop, List.take_append_drop]
theorem yD {l : List Ch} {p : Nat} {d : Ch} (hp : p < l.length) : l.set p d = l.take p ++ d :: l.drop (p + 1) := by
  rw [List.set_eq_take_append_cons_drop, if_pos hp]
theorem wau {l : List Ch} {p : Nat} {d : Ch} {x : Hd} (hp : p < l.length) (hd : d.holds.Perm (x :: (l.getD p default).holds)) : (zL (l.set p d)).Perm (x.id :: zL l) := by
  conv => rhs; rw [jI hp]
  rw [yD hp]
  simp only [zL, List.flatMap_append, List.flatMap_cons]
  have h1 := hd.map Hd.id
  rw [List.map_cons] at h1
  refine (List.Perm.append_left _ (h1.append_right _)).trans ?_
  exact List.perm_middle
theorem yaY {l : List Hd} {i : Nat} {x : Hd} : held (Srt.ins l i x) = x.n + held l := by
  unfold held
  rw [((wT (l := l) (i := i) (x := x)).map Hd.n).sum_nat, List.map_cons, List.sum_cons]
theorem b8 {l : List Ch} {p : Nat} {d : Ch} (hp : p < l.length) (hd : qR d = qR (l.getD p default)) : yP (l.set p d) = yP l := by
  conv => rhs; rw [jI hp]
  rw [yD hp]
  simp only [yP, List.map_append, List.map_cons, List.sum_append, List.sum_cons, hd]
theorem vaV {c : Ch} {h n : Nat} (he : qu c h n = 0) (hok : yl c) : yl (ji c h n).1 ∧ qR (ji c h n).1 = qR c := by
  have e : ji c h n = (⟨c.id, c.loc - n, c.rem, c.res, c.most, Srt.ins c.holds (Srt.pos Hd.key ltN c.holds h) ⟨h, n⟩, c.op⟩, 0) := by rw [ji, if_pos he]
  obtain ⟨o1, o2, o3, o4, o5, o6, o7, o8, o9, o10⟩ := hok
  have hok : yl c := ⟨o1, o2, o3, o4, o5, o6, o7, o8, o9, o10⟩
  unfold qu at he
  split at he
  · cases he
  split at he
  · cases he
  split at he
  · cases he
  split at he
  · cases he
  split at he
  · cases he
  split at he
  · cases he
  rename_i h1 h2 h3 h4 h5 h6
  have hn0 : n ≠ 0 := fun h => h1 (.inr (.inl h))
  have h7 := yaY (l := c.holds) (i := Srt.pos Hd.key ltN c.holds h) (x := ⟨h, n⟩)
  have hu : Srt.Up Hd.key ltN c.holds := (Srt.jg (lt := ltN) Srt.qf).1 o6
  have hle : n ≤ c.loc := by omega
  have hnew : yl (ji c h n).1 := by
    rw [e]
    refine ⟨o1, o2, ?_, fun hop => absurd hop h2, fun y hy => ?_, ?_, ?_, ?_, o9, ?_⟩
    · dsimp only; rw [Srt.jk]; omega
    · rcases List.mem_cons.1 (wT.mem_iff.1 hy) with rfl | hy
      · exact hn0
      · exact o5 y hy
    · exact (Srt.jg (lt := ltN) Srt.qf).2 (Srt.uaM (x := (⟨h, n⟩ : Hd)) (Srt.qf) hu h3)
    · dsimp only; rw [h7]; dsimp only; omega
    · dsimp only; omega
    · dsimp only; rw [h7]; dsimp only; omega
  refine ⟨hnew, ?_⟩
  have a1 : qR c = held c.holds + c.loc + c.rem := by unfold qR xg; rw [if_pos hok]
  have a2 : qR (ji c h n).1 = held (ji c h n).1.holds + (ji c h n).1.loc + (ji c h n).1.rem := by unfold qR xg; rw [if_pos hnew]
  rw [a1, a2, e]
  dsimp only
  rw [h7]; dsimp only; omega
theorem yaI {l : List Ch} {h : Nat} (hok : ym l) : (qj l h).2 = 0 ↔ h ∈ zL l := by
  have hnd : ((hm 0 l).map (·.1)).Nodup := by rw [xH]; exact hok.2.2.2.1
  rw [qj, if_pos hok]
  constructor
  · cases hx : nlk h (hm 0 l) with
    | none => intro h; cases h
    | some i =>
      intro _
      have := (kH hnd).1 hx
      rw [← xH (s := 0)]
      exact List.mem_map.2 ⟨_, this, rfl⟩
  · intro hh
    rw [← xH (s := 0)] at hh
    obtain ⟨⟨k, a⟩, h1, h2⟩ := List.mem_map.1 hh
    dsimp only at h2
    subst h2
    rw [(kH hnd).2 h1]
end Dm
namespace Dm
open Go Go.Proofs Go.IntWalk
theorem ja0 {l : List Ch} {id h n : Nat} (h0 : (jm l id h n).2 = 0) : ym l ∧ ∃ c ∈ l, c.id = id ∧ Srt.pos Ch.id ltN l id < l.length ∧ l.getD (Srt.pos Ch.id ltN l id) default = c ∧ h ∉ zL l ∧ qu c h n = 0 ∧ jm l id h n = (l.set (Srt.pos Ch.id ltN l id) (ji c h n).1, 0) := by
  by_cases hok : ym l
  · by_cases ht : Srt.thr Ch.id ltN l id = true
    · by_cases hw : (qj l h).2 = 0
      · rw [jm, if_pos hok, if_pos ht, if_pos hw] at h0; cases h0
      · by_cases he : qu (l.getD (Srt.pos Ch.id ltN l id) default) h n = 0
        · have h2 := ht
          unfold Srt.thr at h2
          obtain ⟨hp, hpi⟩ := of_decide_eq_true h2
          refine ⟨hok, _, jb.2 ⟨_, hp, rfl⟩, hpi, hp, rfl, fun h => hw ((yaI hok).2 h), he, ?_⟩
          rw [jm, if_pos hok, if_pos ht, if_neg hw, if_pos he]
        · rw [jm, if_pos hok, if_pos ht, if_neg hw, if_neg he] at h0; exact absurd h0 he
    · rw [jm, if_pos hok, if_neg ht] at h0; cases h0
  · rw [jm, if_neg hok] at h0; cases h0
theorem xaD {l : List Ch} {id h n : Nat} (h0 : (jm l id h n).2 = 0) : ym (jm l id h n).1 := by
  obtain ⟨hok, c, hc, hid, hp, hcp, hw, he, e⟩ := ja0 h0
  have hu : Srt.Up Ch.id ltN l := (Srt.jg (lt := ltN) Srt.qf).1 hok.2.2.1
  obtain ⟨hok', hall⟩ := vaV he (hok.2.1 c hc)
  have eid : (ji c h n).1.id = c.id := by rw [ji, if_pos he]
  have ehl : (ji c h n).1.holds.Perm (⟨h, n⟩ :: c.holds) := by rw [ji, if_pos he]; exact wT
  generalize Srt.pos Ch.id ltN l id = p at *
  have hpm := wau (l := l) (p := p) (d := (ji c h n).1) (x := ⟨h, n⟩) hp (by rw [hcp]; exact ehl)
  rw [e]
  refine ⟨by rw [List.length_set]; exact hok.1, fun d hd => ?_, ?_, ?_, ?_⟩
  · rcases List.mem_or_eq_of_mem_set hd with h | rfl
    · exact hok.2.1 d h
    · exact hok'
  · exact (Srt.jg (lt := ltN) Srt.qf).2 (Srt.qZ hu hp (by rw [hcp]; exact eid))
  · rw [hpm.nodup_iff, List.nodup_cons]; exact ⟨hw, hok.2.2.2.1⟩
  · rw [b8 hp (by rw [hcp]; exact hall)]; exact hok.2.2.2.2
theorem zaM {l : List Py} {p : Py} : (bt l p).1.length ≤ 257 := by
  unfold bt
  split
  · simp
  · rename_i hA
    have hok : yL l := Decidable.byContradiction fun h => hA (.inl h)
    have := hok.1
    split
    · simp
    · split
      · split
        · simp
        · rename_i k hk
          dsimp only
          have hkl : k < l.length := by
            unfold idle at hk
            exact (List.findIdx?_eq_some_iff_getElem.1 hk).1
          rw [Srt.jk, List.length_eraseIdx_of_lt hkl]; omega
      · dsimp only
        rw [Srt.jk]; omega
theorem qz {f : Fd} {k : Int} {a n : Nat} : (vm f k a n).1.l.length ≤ 64 := by
  unfold vm
  split
  · rename_i h
    have := h.1.2.2.1
    split
    · simp
    · dsimp only
      rw [List.length_drop, List.length_append, List.length_singleton]; omega
  · simp
theorem qo {w : Wl} (h : okW w) : qv w := by
  obtain ⟨h1, h2, h3, h4, _⟩ := h
  have h7 := h3.2.2.1
  refine ⟨by have := h1.1; omega, fun c hc => by have := (h1.2.1 c hc).2.2.1; omega, by omega, by have := h2.1; omega, ?_, by omega⟩
  rename_i h8
  have h9 := h8.2.2.2
  have : yL w.p := by
    unfold uY at h9
    split at h9
    · rename_i h; exact h.1
    · cases h9
  have := this.1; omega
end Dm
namespace Dm
open Go Go.Proofs Go.IntWalk
theorem zT : ((1 : Int) = 0) = False := eq_false (by decide)
theorem qbT : ((7 : Int) = 0) = False := eq_false (by decide)
theorem gbC : ((9 : Int) = 0) = False := eq_false (by decide)
def qa1 (v : Wl) (hash n : Nat) : List Py × Int := bt v.p ⟨v.next, hash, (yB v.c v.w n).1, n, 1⟩
def jaY (v : Wl) (n : Nat) : List Ch × Int := jm v.c (yB v.c v.w n).1 v.next n
def jbf (v : Wl) (n : Nat) : Fd × Nat × Int := vm v.f 0 v.next n
def zaj (v : Wl) (hash n : Nat) : Int := if ¬ okW v ∨ n = 0 ∨ ¬ n ≤ MM then 1 else if (yB v.c v.w n).2 ≠ 0 then 9 else if v.next = MM then 7 else if (qa1 v hash n).2 ≠ 0 then (qa1 v hash n).2 else if (jaY v n).2 ≠ 0 then (jaY v n).2 else (jbf v n).2.2
def yx : Wl := ⟨[], [], [], [], ⟨0, []⟩, 0, 0⟩
def gz (v : Wl) (hash n : Nat) : Wl × Nat × Int := if zaj v hash n = 0 then (⟨(jaY v n).1, v.w, v.i, (qa1 v hash n).1, (jbf v n).1, v.next + 1, v.tick⟩, v.next, 0) else (yx, 0, zaj v hash n)
@[go_sem] def yba (v : Wl) (hash : Nat) (n : Nat) : D := .tup [.agg [.sl (chs (gz v hash n).1.c), .sl (wts (gz v hash n).1.w), .sl (ivs (gz v hash n).1.i), .sl (pys (gz v hash n).1.p), .int .u64 (gz v hash n).1.f.next, .sl (evs (gz v hash n).1.f.l), .int .u64 (gz v hash n).1.next, .int .u64 (gz v hash n).1.tick], .int .u64 (gz v hash n).2.1, .int .i64 (gz v hash n).2.2]
@[go_sem] abbrev uc3 : FuncId := 13
@[go_sem] def xb6 : Tab := [(37, bh), (49, yg), (12, vQ), (52, gI), (55, bQ), (142, wu), (119, gp)]
theorem ja : ya Tryz.prog xb6 := (ya.cons vg (ya.cons uf (ya.cons vas (ya.cons yaf (ya.cons uat (ya.cons gn (ya.cons yj ya.nil)))))))
set_option maxRecDepth 8000 in
set_option maxHeartbeats 1000000 in
theorem qbm (v : Wl) (hash : Nat) (n : Nat) (h : v.f.next ≤ 18446744073709551615) : yb Tryz.prog 13 [.agg [.sl (chs v.c), .sl (wts v.w), .sl (ivs v.i), .sl (pys v.p), .c (.int .u64 (v.f.next : Int)), .sl (evs v.f.l), .c (.int .u64 (v.next : Int)), .c (.int .u64 (v.tick : Int))], .c (.int .u64 (hash : Int)), .c (.int .u64 (n : Int))] (yba v hash n) := by
  refine .of (bdd ja (Nat.le_of_ble_eq_true rfl) ?_)
  simp -implicitDefEqProofs only [cdA, go_sem, Go.Proofs.Tryz.f13, reduceIte, reduceCtorEq, Nat.reduceEqDiff, Nat.reduceAdd, Nat.reduceLeDiff, Nat.reduceSub, Nat.reduceMul, Nat.reduceLT, Nat.reduceShiftRight, Nat.reduceMod, Int.reduceLE, Int.reduceLT, Int.reduceToNat, List.cons.injEq, cdB]
  refine qaX ja (Nat.le_of_ble_eq_true rfl) ?_
  simp -implicitDefEqProofs only [cdA, go_sem, Go.Proofs.Tryz.f45, reduceIte, reduceCtorEq, Nat.reduceEqDiff, Nat.reduceAdd, Nat.reduceLeDiff, Nat.reduceSub, Nat.reduceMul, Nat.reduceLT, Nat.reduceShiftRight, Nat.reduceMod, Int.reduceLE, Int.reduceLT, Int.reduceToNat, List.cons.injEq, cdB]
  refine uc.run yG ja qa (by kernel_rfl) (by kernel_rfl) ?_
  simp -implicitDefEqProofs only [cdA, go_sem, reduceIte, reduceCtorEq, Nat.reduceEqDiff, Nat.reduceAdd, Nat.reduceLeDiff, Nat.reduceSub, Nat.reduceMul, Nat.reduceLT, Nat.reduceShiftRight, Nat.reduceMod, Int.reduceLE, Int.reduceLT, Int.reduceToNat, List.cons.injEq, cdB]
  refine ⟨h, ?_⟩
  have hbad : ∀ e : Int, zaj v hash n = e → ¬ e = 0 → (chs (gz v hash n).1.c = [] ∧ wts (gz v hash n).1.w = [] ∧ ivs (gz v hash n).1.i = [] ∧ pys (gz v hash n).1.p = [] ∧ 0 = ((gz v hash n).1.f.next : Int) ∧ evs (gz v hash n).1.f.l = [] ∧ 0 = ((gz v hash n).1.next : Int) ∧ 0 = ((gz v hash n).1.tick : Int)) ∧ 0 = ((gz v hash n).2.1 : Int) ∧ e = (gz v hash n).2.2 := fun e h1 h2 => by
    have : gz v hash n = (yx, 0, e) := by rw [gz, if_neg (by rw [h1]; exact h2), h1]
    rw [this]; exact ⟨⟨rfl, rfl, rfl, rfl, rfl, rfl, rfl, rfl⟩, rfl, rfl⟩
  by_cases hok : okW v
  rotate_left 1
  · have hck : (bq v = 0) = False := eq_false fun h => hok (qm.1 h)
    have he : zaj v hash n = 1 := by rw [zaj, if_pos (.inl hok)]
    have hc1 : bq v = 1 := by rw [bq, if_neg hok]
    refine ⟨fun hn => ?_, fun hn => ?_⟩
    · skip
      refine kR ja (Nat.le_of_ble_eq_true rfl) ?_
      simp -implicitDefEqProofs only [cdA, go_sem, Go.Proofs.Tryz.f46, hck, cdN, reduceIte, reduceCtorEq, Nat.reduceEqDiff, Nat.reduceAdd, Nat.reduceLeDiff, Nat.reduceSub, Nat.reduceMul, Nat.reduceLT, Nat.reduceShiftRight, Nat.reduceMod, Int.reduceLE, Int.reduceLT, Int.reduceToNat, List.cons.injEq, cdB]
      refine kR ja (Nat.le_of_ble_eq_true rfl) ?_
      simp -implicitDefEqProofs only [cdA, go_sem, Go.Proofs.Tryz.f46, hck, cdN, reduceIte, reduceCtorEq, Nat.reduceEqDiff, Nat.reduceAdd, Nat.reduceLeDiff, Nat.reduceSub, Nat.reduceMul, Nat.reduceLT, Nat.reduceShiftRight, Nat.reduceMod, Int.reduceLE, Int.reduceLT, Int.reduceToNat, List.cons.injEq, cdB]
      refine kR ja (Nat.le_of_ble_eq_true rfl) ?_
      simp -implicitDefEqProofs only [cdA, go_sem, Go.Proofs.Tryz.f46, hck, cdN, reduceIte, reduceCtorEq, Nat.reduceEqDiff, Nat.reduceAdd, Nat.reduceLeDiff, Nat.reduceSub, Nat.reduceMul, Nat.reduceLT, Nat.reduceShiftRight, Nat.reduceMod, Int.reduceLE, Int.reduceLT, Int.reduceToNat, List.cons.injEq, cdB]
      refine yaU ja (Nat.le_of_ble_eq_true rfl) ?_
      simp -implicitDefEqProofs only [cdA, go_sem, Go.Proofs.Tryz.f50, hck, cdN, reduceIte, reduceCtorEq, Nat.reduceEqDiff, Nat.reduceAdd, Nat.reduceLeDiff, Nat.reduceSub, Nat.reduceMul, Nat.reduceLT, Nat.reduceShiftRight, Nat.reduceMod, Int.reduceLE, Int.reduceLT, Int.reduceToNat, List.cons.injEq, cdB]
      refine vW ja (Nat.le_of_ble_eq_true rfl) ?_
      simp -implicitDefEqProofs only [cdA, go_sem, Go.Proofs.Tryz.f53, hck, cdN, reduceIte, reduceCtorEq, Nat.reduceEqDiff, Nat.reduceAdd, Nat.reduceLeDiff, Nat.reduceSub, Nat.reduceMul, Nat.reduceLT, Nat.reduceShiftRight, Nat.reduceMod, Int.reduceLE, Int.reduceLT, Int.reduceToNat, List.cons.injEq, cdB]
      refine wF ja (Nat.le_of_ble_eq_true rfl) ?_
      simp -implicitDefEqProofs only [cdA, go_sem, Go.Proofs.Tryz.f56, reduceIte, reduceCtorEq, Nat.reduceEqDiff, Nat.reduceAdd, Nat.reduceLeDiff, Nat.reduceSub, Nat.reduceMul, Nat.reduceLT, Nat.reduceShiftRight, Nat.reduceMod, Int.reduceLE, Int.reduceLT, Int.reduceToNat, List.cons.injEq, cdB]
      refine vj ja (Nat.le_of_ble_eq_true rfl) ?_
      simp -implicitDefEqProofs only [cdA, go_sem, Go.Proofs.Tryz.f140, hck, cdN, reduceIte, reduceCtorEq, Nat.reduceEqDiff, Nat.reduceAdd, Nat.reduceLeDiff, Nat.reduceSub, Nat.reduceMul, Nat.reduceLT, Nat.reduceShiftRight, Nat.reduceMod, Int.reduceLE, Int.reduceLT, Int.reduceToNat, List.cons.injEq, cdB]
      refine js ja (Nat.le_of_ble_eq_true rfl) ?_
      simp -implicitDefEqProofs only [cdA, go_sem, Go.Proofs.Tryz.f47, hck, cdN, reduceIte, reduceCtorEq, Nat.reduceEqDiff, Nat.reduceAdd, Nat.reduceLeDiff, Nat.reduceSub, Nat.reduceMul, Nat.reduceLT, Nat.reduceShiftRight, Nat.reduceMod, Int.reduceLE, Int.reduceLT, Int.reduceToNat, List.cons.injEq, cdB]
      refine uc.run yf ja qa (by kernel_rfl) (by kernel_rfl) ?_
      simp -implicitDefEqProofs only [cdA, go_sem, hck, cdN, reduceIte, reduceCtorEq, Nat.reduceEqDiff, Nat.reduceAdd, Nat.reduceLeDiff, Nat.reduceSub, Nat.reduceMul, Nat.reduceLT, Nat.reduceShiftRight, Nat.reduceMod, Int.reduceLE, Int.reduceLT, Int.reduceToNat, List.cons.injEq, cdB]
      exact hbad _ (he.trans hc1.symm) (by rw [hc1]; decide)
    · skip
      refine kR ja (Nat.le_of_ble_eq_true rfl) ?_
      simp -implicitDefEqProofs only [cdA, go_sem, Go.Proofs.Tryz.f46, hck, cdN, reduceIte, reduceCtorEq, Nat.reduceEqDiff, Nat.reduceAdd, Nat.reduceLeDiff, Nat.reduceSub, Nat.reduceMul, Nat.reduceLT, Nat.reduceShiftRight, Nat.reduceMod, Int.reduceLE, Int.reduceLT, Int.reduceToNat, List.cons.injEq, cdB]
      refine kR ja (Nat.le_of_ble_eq_true rfl) ?_
      simp -implicitDefEqProofs only [cdA, go_sem, Go.Proofs.Tryz.f46, hck, cdN, reduceIte, reduceCtorEq, Nat.reduceEqDiff, Nat.reduceAdd, Nat.reduceLeDiff, Nat.reduceSub, Nat.reduceMul, Nat.reduceLT, Nat.reduceShiftRight, Nat.reduceMod, Int.reduceLE, Int.reduceLT, Int.reduceToNat, List.cons.injEq, cdB]
      refine kR ja (Nat.le_of_ble_eq_true rfl) ?_
      simp -implicitDefEqProofs only [cdA, go_sem, Go.Proofs.Tryz.f46, hck, cdN, reduceIte, reduceCtorEq, Nat.reduceEqDiff, Nat.reduceAdd, Nat.reduceLeDiff, Nat.reduceSub, Nat.reduceMul, Nat.reduceLT, Nat.reduceShiftRight, Nat.reduceMod, Int.reduceLE, Int.reduceLT, Int.reduceToNat, List.cons.injEq, cdB]
      refine yaU ja (Nat.le_of_ble_eq_true rfl) ?_
      simp -implicitDefEqProofs only [cdA, go_sem, Go.Proofs.Tryz.f50, hck, cdN, reduceIte, reduceCtorEq, Nat.reduceEqDiff, Nat.reduceAdd, Nat.reduceLeDiff, Nat.reduceSub, Nat.reduceMul, Nat.reduceLT, Nat.reduceShiftRight, Nat.reduceMod, Int.reduceLE, Int.reduceLT, Int.reduceToNat, List.cons.injEq, cdB]
      refine vW ja (Nat.le_of_ble_eq_true rfl) ?_
      simp -implicitDefEqProofs only [cdA, go_sem, Go.Proofs.Tryz.f53, hck, cdN, reduceIte, reduceCtorEq, Nat.reduceEqDiff, Nat.reduceAdd, Nat.reduceLeDiff, Nat.reduceSub, Nat.reduceMul, Nat.reduceLT, Nat.reduceShiftRight, Nat.reduceMod, Int.reduceLE, Int.reduceLT, Int.reduceToNat, List.cons.injEq, cdB]
      refine wF ja (Nat.le_of_ble_eq_true rfl) ?_
      simp -implicitDefEqProofs only [cdA, go_sem, Go.Proofs.Tryz.f56, reduceIte, reduceCtorEq, Nat.reduceEqDiff, Nat.reduceAdd, Nat.reduceLeDiff, Nat.reduceSub, Nat.reduceMul, Nat.reduceLT, Nat.reduceShiftRight, Nat.reduceMod, Int.reduceLE, Int.reduceLT, Int.reduceToNat, List.cons.injEq, cdB]
      refine vj ja (Nat.le_of_ble_eq_true rfl) ?_
      simp -implicitDefEqProofs only [cdA, go_sem, Go.Proofs.Tryz.f140, hck, cdN, reduceIte, reduceCtorEq, Nat.reduceEqDiff, Nat.reduceAdd, Nat.reduceLeDiff, Nat.reduceSub, Nat.reduceMul, Nat.reduceLT, Nat.reduceShiftRight, Nat.reduceMod, Int.reduceLE, Int.reduceLT, Int.reduceToNat, List.cons.injEq, cdB]
      refine js ja (Nat.le_of_ble_eq_true rfl) ?_
      simp -implicitDefEqProofs only [cdA, go_sem, Go.Proofs.Tryz.f47, hck, cdN, reduceIte, reduceCtorEq, Nat.reduceEqDiff, Nat.reduceAdd, Nat.reduceLeDiff, Nat.reduceSub, Nat.reduceMul, Nat.reduceLT, Nat.reduceShiftRight, Nat.reduceMod, Int.reduceLE, Int.reduceLT, Int.reduceToNat, List.cons.injEq, cdB]
      refine uc.run yf ja qa (by kernel_rfl) (by kernel_rfl) ?_
      simp -implicitDefEqProofs only [cdA, go_sem, hck, cdN, reduceIte, reduceCtorEq, Nat.reduceEqDiff, Nat.reduceAdd, Nat.reduceLeDiff, Nat.reduceSub, Nat.reduceMul, Nat.reduceLT, Nat.reduceShiftRight, Nat.reduceMod, Int.reduceLE, Int.reduceLT, Int.reduceToNat, List.cons.injEq, cdB]
      exact hbad _ (he.trans hc1.symm) (by rw [hc1]; decide)
  have hck : (bq v = 0) = True := eq_true (qm.2 hok)
  refine ⟨fun hn => ?_, fun hn => ?_⟩
  rotate_left 1
  · skip
    refine kR ja (Nat.le_of_ble_eq_true rfl) ?_
    simp -implicitDefEqProofs only [cdA, go_sem, Go.Proofs.Tryz.f46, hck, cdN, reduceIte, reduceCtorEq, Nat.reduceEqDiff, Nat.reduceAdd, Nat.reduceLeDiff, Nat.reduceSub, Nat.reduceMul, Nat.reduceLT, Nat.reduceShiftRight, Nat.reduceMod, Int.reduceLE, Int.reduceLT, Int.reduceToNat, List.cons.injEq, cdB]
    skip
    refine kR ja (Nat.le_of_ble_eq_true rfl) ?_
    simp -implicitDefEqProofs only [cdA, go_sem, Go.Proofs.Tryz.f46, zT, cdN, reduceIte, reduceCtorEq, Nat.reduceEqDiff, Nat.reduceAdd, Nat.reduceLeDiff, Nat.reduceSub, Nat.reduceMul, Nat.reduceLT, Nat.reduceShiftRight, Nat.reduceMod, Int.reduceLE, Int.reduceLT, Int.reduceToNat, List.cons.injEq, cdB]
    refine kR ja (Nat.le_of_ble_eq_true rfl) ?_
    simp -implicitDefEqProofs only [cdA, go_sem, Go.Proofs.Tryz.f46, zT, cdN, reduceIte, reduceCtorEq, Nat.reduceEqDiff, Nat.reduceAdd, Nat.reduceLeDiff, Nat.reduceSub, Nat.reduceMul, Nat.reduceLT, Nat.reduceShiftRight, Nat.reduceMod, Int.reduceLE, Int.reduceLT, Int.reduceToNat, List.cons.injEq, cdB]
    refine yaU ja (Nat.le_of_ble_eq_true rfl) ?_
    simp -implicitDefEqProofs only [cdA, go_sem, Go.Proofs.Tryz.f50, zT, cdN, reduceIte, reduceCtorEq, Nat.reduceEqDiff, Nat.reduceAdd, Nat.reduceLeDiff, Nat.reduceSub, Nat.reduceMul, Nat.reduceLT, Nat.reduceShiftRight, Nat.reduceMod, Int.reduceLE, Int.reduceLT, Int.reduceToNat, List.cons.injEq, cdB]
    refine vW ja (Nat.le_of_ble_eq_true rfl) ?_
    simp -implicitDefEqProofs only [cdA, go_sem, Go.Proofs.Tryz.f53, zT, cdN, reduceIte, reduceCtorEq, Nat.reduceEqDiff, Nat.reduceAdd, Nat.reduceLeDiff, Nat.reduceSub, Nat.reduceMul, Nat.reduceLT, Nat.reduceShiftRight, Nat.reduceMod, Int.reduceLE, Int.reduceLT, Int.reduceToNat, List.cons.injEq, cdB]
    refine wF ja (Nat.le_of_ble_eq_true rfl) ?_
    simp -implicitDefEqProofs only [cdA, go_sem, Go.Proofs.Tryz.f56, reduceIte, reduceCtorEq, Nat.reduceEqDiff, Nat.reduceAdd, Nat.reduceLeDiff, Nat.reduceSub, Nat.reduceMul, Nat.reduceLT, Nat.reduceShiftRight, Nat.reduceMod, Int.reduceLE, Int.reduceLT, Int.reduceToNat, List.cons.injEq, cdB]
    refine vj ja (Nat.le_of_ble_eq_true rfl) ?_
    simp -implicitDefEqProofs only [cdA, go_sem, Go.Proofs.Tryz.f140, zT, cdN, reduceIte, reduceCtorEq, Nat.reduceEqDiff, Nat.reduceAdd, Nat.reduceLeDiff, Nat.reduceSub, Nat.reduceMul, Nat.reduceLT, Nat.reduceShiftRight, Nat.reduceMod, Int.reduceLE, Int.reduceLT, Int.reduceToNat, List.cons.injEq, cdB]
    refine js ja (Nat.le_of_ble_eq_true rfl) ?_
    simp -implicitDefEqProofs only [cdA, go_sem, Go.Proofs.Tryz.f47, zT, cdN, reduceIte, reduceCtorEq, Nat.reduceEqDiff, Nat.reduceAdd, Nat.reduceLeDiff, Nat.reduceSub, Nat.reduceMul, Nat.reduceLT, Nat.reduceShiftRight, Nat.reduceMod, Int.reduceLE, Int.reduceLT, Int.reduceToNat, List.cons.injEq, cdB]
    refine uc.run yf ja qa (by kernel_rfl) (by kernel_rfl) ?_
    simp -implicitDefEqProofs only [cdA, go_sem, zT, cdN, reduceIte, reduceCtorEq, Nat.reduceEqDiff, Nat.reduceAdd, Nat.reduceLeDiff, Nat.reduceSub, Nat.reduceMul, Nat.reduceLT, Nat.reduceShiftRight, Nat.reduceMod, Int.reduceLE, Int.reduceLT, Int.reduceToNat, List.cons.injEq, cdB]
    exact hbad _ (by rw [zaj, if_pos (.inr (.inl (by omega)))]) (by decide)
  have hmon : wS [n] = 0 ↔ n ≤ MM := van
  by_cases hm : wS [n] = 0
  rotate_left 1
  · skip
    refine kR ja (Nat.le_of_ble_eq_true rfl) ?_
    simp -implicitDefEqProofs only [cdA, go_sem, Go.Proofs.Tryz.f46, hck, hm, cdN, reduceIte, reduceCtorEq, Nat.reduceEqDiff, Nat.reduceAdd, Nat.reduceLeDiff, Nat.reduceSub, Nat.reduceMul, Nat.reduceLT, Nat.reduceShiftRight, Nat.reduceMod, Int.reduceLE, Int.reduceLT, Int.reduceToNat, List.cons.injEq, cdB]
    skip
    refine kR ja (Nat.le_of_ble_eq_true rfl) ?_
    simp -implicitDefEqProofs only [cdA, go_sem, Go.Proofs.Tryz.f46, zT, cdN, reduceIte, reduceCtorEq, Nat.reduceEqDiff, Nat.reduceAdd, Nat.reduceLeDiff, Nat.reduceSub, Nat.reduceMul, Nat.reduceLT, Nat.reduceShiftRight, Nat.reduceMod, Int.reduceLE, Int.reduceLT, Int.reduceToNat, List.cons.injEq, cdB]
    refine kR ja (Nat.le_of_ble_eq_true rfl) ?_
    simp -implicitDefEqProofs only [cdA, go_sem, Go.Proofs.Tryz.f46, zT, cdN, reduceIte, reduceCtorEq, Nat.reduceEqDiff, Nat.reduceAdd, Nat.reduceLeDiff, Nat.reduceSub, Nat.reduceMul, Nat.reduceLT, Nat.reduceShiftRight, Nat.reduceMod, Int.reduceLE, Int.reduceLT, Int.reduceToNat, List.cons.injEq, cdB]
    refine yaU ja (Nat.le_of_ble_eq_true rfl) ?_
    simp -implicitDefEqProofs only [cdA, go_sem, Go.Proofs.Tryz.f50, zT, cdN, reduceIte, reduceCtorEq, Nat.reduceEqDiff, Nat.reduceAdd, Nat.reduceLeDiff, Nat.reduceSub, Nat.reduceMul, Nat.reduceLT, Nat.reduceShiftRight, Nat.reduceMod, Int.reduceLE, Int.reduceLT, Int.reduceToNat, List.cons.injEq, cdB]
    refine vW ja (Nat.le_of_ble_eq_true rfl) ?_
    simp -implicitDefEqProofs only [cdA, go_sem, Go.Proofs.Tryz.f53, zT, cdN, reduceIte, reduceCtorEq, Nat.reduceEqDiff, Nat.reduceAdd, Nat.reduceLeDiff, Nat.reduceSub, Nat.reduceMul, Nat.reduceLT, Nat.reduceShiftRight, Nat.reduceMod, Int.reduceLE, Int.reduceLT, Int.reduceToNat, List.cons.injEq, cdB]
    refine wF ja (Nat.le_of_ble_eq_true rfl) ?_
    simp -implicitDefEqProofs only [cdA, go_sem, Go.Proofs.Tryz.f56, reduceIte, reduceCtorEq, Nat.reduceEqDiff, Nat.reduceAdd, Nat.reduceLeDiff, Nat.reduceSub, Nat.reduceMul, Nat.reduceLT, Nat.reduceShiftRight, Nat.reduceMod, Int.reduceLE, Int.reduceLT, Int.reduceToNat, List.cons.injEq, cdB]
    refine vj ja (Nat.le_of_ble_eq_true rfl) ?_
    simp -implicitDefEqProofs only [cdA, go_sem, Go.Proofs.Tryz.f140, zT, cdN, reduceIte, reduceCtorEq, Nat.reduceEqDiff, Nat.reduceAdd, Nat.reduceLeDiff, Nat.reduceSub, Nat.reduceMul, Nat.reduceLT, Nat.reduceShiftRight, Nat.reduceMod, Int.reduceLE, Int.reduceLT, Int.reduceToNat, List.cons.injEq, cdB]
    refine js ja (Nat.le_of_ble_eq_true rfl) ?_
    simp -implicitDefEqProofs only [cdA, go_sem, Go.Proofs.Tryz.f47, zT, cdN, reduceIte, reduceCtorEq, Nat.reduceEqDiff, Nat.reduceAdd, Nat.reduceLeDiff, Nat.reduceSub, Nat.reduceMul, Nat.reduceLT, Nat.reduceShiftRight, Nat.reduceMod, Int.reduceLE, Int.reduceLT, Int.reduceToNat, List.cons.injEq, cdB]
    refine uc.run yf ja qa (by kernel_rfl) (by kernel_rfl) ?_
    simp -implicitDefEqProofs only [cdA, go_sem, zT, cdN, reduceIte, reduceCtorEq, Nat.reduceEqDiff, Nat.reduceAdd, Nat.reduceLeDiff, Nat.reduceSub, Nat.reduceMul, Nat.reduceLT, Nat.reduceShiftRight, Nat.reduceMod, Int.reduceLE, Int.reduceLT, Int.reduceToNat, List.cons.injEq, cdB]
    exact hbad _ (by rw [zaj, if_pos (.inr (.inr fun h => hm (hmon.2 h)))]) (by decide)
  have hA : ¬ (¬ okW v ∨ n = 0 ∨ ¬ n ≤ MM) := by
    rintro (h | h | h)
    · exact h hok
    · omega
    · exact h (hmon.1 hm)
  refine kR ja (Nat.le_of_ble_eq_true rfl) ?_
  simp -implicitDefEqProofs only [cdA, go_sem, Go.Proofs.Tryz.f46, hck, hm, cdN, reduceIte, reduceCtorEq, Nat.reduceEqDiff, Nat.reduceAdd, Nat.reduceLeDiff, Nat.reduceSub, Nat.reduceMul, Nat.reduceLT, Nat.reduceShiftRight, Nat.reduceMod, Int.reduceLE, Int.reduceLT, Int.reduceToNat, List.cons.injEq, cdB]
  by_cases hfe : (yB v.c v.w n).2 = 0
  rotate_left 1
  · skip
    refine kR ja (Nat.le_of_ble_eq_true rfl) ?_
    simp -implicitDefEqProofs only [cdA, go_sem, Go.Proofs.Tryz.f46, hck, hfe, cdN, reduceIte, reduceCtorEq, Nat.reduceEqDiff, Nat.reduceAdd, Nat.reduceLeDiff, Nat.reduceSub, Nat.reduceMul, Nat.reduceLT, Nat.reduceShiftRight, Nat.reduceMod, Int.reduceLE, Int.reduceLT, Int.reduceToNat, List.cons.injEq, cdB]
    skip
    refine kR ja (Nat.le_of_ble_eq_true rfl) ?_
    simp -implicitDefEqProofs only [cdA, go_sem, Go.Proofs.Tryz.f46, gbC, cdN, reduceIte, reduceCtorEq, Nat.reduceEqDiff, Nat.reduceAdd, Nat.reduceLeDiff, Nat.reduceSub, Nat.reduceMul, Nat.reduceLT, Nat.reduceShiftRight, Nat.reduceMod, Int.reduceLE, Int.reduceLT, Int.reduceToNat, List.cons.injEq, cdB]
    refine yaU ja (Nat.le_of_ble_eq_true rfl) ?_
    simp -implicitDefEqProofs only [cdA, go_sem, Go.Proofs.Tryz.f50, gbC, cdN, reduceIte, reduceCtorEq, Nat.reduceEqDiff, Nat.reduceAdd, Nat.reduceLeDiff, Nat.reduceSub, Nat.reduceMul, Nat.reduceLT, Nat.reduceShiftRight, Nat.reduceMod, Int.reduceLE, Int.reduceLT, Int.reduceToNat, List.cons.injEq, cdB]
    refine vW ja (Nat.le_of_ble_eq_true rfl) ?_
    simp -implicitDefEqProofs only [cdA, go_sem, Go.Proofs.Tryz.f53, gbC, cdN, reduceIte, reduceCtorEq, Nat.reduceEqDiff, Nat.reduceAdd, Nat.reduceLeDiff, Nat.reduceSub, Nat.reduceMul, Nat.reduceLT, Nat.reduceShiftRight, Nat.reduceMod, Int.reduceLE, Int.reduceLT, Int.reduceToNat, List.cons.injEq, cdB]
    refine wF ja (Nat.le_of_ble_eq_true rfl) ?_
    simp -implicitDefEqProofs only [cdA, go_sem, Go.Proofs.Tryz.f56, reduceIte, reduceCtorEq, Nat.reduceEqDiff, Nat.reduceAdd, Nat.reduceLeDiff, Nat.reduceSub, Nat.reduceMul, Nat.reduceLT, Nat.reduceShiftRight, Nat.reduceMod, Int.reduceLE, Int.reduceLT, Int.reduceToNat, List.cons.injEq, cdB]
    refine vj ja (Nat.le_of_ble_eq_true rfl) ?_
    simp -implicitDefEqProofs only [cdA, go_sem, Go.Proofs.Tryz.f140, gbC, cdN, reduceIte, reduceCtorEq, Nat.reduceEqDiff, Nat.reduceAdd, Nat.reduceLeDiff, Nat.reduceSub, Nat.reduceMul, Nat.reduceLT, Nat.reduceShiftRight, Nat.reduceMod, Int.reduceLE, Int.reduceLT, Int.reduceToNat, List.cons.injEq, cdB]
    refine js ja (Nat.le_of_ble_eq_true rfl) ?_
    simp -implicitDefEqProofs only [cdA, go_sem, Go.Proofs.Tryz.f47, gbC, cdN, reduceIte, reduceCtorEq, Nat.reduceEqDiff, Nat.reduceAdd, Nat.reduceLeDiff, Nat.reduceSub, Nat.reduceMul, Nat.reduceLT, Nat.reduceShiftRight, Nat.reduceMod, Int.reduceLE, Int.reduceLT, Int.reduceToNat, List.cons.injEq, cdB]
    refine uc.run yf ja qa (by kernel_rfl) (by kernel_rfl) ?_
    simp -implicitDefEqProofs only [cdA, go_sem, gbC, cdN, reduceIte, reduceCtorEq, Nat.reduceEqDiff, Nat.reduceAdd, Nat.reduceLeDiff, Nat.reduceSub, Nat.reduceMul, Nat.reduceLT, Nat.reduceShiftRight, Nat.reduceMod, Int.reduceLE, Int.reduceLT, Int.reduceToNat, List.cons.injEq, cdB]
    exact hbad _ (by rw [zaj, if_neg hA, if_pos hfe]) (by decide)
  refine kR ja (Nat.le_of_ble_eq_true rfl) ?_
  simp -implicitDefEqProofs only [cdA, go_sem, Go.Proofs.Tryz.f46, hck, hfe, cdN, reduceIte, reduceCtorEq, Nat.reduceEqDiff, Nat.reduceAdd, Nat.reduceLeDiff, Nat.reduceSub, Nat.reduceMul, Nat.reduceLT, Nat.reduceShiftRight, Nat.reduceMod, Int.reduceLE, Int.reduceLT, Int.reduceToNat, List.cons.injEq, cdB]
  by_cases hnx : v.next = MM
  · have hnx' : ((v.next : Int) = 4611686018427387904) = True := eq_true (by unfold MM at hnx; omega)
    refine kR ja (Nat.le_of_ble_eq_true rfl) ?_
    simp -implicitDefEqProofs only [cdA, go_sem, Go.Proofs.Tryz.f46, hck, hnx', decide_false, cdN, reduceIte, reduceCtorEq, Nat.reduceEqDiff, Nat.reduceAdd, Nat.reduceLeDiff, Nat.reduceSub, Nat.reduceMul, Nat.reduceLT, Nat.reduceShiftRight, Nat.reduceMod, Int.reduceLE, Int.reduceLT, Int.reduceToNat, List.cons.injEq, cdB]
    skip
    refine yaU ja (Nat.le_of_ble_eq_true rfl) ?_
    simp -implicitDefEqProofs only [cdA, go_sem, Go.Proofs.Tryz.f50, qbT, cdN, reduceIte, reduceCtorEq, Nat.reduceEqDiff, Nat.reduceAdd, Nat.reduceLeDiff, Nat.reduceSub, Nat.reduceMul, Nat.reduceLT, Nat.reduceShiftRight, Nat.reduceMod, Int.reduceLE, Int.reduceLT, Int.reduceToNat, List.cons.injEq, cdB]
    refine vW ja (Nat.le_of_ble_eq_true rfl) ?_
    simp -implicitDefEqProofs only [cdA, go_sem, Go.Proofs.Tryz.f53, qbT, cdN, reduceIte, reduceCtorEq, Nat.reduceEqDiff, Nat.reduceAdd, Nat.reduceLeDiff, Nat.reduceSub, Nat.reduceMul, Nat.reduceLT, Nat.reduceShiftRight, Nat.reduceMod, Int.reduceLE, Int.reduceLT, Int.reduceToNat, List.cons.injEq, cdB]
    refine wF ja (Nat.le_of_ble_eq_true rfl) ?_
    simp -implicitDefEqProofs only [cdA, go_sem, Go.Proofs.Tryz.f56, reduceIte, reduceCtorEq, Nat.reduceEqDiff, Nat.reduceAdd, Nat.reduceLeDiff, Nat.reduceSub, Nat.reduceMul, Nat.reduceLT, Nat.reduceShiftRight, Nat.reduceMod, Int.reduceLE, Int.reduceLT, Int.reduceToNat, List.cons.injEq, cdB]
    refine vj ja (Nat.le_of_ble_eq_true rfl) ?_
    simp -implicitDefEqProofs only [cdA, go_sem, Go.Proofs.Tryz.f140, qbT, cdN, reduceIte, reduceCtorEq, Nat.reduceEqDiff, Nat.reduceAdd, Nat.reduceLeDiff, Nat.reduceSub, Nat.reduceMul, Nat.reduceLT, Nat.reduceShiftRight, Nat.reduceMod, Int.reduceLE, Int.reduceLT, Int.reduceToNat, List.cons.injEq, cdB]
    refine js ja (Nat.le_of_ble_eq_true rfl) ?_
    simp -implicitDefEqProofs only [cdA, go_sem, Go.Proofs.Tryz.f47, qbT, cdN, reduceIte, reduceCtorEq, Nat.reduceEqDiff, Nat.reduceAdd, Nat.reduceLeDiff, Nat.reduceSub, Nat.reduceMul, Nat.reduceLT, Nat.reduceShiftRight, Nat.reduceMod, Int.reduceLE, Int.reduceLT, Int.reduceToNat, List.cons.injEq, cdB]
    refine uc.run yf ja qa (by kernel_rfl) (by kernel_rfl) ?_
    simp -implicitDefEqProofs only [cdA, go_sem, qbT, cdN, reduceIte, reduceCtorEq, Nat.reduceEqDiff, Nat.reduceAdd, Nat.reduceLeDiff, Nat.reduceSub, Nat.reduceMul, Nat.reduceLT, Nat.reduceShiftRight, Nat.reduceMod, Int.reduceLE, Int.reduceLT, Int.reduceToNat, List.cons.injEq, cdB]
    exact hbad _ (by rw [zaj, if_neg hA, if_neg (fun h => h hfe), if_pos hnx]) (by decide)
  have hnx' : ((v.next : Int) = 4611686018427387904) = False := eq_false (by unfold MM at hnx; omega)
  refine kR ja (Nat.le_of_ble_eq_true rfl) ?_
  simp -implicitDefEqProofs only [cdA, go_sem, Go.Proofs.Tryz.f46, hck, hnx', decide_true, cdN, reduceIte, reduceCtorEq, Nat.reduceEqDiff, Nat.reduceAdd, Nat.reduceLeDiff, Nat.reduceSub, Nat.reduceMul, Nat.reduceLT, Nat.reduceShiftRight, Nat.reduceMod, Int.reduceLE, Int.reduceLT, Int.reduceToNat, List.cons.injEq, cdB]
  refine yaU ja (Nat.le_of_ble_eq_true rfl) ?_
  simp -implicitDefEqProofs only [cdA, go_sem, Go.Proofs.Tryz.f50, hck, cdN, reduceIte, reduceCtorEq, Nat.reduceEqDiff, Nat.reduceAdd, Nat.reduceLeDiff, Nat.reduceSub, Nat.reduceMul, Nat.reduceLT, Nat.reduceShiftRight, Nat.reduceMod, Int.reduceLE, Int.reduceLT, Int.reduceToNat, List.cons.injEq, cdB]
  refine xdm ja (Nat.le_of_ble_eq_true rfl) ?_
  simp -implicitDefEqProofs only [cdA, go_sem, Go.Proofs.Tryz.f51, reduceIte, reduceCtorEq, Nat.reduceEqDiff, Nat.reduceAdd, Nat.reduceLeDiff, Nat.reduceSub, Nat.reduceMul, Nat.reduceLT, Nat.reduceShiftRight, Nat.reduceMod, Int.reduceLE, Int.reduceLT, Int.reduceToNat, List.cons.injEq, cdB]
  have eP : bt v.p ⟨v.next, hash, (yB v.c v.w n).1, n, 1⟩ = qa1 v hash n := rfl
  rw [eP]
  refine ⟨fun hst => ?_, fun hst => ?_⟩
  rotate_left 1
  · skip
    refine vW ja (Nat.le_of_ble_eq_true rfl) ?_
    simp -implicitDefEqProofs only [cdA, go_sem, Go.Proofs.Tryz.f53, hst, cdN, reduceIte, reduceCtorEq, Nat.reduceEqDiff, Nat.reduceAdd, Nat.reduceLeDiff, Nat.reduceSub, Nat.reduceMul, Nat.reduceLT, Nat.reduceShiftRight, Nat.reduceMod, Int.reduceLE, Int.reduceLT, Int.reduceToNat, List.cons.injEq, cdB]
    refine wF ja (Nat.le_of_ble_eq_true rfl) ?_
    simp -implicitDefEqProofs only [cdA, go_sem, Go.Proofs.Tryz.f56, reduceIte, reduceCtorEq, Nat.reduceEqDiff, Nat.reduceAdd, Nat.reduceLeDiff, Nat.reduceSub, Nat.reduceMul, Nat.reduceLT, Nat.reduceShiftRight, Nat.reduceMod, Int.reduceLE, Int.reduceLT, Int.reduceToNat, List.cons.injEq, cdB]
    refine vj ja (Nat.le_of_ble_eq_true rfl) ?_
    simp -implicitDefEqProofs only [cdA, go_sem, Go.Proofs.Tryz.f140, hst, cdN, reduceIte, reduceCtorEq, Nat.reduceEqDiff, Nat.reduceAdd, Nat.reduceLeDiff, Nat.reduceSub, Nat.reduceMul, Nat.reduceLT, Nat.reduceShiftRight, Nat.reduceMod, Int.reduceLE, Int.reduceLT, Int.reduceToNat, List.cons.injEq, cdB]
    refine js ja (Nat.le_of_ble_eq_true rfl) ?_
    simp -implicitDefEqProofs only [cdA, go_sem, Go.Proofs.Tryz.f47, hst, cdN, reduceIte, reduceCtorEq, Nat.reduceEqDiff, Nat.reduceAdd, Nat.reduceLeDiff, Nat.reduceSub, Nat.reduceMul, Nat.reduceLT, Nat.reduceShiftRight, Nat.reduceMod, Int.reduceLE, Int.reduceLT, Int.reduceToNat, List.cons.injEq, cdB]
    refine uc.run yf ja qa (by kernel_rfl) (by kernel_rfl) ?_
    simp -implicitDefEqProofs only [cdA, go_sem, hst, cdN, reduceIte, reduceCtorEq, Nat.reduceEqDiff, Nat.reduceAdd, Nat.reduceLeDiff, Nat.reduceSub, Nat.reduceMul, Nat.reduceLT, Nat.reduceShiftRight, Nat.reduceMod, Int.reduceLE, Int.reduceLT, Int.reduceToNat, List.cons.injEq, cdB]
    exact hbad _ (by rw [zaj, if_neg hA, if_neg (fun h => h hfe), if_neg hnx, if_pos hst]) hst
  refine vW ja (Nat.le_of_ble_eq_true rfl) ?_
  simp -implicitDefEqProofs only [cdA, go_sem, Go.Proofs.Tryz.f53, hck, cdN, reduceIte, reduceCtorEq, Nat.reduceEqDiff, Nat.reduceAdd, Nat.reduceLeDiff, Nat.reduceSub, Nat.reduceMul, Nat.reduceLT, Nat.reduceShiftRight, Nat.reduceMod, Int.reduceLE, Int.reduceLT, Int.reduceToNat, List.cons.injEq, cdB]
  refine wdc ja (Nat.le_of_ble_eq_true rfl) ?_
  simp -implicitDefEqProofs only [cdA, go_sem, Go.Proofs.Tryz.f54, reduceIte, reduceCtorEq, Nat.reduceEqDiff, Nat.reduceAdd, Nat.reduceLeDiff, Nat.reduceSub, Nat.reduceMul, Nat.reduceLT, Nat.reduceShiftRight, Nat.reduceMod, Int.reduceLE, Int.reduceLT, Int.reduceToNat, List.cons.injEq, cdB]
  have eC : jm v.c (yB v.c v.w n).1 v.next n = jaY v n := rfl
  rw [eC]
  refine ⟨fun hho => ?_, fun hho => ?_⟩
  rotate_left 1
  · skip
    refine wF ja (Nat.le_of_ble_eq_true rfl) ?_
    simp -implicitDefEqProofs only [cdA, go_sem, Go.Proofs.Tryz.f56, reduceIte, reduceCtorEq, Nat.reduceEqDiff, Nat.reduceAdd, Nat.reduceLeDiff, Nat.reduceSub, Nat.reduceMul, Nat.reduceLT, Nat.reduceShiftRight, Nat.reduceMod, Int.reduceLE, Int.reduceLT, Int.reduceToNat, List.cons.injEq, cdB]
    refine vj ja (Nat.le_of_ble_eq_true rfl) ?_
    simp -implicitDefEqProofs only [cdA, go_sem, Go.Proofs.Tryz.f140, hho, cdN, reduceIte, reduceCtorEq, Nat.reduceEqDiff, Nat.reduceAdd, Nat.reduceLeDiff, Nat.reduceSub, Nat.reduceMul, Nat.reduceLT, Nat.reduceShiftRight, Nat.reduceMod, Int.reduceLE, Int.reduceLT, Int.reduceToNat, List.cons.injEq, cdB]
    refine js ja (Nat.le_of_ble_eq_true rfl) ?_
    simp -implicitDefEqProofs only [cdA, go_sem, Go.Proofs.Tryz.f47, hho, cdN, reduceIte, reduceCtorEq, Nat.reduceEqDiff, Nat.reduceAdd, Nat.reduceLeDiff, Nat.reduceSub, Nat.reduceMul, Nat.reduceLT, Nat.reduceShiftRight, Nat.reduceMod, Int.reduceLE, Int.reduceLT, Int.reduceToNat, List.cons.injEq, cdB]
    refine uc.run yf ja qa (by kernel_rfl) (by kernel_rfl) ?_
    simp -implicitDefEqProofs only [cdA, go_sem, hho, cdN, reduceIte, reduceCtorEq, Nat.reduceEqDiff, Nat.reduceAdd, Nat.reduceLeDiff, Nat.reduceSub, Nat.reduceMul, Nat.reduceLT, Nat.reduceShiftRight, Nat.reduceMod, Int.reduceLE, Int.reduceLT, Int.reduceToNat, List.cons.injEq, cdB]
    exact hbad _ (by rw [zaj, if_neg hA, if_neg (fun h => h hfe), if_neg hnx, if_neg (fun h => h hst), if_pos hho]) hho
  refine wF ja (Nat.le_of_ble_eq_true rfl) ?_
  simp -implicitDefEqProofs only [cdA, go_sem, Go.Proofs.Tryz.f56, reduceIte, reduceCtorEq, Nat.reduceEqDiff, Nat.reduceAdd, Nat.reduceLeDiff, Nat.reduceSub, Nat.reduceMul, Nat.reduceLT, Nat.reduceShiftRight, Nat.reduceMod, Int.reduceLE, Int.reduceLT, Int.reduceToNat, List.cons.injEq, cdB]
  refine vj ja (Nat.le_of_ble_eq_true rfl) ?_
  simp -implicitDefEqProofs only [cdA, go_sem, Go.Proofs.Tryz.f140, hck, cdN, reduceIte, reduceCtorEq, Nat.reduceEqDiff, Nat.reduceAdd, Nat.reduceLeDiff, Nat.reduceSub, Nat.reduceMul, Nat.reduceLT, Nat.reduceShiftRight, Nat.reduceMod, Int.reduceLE, Int.reduceLT, Int.reduceToNat, List.cons.injEq, cdB]
  refine qan ja (Nat.le_of_ble_eq_true rfl) ?_
  simp -implicitDefEqProofs only [cdA, go_sem, Go.Proofs.Tryz.f141, reduceIte, reduceCtorEq, Nat.reduceEqDiff, Nat.reduceAdd, Nat.reduceLeDiff, Nat.reduceSub, Nat.reduceMul, Nat.reduceLT, Nat.reduceShiftRight, Nat.reduceMod, Int.reduceLE, Int.reduceLT, Int.reduceToNat, List.cons.injEq, cdB]
  have eF : vm v.f 0 v.next n = jbf v n := rfl
  have hv := hok.2.2.2.2.2.1
  unfold MM at hv
  rw [eF, show IntKind.u64.wrap ((v.next : Int) + 1) = ((v.next + 1 : Nat) : Int) by rw [u64_in _ (by omega)]; omega]
  refine ⟨h, fun hfd => ?_, fun hfd => ?_⟩
  rotate_left 1
  · skip
    refine js ja (Nat.le_of_ble_eq_true rfl) ?_
    simp -implicitDefEqProofs only [cdA, go_sem, Go.Proofs.Tryz.f47, hfd, cdN, reduceIte, reduceCtorEq, Nat.reduceEqDiff, Nat.reduceAdd, Nat.reduceLeDiff, Nat.reduceSub, Nat.reduceMul, Nat.reduceLT, Nat.reduceShiftRight, Nat.reduceMod, Int.reduceLE, Int.reduceLT, Int.reduceToNat, List.cons.injEq, cdB]
    refine uc.run yf ja qa (by kernel_rfl) (by kernel_rfl) ?_
    simp -implicitDefEqProofs only [cdA, go_sem, hfd, cdN, reduceIte, reduceCtorEq, Nat.reduceEqDiff, Nat.reduceAdd, Nat.reduceLeDiff, Nat.reduceSub, Nat.reduceMul, Nat.reduceLT, Nat.reduceShiftRight, Nat.reduceMod, Int.reduceLE, Int.reduceLT, Int.reduceToNat, List.cons.injEq, cdB]
    exact hbad _ (by rw [zaj, if_neg hA, if_neg (fun h => h hfe), if_neg hnx, if_neg (fun h => h hst), if_neg (fun h => h hho)]) hfd
  have hsm : qv ⟨(jaY v n).1, v.w, v.i, (qa1 v hash n).1, (jbf v n).1, v.next + 1, v.tick⟩ := by
    have h1 := xaD hho
    have h2 := qo hok
    have h3 := zaM (l := v.p) (p := ⟨v.next, hash, (yB v.c v.w n).1, n, 1⟩)
    have h4 := qz (f := v.f) (k := 0) (a := v.next) (n := n)
    refine ⟨by have := h1.1; show (jaY v n).1.length ≤ _; unfold jaY; omega, fun c hc => by have := (h1.2.1 c hc).2.2.1; omega, h2.2.2.1, h2.2.2.2.1, by show (qa1 v hash n).1.length ≤ _; unfold qa1; omega, by show (jbf v n).1.l.length ≤ _; unfold jbf; omega⟩
  have hfin : gz v hash n = (⟨(jaY v n).1, v.w, v.i, (qa1 v hash n).1, (jbf v n).1, v.next + 1, v.tick⟩, v.next, 0) := by
    have : zaj v hash n = 0 := by rw [zaj, if_neg hA, if_neg (fun h => h hfe), if_neg hnx, if_neg (fun h => h hst), if_neg (fun h => h hho)]; exact hfd
    rw [gz, if_pos this]
  have en : ((v.next : Int) + 1).toNat = v.next + 1 := by omega
  have en2 : ((v.next : Int) + 1 = ((v.next + 1 : Nat) : Int)) = True := eq_true (by omega)
  refine js ja (Nat.le_of_ble_eq_true rfl) ?_
  simp -implicitDefEqProofs only [cdA, go_sem, Go.Proofs.Tryz.f47, hck, en, en2, eq_true hsm, cdN, reduceIte, reduceCtorEq, Nat.reduceEqDiff, Nat.reduceAdd, Nat.reduceLeDiff, Nat.reduceSub, Nat.reduceMul, Nat.reduceLT, Nat.reduceShiftRight, Nat.reduceMod, Int.reduceLE, Int.reduceLT, Int.reduceToNat, List.cons.injEq, cdB]
  refine uc.run wbm ja qa (by kernel_rfl) (by kernel_rfl) ?_
  simp -implicitDefEqProofs only [cdA, go_sem, reduceIte, reduceCtorEq, Nat.reduceEqDiff, Nat.reduceAdd, Nat.reduceLeDiff, Nat.reduceSub, Nat.reduceMul, Nat.reduceLT, Nat.reduceShiftRight, Nat.reduceMod, Int.reduceLE, Int.reduceLT, Int.reduceToNat, List.cons.injEq, cdB]
  rw [hfin]
  exact ⟨⟨rfl, rfl, rfl, rfl, rfl, rfl, by dsimp only; omega, rfl⟩, rfl, rfl⟩
@[go_sem] def ubd (v : Wl) (hash : Nat) (n : Nat) : Prop := (v.f.next ≤ 18446744073709551615)
def xU : List D → Option (Prop × D × Fr)
  | [.agg [.c (.sl z324), .c (.sl z325), .c (.sl z326), .c (.sl z327), .c (.int .u64 z329), .c (.sl z330), .c (.int .u64 z331), .c (.int .u64 z332)], .c (.int .u64 z333), .c (.int .u64 z334)] => some (z324 = chs (xh z324) ∧ z325 = wts (jj z325) ∧ z326 = ivs (wj z326) ∧ z327 = pys (gj z327) ∧ z329 = (z329.toNat : Int) ∧ z330 = evs (uk z330) ∧ z331 = (z331.toNat : Int) ∧ z332 = (z332.toNat : Int) ∧ z333 = (z333.toNat : Int) ∧ z334 = (z334.toNat : Int) ∧ ubd (⟨(xh z324), (jj z325), (wj z326), (gj z327), (⟨z329.toNat, (uk z330)⟩ : Fd), z331.toNat, z332.toNat⟩ : Wl) z333.toNat z334.toNat, yba (⟨(xh z324), (jj z325), (wj z326), (gj z327), (⟨z329.toNat, (uk z330)⟩ : Fd), z331.toNat, z332.toNat⟩ : Wl) z333.toNat z334.toNat, [])
  | _ => none
attribute [go_sem] xU
theorem bZ : ∀ rs p r fr, xU rs = some (p, r, fr) → p → zg Tryz.prog 13 rs r fr := by
  intro rs p r fr h hp
  unfold xU at h
  split at h <;> cases h
  obtain ⟨hc0, hc1, hc2, hc3, hc4, hc5, hc6, hc7, hc8, hc9, hp⟩ := hp
  rename_i z324 z325 z326 z327 z329 z330 z331 z332 z333 z334
  obtain ⟨z324, rfl⟩ : ∃ m, z324 = chs m := ⟨_, hc0⟩
  obtain ⟨z325, rfl⟩ : ∃ m, z325 = wts m := ⟨_, hc1⟩
  obtain ⟨z326, rfl⟩ : ∃ m, z326 = ivs m := ⟨_, hc2⟩
  obtain ⟨z327, rfl⟩ : ∃ m, z327 = pys m := ⟨_, hc3⟩
  obtain ⟨z329, rfl⟩ : ∃ m : Nat, z329 = m := ⟨_, hc4⟩
  obtain ⟨z330, rfl⟩ : ∃ m, z330 = evs m := ⟨_, hc5⟩
  obtain ⟨z331, rfl⟩ : ∃ m : Nat, z331 = m := ⟨_, hc6⟩
  obtain ⟨z332, rfl⟩ : ∃ m : Nat, z332 = m := ⟨_, hc7⟩
  obtain ⟨z333, rfl⟩ : ∃ m : Nat, z333 = m := ⟨_, hc8⟩
  obtain ⟨z334, rfl⟩ : ∃ m : Nat, z334 = m := ⟨_, hc9⟩
  simp only [Int.toNat_natCast, xb, vb, qc, jc, qd]
  simp only [Int.toNat_natCast, xb, vb, qc, jc, qd, ubd] at hp
  exact qbm ⟨z324, z325, z326, z327, ⟨z329, z330⟩, z331, z332⟩ z333 z334 hp
end Dm
namespace Dm
open Go Go.Proofs Go.IntWalk
theorem bG {f : Fd} {k : Int} {a n : Nat} (h : (vm f k a n).2.2 = 0) : kaH (vm f k a n).1 := by
  unfold vm at h ⊢
  split at h
  rotate_left 1
  · cases h
  rename_i h1
  obtain ⟨⟨o1, o2, o3, o4⟩, hk⟩ := h1
  split at h
  · cases h
  rename_i h2
  rw [if_pos ⟨⟨o1, o2, o3, o4⟩, hk⟩, if_neg h2]
  have h5 := (qJ f.next f.l).1 o4
  have hlen : ((f.l ++ [(⟨f.next, k, a, n⟩ : Ev)]).drop (f.l.length + 1 - 64)).length = min f.next 64 := by
    rw [List.length_drop, List.length_append, List.length_singleton]; omega
  refine ⟨by dsimp only; omega, by dsimp only; unfold MM at *; omega, by dsimp only; rw [hlen]; omega, ?_⟩
  dsimp only
  rw [qJ]
  intro i hi
  have e : ((f.l ++ [(⟨f.next, k, a, n⟩ : Ev)]).drop (f.l.length + 1 - 64)).getD i default = (f.l ++ [(⟨f.next, k, a, n⟩ : Ev)]).getD (f.l.length + 1 - 64 + i) default := by
    rw [List.getD_eq_getElem?_getD, List.getElem?_drop, ← List.getD_eq_getElem?_getD]
  rw [e]
  rw [hlen] at hi ⊢
  by_cases hj : f.l.length + 1 - 64 + i < f.l.length
  · rw [List.getD_eq_getElem?_getD, List.getElem?_append_left hj, ← List.getD_eq_getElem?_getD]
    have := h5 _ hj
    refine ⟨?_, this.2⟩
    rw [this.1]; omega
  · rw [List.getD_eq_getElem?_getD, List.getElem?_append_right (by omega), show f.l.length + 1 - 64 + i - f.l.length = 0 by omega]
    refine ⟨?_, hk⟩
    show ((f.next : Nat) : Int) = _
    omega
theorem jar {l : List Py} (h : yL l) : Srt.Up Py.id ltN l := (Srt.jg (lt := ltN) Srt.qf).1 h.2.2
theorem xbx {l : List Py} {k : Nat} (hu : Srt.Up Py.id ltN l) (h : 0 < l.length → (l.getD (l.length - 1) default).id < k) : ∀ x ∈ l, x.id < k := fun x hx => by
  obtain ⟨i, hi, rfl⟩ := jb.1 hx
  by_cases hl : i = l.length - 1
  · rw [hl]; exact h (by omega)
  · have := Srt.kj.1 hu i (l.length - 1) (by omega) (by omega)
    have h2 := h (by omega)
    simp only [ltN] at this; omega
theorem vbr {l : List Ch} {p : Nat} {d : Ch} {x : Hd} (hp : p < l.length) (hi : d.id = (l.getD p default).id) (hd : d.holds.Perm (x :: (l.getD p default).holds)) : (hlL (l.set p d)).Perm ((d.id, x.id, x.n) :: hlL l) := by
  conv => rhs; rw [jI hp]
  rw [yD hp]
  simp only [hlL, List.flatMap_append, List.flatMap_cons]
  have h1 : (hlC d).Perm ((d.id, x.id, x.n) :: hlC (l.getD p default)) := by
    unfold hlC
    rw [← hi]
    exact hd.map fun h => (d.id, h.id, h.n)
  refine (List.Perm.append_left _ (h1.append_right _)).trans ?_
  exact List.perm_middle
def jbC (c : Ch) : Nat := if c.op = true then c.loc else 0
def xad (l : List Ch) : Nat := (l.map jbC).sum
def bz (l : List Ch) : Nat := (l.map fun c => held c.holds).sum
theorem kr {p : List Py} {c : List Ch} : uY p c = (true, 0) ↔ yL p ∧ c.length ≤ 32 ∧ (c.map Ch.id).Nodup ∧ (∀ q ∈ wL p, (q.chan, q.id, q.n) ∈ hlL c) ∧ (hlL c).length = (wL p).length := by
  unfold uY
  split
  · rename_i h
    rw [Prod.mk.injEq]
    refine ⟨fun h1 => ⟨h.1, h.2.1, h.2.2, of_decide_eq_true h1.1⟩, fun h1 => ⟨decide_eq_true h1.2.2.2, rfl⟩⟩
  · rename_i h
    refine ⟨fun h1 => (by cases h1), fun h1 => absurd ⟨h1.1, h1.2.1, h1.2.2.1⟩ h⟩
theorem jab {l : List Ch} (h : ym l) : (l.map Ch.id).Nodup := by
  have h1 := (Srt.jg (lt := ltN) Srt.qf).1 h.2.2.1
  unfold Srt.Up at h1
  rw [List.Nodup, List.pairwise_map]
  exact h1.imp fun hlt he => by simp only [ltN] at hlt; omega
theorem zbL {v : Wl} {hash n : Nat} (h : zaj v hash n = 0) : okW v ∧ n ≠ 0 ∧ n ≤ MM ∧ (yB v.c v.w n).2 = 0 ∧ v.next ≠ MM ∧ (qa1 v hash n).2 = 0 ∧ (jaY v n).2 = 0 ∧ (jbf v n).2.2 = 0 := by
  unfold zaj at h
  split at h
  · cases h
  rename_i h1
  split at h
  · cases h
  rename_i h2
  split at h
  · cases h
  rename_i h3
  split at h
  · rename_i h4; exact absurd h h4
  rename_i h4
  split at h
  · rename_i h5; exact absurd h h5
  rename_i h5
  refine ⟨Decidable.byContradiction fun h => h1 (.inl h), fun h => h1 (.inr (.inl h)), Decidable.byContradiction fun h => h1 (.inr (.inr h)), Decidable.byContradiction h2, h3, Decidable.byContradiction h4, Decidable.byContradiction h5, h⟩
theorem gbb {v : Wl} {hash n : Nat} : (gz v hash n).2.2 = zaj v hash n := by
  unfold gz
  split
  · rename_i h; exact h.symm
  · rfl
theorem vbl {w : Wl} (h : okW w) : ∀ x ∈ w.p, x.id < w.next := by
  have h1 := (kr.1 h.2.2.2.2.2.2.2).1
  exact xbx (jar h1) h.2.2.2.2.2.2.1
end Dm
namespace Dm
open Go Go.Proofs Go.IntWalk
@[go_sem] def qaR (c : Ch) : D := .tup [.int .u64 ((xg c).1 : Int), .int .i64 (xg c).2.2]
@[go_sem] abbrev wcQ : FuncId := 118
@[go_sem] def yby : Tab := [(203, jt)]
theorem qaE : ya Tryz.prog yby := (ya.cons jr ya.nil)
set_option maxRecDepth 8000 in
set_option maxHeartbeats 1000000 in
theorem ya9 (c : Ch)  : yb Tryz.prog 118 [.agg [.c (.int .u64 (c.id : Int)), .c (.int .u64 (c.loc : Int)), .c (.int .u64 (c.rem : Int)), .c (.int .u64 (c.res : Int)), .c (.int .u64 (c.most : Int)), .sl (hds c.holds), .c (.bool c.op)]] (qaR c) := by
  refine .of (vcJ qaE (Nat.le_of_ble_eq_true rfl) ?_)
  simp -implicitDefEqProofs only [cdA, go_sem, Go.Proofs.Tryz.f118, reduceIte, reduceCtorEq, Nat.reduceEqDiff, Nat.reduceAdd, Nat.reduceLeDiff, Nat.reduceSub, Nat.reduceMul, Nat.reduceLT, Nat.reduceShiftRight, Nat.reduceMod, Int.reduceLE, Int.reduceLT, Int.reduceToNat, List.cons.injEq, cdB]
def yR : List D → Option (Prop × D × Fr)
  | [.agg [.c (.int .u64 z371), .c (.int .u64 z372), .c (.int .u64 z373), .c (.int .u64 z374), .c (.int .u64 z375), .c (.sl z376), .c (.bool z377)]] => some (z371 = (z371.toNat : Int) ∧ z372 = (z372.toNat : Int) ∧ z373 = (z373.toNat : Int) ∧ z374 = (z374.toNat : Int) ∧ z375 = (z375.toNat : Int) ∧ z376 = hds (um z376), qaR (⟨z371.toNat, z372.toNat, z373.toNat, z374.toNat, z375.toNat, (um z376), z377⟩ : Ch), [])
  | _ => none
attribute [go_sem] yR
theorem gas : ∀ rs p r fr, yR rs = some (p, r, fr) → p → zg Tryz.prog 118 rs r fr := by
  intro rs p r fr h hp
  unfold yR at h
  split at h <;> cases h
  obtain ⟨hc0, hc1, hc2, hc3, hc4, hc5⟩ := hp
  rename_i z371 z372 z373 z374 z375 z376 z377
  obtain ⟨z371, rfl⟩ : ∃ m : Nat, z371 = m := ⟨_, hc0⟩
  obtain ⟨z372, rfl⟩ : ∃ m : Nat, z372 = m := ⟨_, hc1⟩
  obtain ⟨z373, rfl⟩ : ∃ m : Nat, z373 = m := ⟨_, hc2⟩
  obtain ⟨z374, rfl⟩ : ∃ m : Nat, z374 = m := ⟨_, hc3⟩
  obtain ⟨z375, rfl⟩ : ∃ m : Nat, z375 = m := ⟨_, hc4⟩
  obtain ⟨z376, rfl⟩ : ∃ m, z376 = hds m := ⟨_, hc5⟩
  simp only [Int.toNat_natCast, ze]
  exact ya9 ⟨z371, z372, z373, z374, z375, z376, z377⟩
def qak (l : List Ch) : Nat × Nat × Int := if ym l then (xad l, bz l, 0) else (0, 0, 1)
theorem xbc : ∀ {l : List Ch}, (∀ c ∈ l, yl c) → xad l + bz l ≤ yP l
  | [], _ => Nat.le_refl 0
  | c :: l, h => by
    have h1 := xbc (l := l) fun d hd => h d (.tail _ hd)
    have h2 := h c (.head _)
    have e1 : xad (c :: l) = jbC c + xad l := by simp [xad]
    have e2 : bz (c :: l) = held c.holds + bz l := by simp [bz]
    have e3 : yP (c :: l) = (held c.holds + c.loc + c.rem) + yP l := by
      simp only [yP, List.map_cons, List.sum_cons]
      rw [qR, xg, if_pos h2]
    have h4 : jbC c ≤ c.loc := by unfold jbC; split <;> omega
    omega
theorem ga5 {l : List Ch} {i : Nat} (h : i < l.length) : xad (l.take (i + 1)) = xad (l.take i) + jbC (l.getD i default) ∧ bz (l.take (i + 1)) = bz (l.take i) + held (l.getD i default).holds := by
  rw [take_succ h, xad, bz, List.map_append, List.sum_append, List.map_append, List.sum_append]; simp [xad, bz]
theorem ua0 {l : List Ch} {i : Nat} : xad (l.take i) ≤ xad l ∧ bz (l.take i) ≤ bz l := by
  have e1 : xad l = xad (l.take i) + xad (l.drop i) := by
    conv => lhs; rw [← List.take_append_drop i l]
    rw [xad, List.map_append, List.sum_append]; rfl
  have e2 : bz l = bz (l.take i) + bz (l.drop i) := by
    conv => lhs; rw [← List.take_append_drop i l]
    rw [bz, List.map_append, List.sum_append]; rfl
  omega
@[go_sem] def wba (l : List Ch) : D := .tup [.int .u64 ((qak l).1 : Int), .int .u64 ((qak l).2.1 : Int), .int .i64 (qak l).2.2]
@[go_sem] abbrev gcW : FuncId := 43
@[go_sem] def kbY : Tab := [(102, uo), (118, yR)]
theorem gak : ya Tryz.prog kbY := (ya.cons vo (ya.cons gas ya.nil))
set_option maxRecDepth 8000 in
set_option maxHeartbeats 1000000 in
theorem wbh (l : List Ch)  : yb Tryz.prog 43 [.sl (chs l)] (wba l) := by
  refine .of (xde gak (Nat.le_of_ble_eq_true rfl) ?_)
  simp -implicitDefEqProofs only [cdA, go_sem, Go.Proofs.Tryz.f43, reduceIte, reduceCtorEq, Nat.reduceEqDiff, Nat.reduceAdd, Nat.reduceLeDiff, Nat.reduceSub, Nat.reduceMul, Nat.reduceLT, Nat.reduceShiftRight, Nat.reduceMod, Int.reduceLE, Int.reduceLT, Int.reduceToNat, List.cons.injEq, cdB]
  have hl0 : u9 l = 0 ↔ ym l := by unfold u9; split <;> rename_i h <;> simp only [h] <;> decide
  refine ⟨fun h0 hl => ?_, fun h0 => by
    have hno : ¬ ym l := fun h => h0 (hl0.2 h)
    rw [qak, u9, if_neg hno, if_neg hno]; exact ⟨rfl, rfl, rfl⟩⟩
  have hok := hl0.1 h0
  have hle := xbc hok.2.1
  have htl := hok.2.2.2.2
  have e : qak l = (xad l, bz l, 0) := by rw [qak, if_pos hok]
  rw [e]
  refine SWp.loop (ι := { i : Nat // i ≤ l.length }) (fun i => ⟨[(2, .int .u64 (xad (l.take i.1) : Nat)), (3, .int .u64 (bz (l.take i.1) : Nat)), (14, .sl (chs l)), (15, .int .i64 l.length), (16, .int .i64 i.1)], [], 0⟩) (fun i => l.length - i.1) ⟨0, by omega⟩ ?_ ?_
  · simp [go_sem, xad, bz]
  · rintro ⟨i, hi⟩
    refine qb gak.toS ycB _ _ _ rfl ?_
    simp -implicitDefEqProofs only [cdA, go_sem, reduceIte, reduceCtorEq, Nat.reduceEqDiff, Nat.reduceAdd, Nat.reduceLeDiff, Nat.reduceSub, Nat.reduceMul, Nat.reduceLT, Nat.reduceShiftRight, Nat.reduceMod, Int.reduceLE, Int.reduceLT, Int.reduceToNat, List.cons.injEq, cdB]
    refine ⟨fun h1 => ⟨by omega, ?_⟩, fun h1 => ?_⟩
    · have hi' : i < l.length := by omega
      obtain ⟨s1, s2⟩ := ga5 hi'
      obtain ⟨t1, t2⟩ := ua0 (l := l) (i := i + 1)
      have hc := hok.2.1 _ (jb.2 ⟨i, hi', rfl⟩)
      have e1 : (xg (l.getD i default)).1 = held (l.getD i default).holds := by rw [xg, if_pos hc]
      have hs := gG.2 hc
      unfold MM jbC at *
      rw [e1, hs]
      refine ⟨fun _ => ⟨fun h2 => ?_, fun h2 => ?_⟩, fun h => absurd rfl h⟩
      · rw [if_pos h2] at s1
        exact ⟨⟨i + 1, hi'⟩, by dsimp only; omega, by rw [u64_in _ (by omega)]; dsimp only; omega, by rw [u64_in _ (by omega)]; dsimp only; omega, i64_in _ (by omega)⟩
      · rw [if_neg (by rw [h2]; decide)] at s1
        exact ⟨⟨i + 1, hi'⟩, by dsimp only; omega, by dsimp only; omega, by rw [u64_in _ (by omega)]; dsimp only; omega, i64_in _ (by omega)⟩
    · have hi' : i = l.length := by omega
      subst hi'
      rw [List.take_length]; exact ⟨rfl, rfl⟩
def yaa : List D → Option (Prop × D × Fr)
  | [.c (.sl z378)] => some (z378 = chs (xh z378), wba (xh z378), [])
  | _ => none
attribute [go_sem] yaa
theorem jaE : ∀ rs p r fr, yaa rs = some (p, r, fr) → p → zg Tryz.prog 43 rs r fr := by
  intro rs p r fr h hp
  unfold yaa at h
  split at h <;> cases h
  have hc0 := hp
  rename_i z378
  obtain ⟨z378, rfl⟩ : ∃ m, z378 = chs m := ⟨_, hc0⟩
  simp only [xb]
  exact wbh z378
end Dm
