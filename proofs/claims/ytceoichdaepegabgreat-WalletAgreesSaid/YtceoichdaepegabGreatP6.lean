import Derived.Test.YtceoichdaepegabGreatP5
import Derived.Ground.SlsfProg
set_option linter.unusedSimpArgs false
set_option linter.unusedVariables false
set_option linter.unusedSectionVars false
namespace Dm
open Go Go.Proofs Go.IntWalk
structure Ev where
  seq : Nat
  kind : Int
  a : Nat
  n : Nat
deriving DecidableEq, Inhabited
@[go_sem] def Ev.enc (e : Ev) : List C := [.int .u64 (e.seq : Int), .int .i64 e.kind, .int .u64 (e.a : Int), .int .u64 (e.n : Int)]
def Ev.dec : List C → Ev
  | [.int .u64 z186, .int .i64 z187, .int .u64 z188, .int .u64 z189] => (⟨z186.toNat, z187, z188.toNat, z189.toNat⟩ : Ev)
  | _ => default
def evs (l : List Ev) : List (List C) := l.map Ev.enc
def yo (l : List (List C)) : List Ev := l.map Ev.dec
@[simp, go_sem] theorem xbC (l : List Ev) : (evs l).length = l.length := by simp [evs]
@[go_sem] theorem wcM (l : List Ev) (i : Nat) : (evs l).getD i [.int .u64 0, .int .i64 0, .int .u64 0, .int .u64 0] = (l.getD i default).enc := by
  simp only [evs, List.getD_eq_getElem?_getD, List.getElem?_map]
  cases l[i]? <;> rfl
@[go_sem] theorem kch (l : List Ev) : gh 4 (evs l) = True := by
  simp [gh, evs, Ev.enc]
theorem Ev.vg (e : Ev) : Ev.dec e.enc = e := by
  simp [Ev.enc, Ev.dec]
@[go_sem] theorem jc (l : List Ev) : yo (evs l) = l := by
  simp only [yo, evs, List.map_map]
  exact List.map_id'' (fun e => Ev.vg e) l
@[go_sem] theorem ycG (a b : List Ev) : evs a ++ evs b = evs (a ++ b) := by simp [evs]
@[go_sem] theorem qb4 (l : List Ev) (k : Nat) : (evs l).drop k = evs (l.drop k) := by simp [evs]
@[go_sem] theorem uco (l : List Ev) (k : Nat) : (evs l).take k = evs (l.take k) := by simp [evs]
@[go_sem] theorem wcJ (z190 : Int) (z191 : Int) (z192 : Int) (z193 : Int) (hz190 : 0 ≤ z190) (hz192 : 0 ≤ z192) (hz193 : 0 ≤ z193) : [[C.int .u64 z190, C.int .i64 z191, C.int .u64 z192, C.int .u64 z193]] = evs [⟨z190.toNat, z191, z192.toNat, z193.toNat⟩] := by simp [evs, Ev.enc, Int.toNat_of_nonneg hz190, Int.toNat_of_nonneg hz192, Int.toNat_of_nonneg hz193]
@[go_sem] theorem vcE (l : List Ev) (i : Nat) (z190 : Int) (z191 : Int) (z192 : Int) (z193 : Int) (hz190 : 0 ≤ z190) (hz192 : 0 ≤ z192) (hz193 : 0 ≤ z193) : (evs l).set i [C.int .u64 z190, C.int .i64 z191, C.int .u64 z192, C.int .u64 z193] = evs (l.set i ⟨z190.toNat, z191, z192.toNat, z193.toNat⟩) := by simp [evs, List.map_set, Ev.enc, Int.toNat_of_nonneg hz190, Int.toNat_of_nonneg hz192, Int.toNat_of_nonneg hz193]
@[go_sem] theorem xcg (l : List Ev) (z190 : Int) (z191 : Int) (z192 : Int) (z193 : Int) (hz190 : 0 ≤ z190) (hz192 : 0 ≤ z192) (hz193 : 0 ≤ z193) : [C.int .u64 z190, C.int .i64 z191, C.int .u64 z192, C.int .u64 z193] :: evs l = evs (⟨z190.toNat, z191, z192.toNat, z193.toNat⟩ :: l) := by simp [evs, Ev.enc, Int.toNat_of_nonneg hz190, Int.toNat_of_nonneg hz192, Int.toNat_of_nonneg hz193]
@[go_sem] theorem zck (l : List Ev) : zag (evs l) = True := eq_true fun x hx c hc => by
  obtain ⟨e, _, rfl⟩ := List.mem_map.1 hx
  simp only [Ev.enc, List.mem_cons, List.not_mem_nil, or_false] at hc
  rcases hc with rfl | rfl | rfl | rfl <;> rfl
@[go_sem] theorem Ev.eta {e : Ev} : (⟨e.seq, e.kind, e.a, e.n⟩ : Ev) = e := rfl
structure Fd where
  next : Nat
  l : List Ev
deriving DecidableEq, Inhabited
@[go_sem] def Fd.enc (e : Fd) : List C := [.int .u64 (e.next : Int), .sl (evs e.l)]
def Fd.dec : List C → Fd
  | [.int .u64 z195, .sl z196] => (⟨z195.toNat, (yo z196)⟩ : Fd)
  | _ => default
def fds (l : List Fd) : List (List C) := l.map Fd.enc
def wc3 (l : List (List C)) : List Fd := l.map Fd.dec
@[simp, go_sem] theorem wbJ (l : List Fd) : (fds l).length = l.length := by simp [fds]
@[go_sem] theorem vcJ (l : List Fd) (i : Nat) : (fds l).getD i [.int .u64 0, .sl []] = (l.getD i default).enc := by
  simp only [fds, List.getD_eq_getElem?_getD, List.getElem?_map]
  cases l[i]? <;> rfl
@[go_sem] theorem kcn (l : List Fd) : gh 2 (fds l) = True := by
  simp [gh, fds, Fd.enc]
theorem Fd.vg (e : Fd) : Fd.dec e.enc = e := by
  simp [Fd.enc, Fd.dec, jc]
@[go_sem] theorem qch (l : List Fd) : wc3 (fds l) = l := by
  simp only [wc3, fds, List.map_map]
  exact List.map_id'' (fun e => Fd.vg e) l
@[go_sem] theorem kcM (a b : List Fd) : fds a ++ fds b = fds (a ++ b) := by simp [fds]
@[go_sem] theorem gcg (l : List Fd) (k : Nat) : (fds l).drop k = fds (l.drop k) := by simp [fds]
@[go_sem] theorem xb6 (l : List Fd) (k : Nat) : (fds l).take k = fds (l.take k) := by simp [fds]
@[go_sem] theorem ycy (z197 : Int) (z198 : List Ev) (hz197 : 0 ≤ z197) : [[C.int .u64 z197, C.sl (evs z198)]] = fds [⟨z197.toNat, z198⟩] := by simp [fds, Fd.enc, Int.toNat_of_nonneg hz197]
@[go_sem] theorem zcx (l : List Fd) (i : Nat) (z197 : Int) (z198 : List Ev) (hz197 : 0 ≤ z197) : (fds l).set i [C.int .u64 z197, C.sl (evs z198)] = fds (l.set i ⟨z197.toNat, z198⟩) := by simp [fds, List.map_set, Fd.enc, Int.toNat_of_nonneg hz197]
@[go_sem] theorem xcc (l : List Fd) (z197 : Int) (z198 : List Ev) (hz197 : 0 ≤ z197) : [C.int .u64 z197, C.sl (evs z198)] :: fds l = fds (⟨z197.toNat, z198⟩ :: l) := by simp [fds, Fd.enc, Int.toNat_of_nonneg hz197]
@[go_sem] theorem Fd.eta {e : Fd} : (⟨e.next, e.l⟩ : Fd) = e := rfl
def xaj (k : Int) : Bool := decide (0 ≤ k ∧ k < 16)
@[go_sem] def gaN (k : Int) : D := .bool (xaj k)
@[go_sem] abbrev jcx : FuncId := 70
@[go_sem] def vbw : Tab := []
theorem vaI : za Tryz.prog vbw := za.nil
set_option maxRecDepth 8000 in
set_option maxHeartbeats 1000000 in
theorem ga7 (k : Int)  : yb Tryz.prog 70 [.c (.int .i64 k)] (gaN k) := by
  refine .of (zdh vaI (Nat.le_of_ble_eq_true rfl) ?_)
  simp -implicitDefEqProofs only [cdA, go_sem, Go.Proofs.Tryz.f70, reduceIte, reduceCtorEq, Nat.reduceEqDiff, Nat.reduceAdd, Nat.reduceLeDiff, Nat.reduceSub, Nat.reduceMul, Nat.reduceLT, Nat.reduceShiftRight, Nat.reduceMod, Int.reduceLE, Int.reduceLT, Int.reduceToNat, List.cons.injEq, cdB]
  have e : xaj k = decide (0 ≤ k ∧ k < 16) := rfl
  rw [e]
  exact ⟨fun h => by rw [decide_eq_decide]; exact ⟨fun h2 => ⟨h, h2⟩, fun h2 => h2.2⟩, fun h => (decide_eq_false fun h2 => h h2.1).symm⟩
def uK : List D → Option (Prop × D × Fr)
  | [.c (.int .i64 z199)] => some (True, gaN z199, [])
  | _ => none
attribute [go_sem] uK
theorem gX : ∀ rs p r fr, uK rs = some (p, r, fr) → p → qg Tryz.prog 70 rs r fr := by
  intro rs p r fr h hp
  unfold uK at h
  split at h <;> cases h
  rename_i z199
  exact ga7 z199
@[go_sem] def qbg  : D := .agg [.int .u64 1, .sl (evs [])]
@[go_sem] abbrev uc3 : FuncId := 18
@[go_sem] def vb0 : Tab := []
theorem gaT : za Tryz.prog vb0 := za.nil
set_option maxRecDepth 8000 in
set_option maxHeartbeats 1000000 in
theorem wbn   : yb Tryz.prog 18 [] (qbg ) := by
  refine .of (xdf gaT (Nat.le_of_ble_eq_true rfl) ?_)
  simp -implicitDefEqProofs only [cdA, go_sem, Go.Proofs.Tryz.f18, reduceIte, reduceCtorEq, Nat.reduceEqDiff, Nat.reduceAdd, Nat.reduceLeDiff, Nat.reduceSub, Nat.reduceMul, Nat.reduceLT, Nat.reduceShiftRight, Nat.reduceMod, Int.reduceLE, Int.reduceLT, Int.reduceToNat, List.cons.injEq, cdB]
  rfl
def yaf : List D → Option (Prop × D × Fr)
  | [] => some (True, qbg , [])
  | _ => none
attribute [go_sem] yaf
theorem jaH : ∀ rs p r fr, yaf rs = some (p, r, fr) → p → qg Tryz.prog 18 rs r fr := by
  intro rs p r fr h hp
  unfold yaf at h
  split at h <;> cases h
  exact wbn 
theorem xaA {n k : Nat} (h : k < n) : (List.finRange n).reverse.take k ++ [⟨n - 1 - k, by omega⟩] = (List.finRange n).reverse.take (k + 1) := by
  have hl : k < (List.finRange n).reverse.length := by simpa using h
  rw [List.take_add_one, List.getElem?_eq_getElem hl]
  simp
set_option maxRecDepth 4000 in
theorem baU (l : List Ev) (hl : l.length ≤ 1000000) : yah Tryz.prog 108 [.rp [.sl (evs l)]] (m := l.length) (fun x => [.int .i64 x.1, .agg ((l.getD x.1 default).enc.map .c)]) (List.finRange l.length).reverse := by
  refine yah.of (n := 19) (fn := Tryz.f108) (by kernel_rfl) rfl rfl rfl (Nat.le_of_ble_eq_true rfl) rfl ?_
  intro y I J Jx hY
  refine SY.seq (SY.region .nil hY rfl ?_)
  simp -implicitDefEqProofs only [cdA, go_sem, xaf, yav, St.xaK, xaa, List.contains_cons, List.contains_nil, Nat.reduceBEq, Bool.or_self, reduceIte, reduceCtorEq, Nat.reduceEqDiff, Nat.reduceAdd, Nat.reduceLeDiff, Nat.reduceSub, Nat.reduceMul, Nat.reduceLT, Nat.reduceShiftRight, Nat.reduceMod, Int.reduceLE, Int.reduceLT, Int.reduceToNat, List.cons.injEq, cdB]
  refine fun _ => SY.block (SY.loop l.length (fun k => ⟨[(0, .fn (.yield y) [] []), (1, .rp [.sl (evs l)]), (3, .int .i64 ((l.length : Int) - 1 - k))], [], 0⟩) (fun k => ((List.finRange l.length).reverse.take k, true)) 0 ?_ (Nat.zero_le _) ?_)
  · intro a w h
    rw [i64_in _ (by omega)] at h
    have h := h.sub (s' := ⟨[(0, .fn (.yield y) [] []), (1, .rp [.sl (evs l)]), (3, .int .i64 ((l.length : Int) - 1 - (0 : Nat)))], [], 0⟩) ⟨rfl, rfl, by simp [go_sem]⟩
    simpa using h
  · intro k hk
    refine SY.seq (SY.seq (SY.region .nil hY rfl ?_))
    simp -implicitDefEqProofs only [cdA, go_sem, xaf, yav, St.xaK, xaa, List.contains_cons, List.contains_nil, Nat.reduceBEq, Bool.or_self, reduceIte, reduceCtorEq, Nat.reduceEqDiff, Nat.reduceAdd, Nat.reduceLeDiff, Nat.reduceSub, Nat.reduceMul, Nat.reduceLT, Nat.reduceShiftRight, Nat.reduceMod, Int.reduceLE, Int.reduceLT, Int.reduceToNat, List.cons.injEq, cdB]
    refine SY.cond rfl (fun hc => SY.skip ?_) (fun hc => SY.exit ?_)
    · have hk' : k < l.length := by simp at hc; omega
      refine SY.seq (SY.block (SY.seq (SY.region .nil hY rfl ?_)))
      simp -implicitDefEqProofs only [cdA, go_sem, xaf, yav, St.xaK, xaa, List.contains_cons, List.contains_nil, Nat.reduceBEq, Bool.or_self, reduceIte, reduceCtorEq, Nat.reduceEqDiff, Nat.reduceAdd, Nat.reduceLeDiff, Nat.reduceSub, Nat.reduceMul, Nat.reduceLT, Nat.reduceShiftRight, Nat.reduceMod, Int.reduceLE, Int.reduceLT, Int.reduceToNat, List.cons.injEq, cdB]
      refine ⟨by omega, by simp; omega, ⟨l.length - 1 - k, by omega⟩, ?_, ?_, ?_⟩
      · have e1 : ((l.length : Int) - 1 - k).toNat = l.length - 1 - k := by omega
        have e2 : ((l.length : Int) - 1 - k) = ((l.length - 1 - k : Nat) : Int) := by omega
        rw [e1, e2]; exact ⟨rfl, rfl⟩
      · refine SY.cond (b := false) rfl (fun h => by cases h) (fun _ => SY.skip (SY.region .nil hY rfl ?_))
        simp -implicitDefEqProofs only [cdA, go_sem, xaf, yav, reduceIte, reduceCtorEq, Nat.reduceEqDiff, Nat.reduceAdd, Nat.reduceLeDiff, Nat.reduceSub, Nat.reduceMul, Nat.reduceLT, Nat.reduceShiftRight, Nat.reduceMod, Int.reduceLE, Int.reduceLT, Int.reduceToNat, List.cons.injEq, cdB]
        rw [i64_in _ (by omega)]
        exact ⟨hk', by rw [xaA hk'], by omega⟩
      · refine SY.cond (b := true) rfl (fun _ => SY.ret ?_) (fun h => by cases h)
        refine ⟨.inr rfl, .inr ⟨rfl, ?_⟩⟩
        rw [xaA hk']
        exact List.take_prefix _ _
    · have hk' : k = l.length := by simp at hc; omega
      have : List.take l.length (List.finRange l.length).reverse = (List.finRange l.length).reverse := List.take_of_length_le (by simp)
      simp [hk', this]
@[go_sem] def vaP (l : List Ev) : D := .fn (.func 108) [] [.rp [.sl (evs l)]]
@[go_sem] abbrev ucB : FuncId := 69
@[go_sem] def xbs : Tab := []
theorem zaG : za Tryz.prog xbs := za.nil
set_option maxRecDepth 8000 in
set_option maxHeartbeats 1000000 in
theorem ua8 (l : List Ev)  : yb Tryz.prog 69 [.sl (evs l)] (vaP l) := by
  refine .of (jdl zaG (Nat.le_of_ble_eq_true rfl) ?_)
  simp -implicitDefEqProofs only [cdA, go_sem, Go.Proofs.Tryz.f69, reduceIte, reduceCtorEq, Nat.reduceEqDiff, Nat.reduceAdd, Nat.reduceLeDiff, Nat.reduceSub, Nat.reduceMul, Nat.reduceLT, Nat.reduceShiftRight, Nat.reduceMod, Int.reduceLE, Int.reduceLT, Int.reduceToNat, List.cons.injEq, cdB]
  exact ⟨_, rfl, rfl⟩
def wS : List D → Option (Prop × D × Fr)
  | [.c (.sl z200)] => some (z200 = evs (yo z200), vaP (yo z200), [])
  | _ => none
attribute [go_sem] wS
theorem gav : ∀ rs p r fr, wS rs = some (p, r, fr) → p → qg Tryz.prog 69 rs r fr := by
  intro rs p r fr h hp
  unfold wS at h
  split at h <;> cases h
  have hc0 := hp
  rename_i z200
  obtain ⟨z200, rfl⟩ : ∃ m, z200 = evs m := ⟨_, hc0⟩
  simp only [jc]
  exact ua8 z200
def gbI (n : Int) : List Ev → Bool
  | [] => true
  | e :: r => decide ((e.seq : Int) = n - (r.length + 1)) && xaj e.kind && gbI n r
def vaO (f : Fd) : Prop := 1 ≤ f.next ∧ f.next ≤ MM ∧ f.l.length = min (f.next - 1) 64 ∧ gbI f.next f.l = true
instance (f : Fd) : Decidable (vaO f) := by unfold vaO; infer_instance
def vbj (f : Fd) : Int := if vaO f then 0 else 1
theorem xL (n : Int) : ∀ (l : List Ev), gbI n l = true ↔ ∀ i : Nat, i < l.length → ((l.getD i default).seq : Int) = n - (l.length - i : Int) ∧ xaj (l.getD i default).kind = true
  | [] => by simp [gbI]
  | e :: r => by
    rw [gbI, Bool.and_eq_true, Bool.and_eq_true, xL n r, decide_eq_true_eq]
    constructor
    · rintro ⟨⟨h1, h2⟩, h3⟩ i hi
      cases i with
      | zero => simp [h1, h2]
      | succ i =>
        have := h3 i (by simpa using hi)
        simp only [List.getD_cons_succ, List.length_cons]
        refine ⟨?_, this.2⟩
        rw [this.1]
        omega
    · intro h
      refine ⟨?_, fun i hi => ?_⟩
      · have := h 0 (by simp)
        simp at this
        exact ⟨by rw [this.1], this.2⟩
      · have := h (i + 1) (by simpa using hi)
        simp only [List.getD_cons_succ, List.length_cons] at this
        refine ⟨?_, this.2⟩
        rw [this.1]
        omega
theorem jap {f : Fd} {pre : List (Fin f.l.length)} {x : Fin f.l.length} (h : pre ++ [x] <+: (List.finRange f.l.length).reverse)
    (hb : ¬ (((f.l.getD x.1 default).seq : Int) = f.next - (pre.length + 1 : Int) ∧ xaj (f.l.getD x.1 default).kind = true)) : vbj f = 1 := by
  unfold vbj
  rw [if_neg]
  rintro ⟨_, _, _, h4⟩
  obtain ⟨t, ht⟩ := h
  have h5 : (List.finRange f.l.length).reverse[pre.length]? = some x := by rw [← ht]; simp
  have h6 := (xL f.next f.l).1 h4 x.1 x.2
  have hlt : pre.length < f.l.length := by
    have := (List.getElem?_eq_some_iff.1 h5).1
    simpa using this
  have h7 : x.1 = f.l.length - 1 - pre.length := by
    rw [List.getElem?_eq_getElem (by simpa using hlt)] at h5
    simp at h5
    rw [← h5]
  refine hb ⟨?_, h6.2⟩
  rw [h6.1, h7]
  omega
attribute [go_sem] bat asg rfp
@[go_sem] def uaB (f : Fd) : D := .int .i64 (vbj f)
@[go_sem] abbrev ub6 : FuncId := 28
@[go_sem] def ga2 : Tab := [(70, uK), (69, wS)]
theorem vn : za Tryz.prog ga2 := (za.cons gX (za.cons gav za.nil))
set_option maxRecDepth 8000 in
set_option maxHeartbeats 1000000 in
theorem uaR (f : Fd) (h : f.next ≤ 18446744073709551615) : yb Tryz.prog 28 [.agg [.c (.int .u64 (f.next : Int)), .sl (evs f.l)]] (uaB f) := by
  refine .of (gO (n := 44) (fn := Tryz.f28) (by kernel_rfl) rfl rfl rfl (Nat.le_of_ble_eq_true rfl) (rs := [.cell 2 41]) rfl ?_)
  refine SWm.seq (SWm.awp vn.toS zbi rfl ?_)
  simp -implicitDefEqProofs only [cdA, go_sem, reduceIte, reduceCtorEq, Nat.reduceEqDiff, Nat.reduceAdd, Nat.reduceLeDiff, Nat.reduceSub, Nat.reduceMul, Nat.reduceLT, Nat.reduceShiftRight, Nat.reduceMod, Int.reduceLE, Int.reduceLT, Int.reduceToNat, List.cons.injEq, cdB]
  refine SWm.seq (SWm.awp vn.toS zbi rfl ?_)
  simp -implicitDefEqProofs only [cdA, go_sem, reduceIte, reduceCtorEq, Nat.reduceEqDiff, Nat.reduceAdd, Nat.reduceLeDiff, Nat.reduceSub, Nat.reduceMul, Nat.reduceLT, Nat.reduceShiftRight, Nat.reduceMod, Int.reduceLE, Int.reduceLT, Int.reduceToNat, List.cons.injEq, cdB]
  have hbad : ¬ vaO f → 1 = vbj f := fun h => by rw [vbj, if_neg h]
  refine ⟨fun h1 => ⟨fun h2 h3 => ⟨fun h4 => ?_, fun h4 => hbad fun ho => h4 ?_⟩, fun h2 => hbad fun ho => ?_⟩, fun h1 => hbad fun ho => ?_⟩
  rotate_left 1
  · have := ho.2.2.1
    rw [u64_in f.l.length (by omega), u64_in ((f.next : Int) - 1) (by omega)]; omega
  · have := ho.2.1; unfold MM at this; omega
  · have := ho.1; omega
  · refine SWm.seq (SWm.awp vn.toS zbi rfl ?_)
    simp -implicitDefEqProofs only [cdA, go_sem, reduceIte, reduceCtorEq, Nat.reduceEqDiff, Nat.reduceAdd, Nat.reduceLeDiff, Nat.reduceSub, Nat.reduceMul, Nat.reduceLT, Nat.reduceShiftRight, Nat.reduceMod, Int.reduceLE, Int.reduceLT, Int.reduceToNat, List.cons.injEq, cdB]
    refine SWm.seq (SWm.seq (SWm.awp vn.toS zbi rfl ?_))
    simp -implicitDefEqProofs only [cdA, go_sem, reduceIte, reduceCtorEq, Nat.reduceEqDiff, Nat.reduceAdd, Nat.reduceLeDiff, Nat.reduceSub, Nat.reduceMul, Nat.reduceLT, Nat.reduceShiftRight, Nat.reduceMod, Int.reduceLE, Int.reduceLT, Int.reduceToNat, List.cons.injEq, cdB]
    have hle : (f.l.length : Int) ≤ 64 ∧ (f.l.length : Int) ≤ f.next - 1 := by
      rw [u64_in f.l.length (by omega), u64_in ((f.next : Int) - 1) (by omega)] at h4
      omega
    have hlen : f.l.length ≤ 1000000 := by omega
    refine SWm.block (SWm.rangeFunc vn.toS zbi (caps := [.rp [.sl (evs f.l)]]) rfl (by simp [D.xY]) (baU f.l hlen)
      (fun pre => [(2, .box [.int .u64 ((f.next : Int) - pre.length)]), (1, .box [.int .i64 0]), (0, .box [.int .u64 f.next, .sl (evs f.l)])])
      (fun pre => ∀ (j : Nat) (x : Fin f.l.length), pre[j]? = some x → ((f.l.getD x.1 default).seq : Int) = f.next - (j + 1) ∧ xaj (f.l.getD x.1 default).kind = true)
      (fun x => rfl) (by decide) (Nat.zero_le _) rfl rfl rfl rfl ?_ ?_ ?_)
    · simp [go_sem]
    · intro pre x hok hpre
      simp -implicitDefEqProofs only [cdA, go_sem, reduceIte, reduceCtorEq, Nat.reduceEqDiff, Nat.reduceAdd, Nat.reduceLeDiff, Nat.reduceSub, Nat.reduceMul, Nat.reduceLT, Nat.reduceShiftRight, Nat.reduceMod, Int.reduceLE, Int.reduceLT, Int.reduceToNat, List.cons.injEq, cdB]
      rw [u64_in ((f.next : Int) - _ - 1) (by omega)]
      refine ⟨fun h5 => ⟨fun h6 => ⟨fun j y hj => ?_, by omega⟩, fun h6 hp => ?_⟩, fun h5 hp => ?_⟩
      · rw [List.getElem?_append] at hj
        split at hj
        · exact hok j y hj
        · rename_i hge
          have : j = pre.length := by
            have := (List.getElem?_eq_some_iff.1 hj).1
            simp at this
            omega
          subst this
          simp at hj
          subst hj
          exact ⟨by omega, h6⟩
      · exact (jap hp fun h => by rw [h6] at h; cases h.2).symm
      · exact (jap hp fun h => h5 (by omega)).symm
    · intro hok
      refine SWm.awp vn.toS zbi rfl ?_
      simp -implicitDefEqProofs only [cdA, go_sem, reduceIte, reduceCtorEq, Nat.reduceEqDiff, Nat.reduceAdd, Nat.reduceLeDiff, Nat.reduceSub, Nat.reduceMul, Nat.reduceLT, Nat.reduceShiftRight, Nat.reduceMod, Int.reduceLE, Int.reduceLT, Int.reduceToNat, List.cons.injEq, cdB]
      rw [u64_in f.l.length (by omega), u64_in ((f.next : Int) - 1) (by omega)] at h4
      have hE : gbI f.next f.l = true := by
        rw [xL]
        intro i hi
        have h5 : (List.finRange f.l.length).reverse[f.l.length - 1 - i]? = some ⟨i, hi⟩ := by
          rw [List.getElem?_eq_getElem (by simp; omega)]
          simp
          try omega
        obtain ⟨h6, h7⟩ := hok _ _ h5
        refine ⟨?_, h7⟩
        rw [h6]
        omega
      rw [vbj, if_pos (show vaO f from ⟨by omega, by unfold MM; omega, by omega, hE⟩)]
@[go_sem] def gay (f : Fd) : Prop := (f.next ≤ 18446744073709551615)
def yC : List D → Option (Prop × D × Fr)
  | [.agg [.c (.int .u64 z202), .c (.sl z203)]] => some (z202 = (z202.toNat : Int) ∧ z203 = evs (yo z203) ∧ gay (⟨z202.toNat, (yo z203)⟩ : Fd), uaB (⟨z202.toNat, (yo z203)⟩ : Fd), [])
  | _ => none
attribute [go_sem] yC
theorem gP : ∀ rs p r fr, yC rs = some (p, r, fr) → p → qg Tryz.prog 28 rs r fr := by
  intro rs p r fr h hp
  unfold yC at h
  split at h <;> cases h
  obtain ⟨hc0, hc1, hp⟩ := hp
  rename_i z202 z203
  obtain ⟨z202, rfl⟩ : ∃ m : Nat, z202 = m := ⟨_, hc0⟩
  obtain ⟨z203, rfl⟩ : ∃ m, z203 = evs m := ⟨_, hc1⟩
  simp only [Int.toNat_natCast, jc]
  simp only [Int.toNat_natCast, jc, gay] at hp
  exact uaR ⟨z202, z203⟩ hp
theorem yam {f : Fd} : vbj f = 0 ↔ vaO f := by unfold vbj; split <;> rename_i h <;> simp only [h] <;> decide
@[go_sem] def qaj (l : List Ev) : D := .vec 0 l.length
@[go_sem] def j8 (l : List Ev) : Fr := [(4, 124, true, evs l)]
@[go_sem] abbrev xbT : FuncId := 112
@[go_sem] def xaV : Tab := []
theorem jag : za Tryz.prog xaV := za.nil
set_option maxRecDepth 8000 in
set_option maxHeartbeats 1000000 in
theorem uaG (l : List Ev) (hl : l.length ≤ 1000000) : zn Tryz.prog 112 [.sl (evs l)] (qaj l) (j8 l) := by
  refine .of (qb1 jag (Nat.le_of_ble_eq_true rfl) ?_)
  simp -implicitDefEqProofs only [cdA, go_sem, Go.Proofs.Tryz.f112, reduceIte, reduceCtorEq, Nat.reduceEqDiff, Nat.reduceAdd, Nat.reduceLeDiff, Nat.reduceSub, Nat.reduceMul, Nat.reduceLT, Nat.reduceShiftRight, Nat.reduceMod, Int.reduceLE, Int.reduceLT, Int.reduceToNat, List.cons.injEq, cdB]
  refine fun b hb => ⟨fun h => ?_, fun h => ?_⟩
  · exact ⟨[none], by simp [go_sem, hb h], by cases l <;> simp_all [go_sem, evs]⟩
  · exact ⟨by omega, [some 0], by simp [go_sem]⟩
@[go_sem] def xan (l : List Ev) : Prop := (l.length ≤ 1000000)
def jF : List D → Option (Prop × D × Fr)
  | [.c (.sl z204)] => some (z204 = evs (yo z204) ∧ xan (yo z204), qaj (yo z204), j8 (yo z204))
  | _ => none
attribute [go_sem] jF
theorem vad : ∀ rs p r fr, jF rs = some (p, r, fr) → p → qg Tryz.prog 112 rs r fr := by
  intro rs p r fr h hp
  unfold jF at h
  split at h <;> cases h
  obtain ⟨hc0, hp⟩ := hp
  rename_i z204
  obtain ⟨z204, rfl⟩ : ∃ m, z204 = evs m := ⟨_, hc0⟩
  simp only [jc]
  simp only [jc, xan] at hp
  exact (show qg _ _ _ _ _ from And.intro rfl (uaG z204 hp))
def xu (f : Fd) (k : Int) (a n : Nat) : Fd × Nat × Int := if vaO f ∧ xaj k = true then (if f.next = MM then ((⟨0, []⟩ : Fd), 0, 7) else ((⟨f.next + 1, (f.l ++ [(⟨f.next, k, a, n⟩ : Ev)]).drop (f.l.length + 1 - 64)⟩ : Fd), f.next, 0)) else ((⟨0, []⟩ : Fd), 0, 1)
@[go_sem] def xbj (f : Fd) (k : Int) (a : Nat) (n : Nat) : D := .tup [.agg [.int .u64 (xu f k a n).1.next, .sl (evs (xu f k a n).1.l)], .int .u64 (xu f k a n).2.1, .int .i64 (xu f k a n).2.2]
@[go_sem] abbrev xcU : FuncId := 80
@[go_sem] def ybL : Tab := [(28, yC), (70, uK), (112, jF)]
theorem yaY : za Tryz.prog ybL := (za.cons gP (za.cons gX (za.cons vad za.nil)))
set_option maxRecDepth 8000 in
set_option maxHeartbeats 1000000 in
theorem xbp (f : Fd) (k : Int) (a : Nat) (n : Nat) (h : f.next ≤ 18446744073709551615) : yb Tryz.prog 80 [.agg [.c (.int .u64 (f.next : Int)), .sl (evs f.l)], .c (.int .i64 k), .c (.int .u64 (a : Int)), .c (.int .u64 (n : Int))] (xbj f k a n) := by
  refine .of (kde yaY (Nat.le_of_ble_eq_true rfl) ?_)
  simp -implicitDefEqProofs only [cdA, go_sem, Go.Proofs.Tryz.f80, reduceIte, reduceCtorEq, Nat.reduceEqDiff, Nat.reduceAdd, Nat.reduceLeDiff, Nat.reduceSub, Nat.reduceMul, Nat.reduceLT, Nat.reduceShiftRight, Nat.reduceMod, Int.reduceLE, Int.reduceLT, Int.reduceToNat, List.cons.injEq, cdB]
  have hbad : ¬ (vaO f ∧ xaj k = true) → (0 = ((xu f k a n).1.next : Int) ∧ evs (xu f k a n).1.l = []) ∧ 0 = ((xu f k a n).2.1 : Int) ∧ 1 = (xu f k a n).2.2 := fun h => by
    rw [xu, if_neg h]; exact ⟨⟨rfl, rfl⟩, rfl, rfl⟩
  refine ⟨h, fun h0 => ⟨fun hk => ⟨fun hm => ?_, fun hm => ?_⟩, fun hk => hbad fun ho => by rw [hk] at ho; cases ho.2⟩, fun h0 => hbad fun ho => h0 (yam.2 ho.1)⟩
  · rw [xu, if_pos ⟨yam.1 h0, hk⟩, if_pos (by unfold MM; omega)]; exact ⟨⟨rfl, rfl⟩, rfl, rfl⟩
  · have ho := yam.1 h0
    have h1 := ho.2.2.1
    have h2 := ho.2.1
    unfold MM at h2
    rw [xu, if_pos ⟨ho, hk⟩, if_neg (by unfold MM; omega)]
    have e : (max (IntKind.i64.wrap ((f.l.length : Int) + 1 - 64)) 0).toNat = f.l.length + 1 - 64 := by rw [i64_in _ (by omega)]; omega
    rw [e, u64_in _ (by omega)]
    refine ⟨by omega, by omega, fun _ => ⟨⟨by omega, by rw [i64_in _ (by omega)]; omega⟩, ⟨by dsimp only; omega, rfl, _, _, _, rfl⟩, rfl, rfl⟩⟩
@[go_sem] def wbe (f : Fd) (k : Int) (a : Nat) (n : Nat) : Prop := (f.next ≤ 18446744073709551615)
def uv : List D → Option (Prop × D × Fr)
  | [.agg [.c (.int .u64 z206), .c (.sl z207)], .c (.int .i64 z208), .c (.int .u64 z209), .c (.int .u64 z210)] => some (z206 = (z206.toNat : Int) ∧ z207 = evs (yo z207) ∧ z209 = (z209.toNat : Int) ∧ z210 = (z210.toNat : Int) ∧ wbe (⟨z206.toNat, (yo z207)⟩ : Fd) z208 z209.toNat z210.toNat, xbj (⟨z206.toNat, (yo z207)⟩ : Fd) z208 z209.toNat z210.toNat, [])
  | _ => none
attribute [go_sem] uv
theorem gn : ∀ rs p r fr, uv rs = some (p, r, fr) → p → qg Tryz.prog 80 rs r fr := by
  intro rs p r fr h hp
  unfold uv at h
  split at h <;> cases h
  obtain ⟨hc0, hc1, hc2, hc3, hp⟩ := hp
  rename_i z206 z207 z208 z209 z210
  obtain ⟨z206, rfl⟩ : ∃ m : Nat, z206 = m := ⟨_, hc0⟩
  obtain ⟨z207, rfl⟩ : ∃ m, z207 = evs m := ⟨_, hc1⟩
  obtain ⟨z209, rfl⟩ : ∃ m : Nat, z209 = m := ⟨_, hc2⟩
  obtain ⟨z210, rfl⟩ : ∃ m : Nat, z210 = m := ⟨_, hc3⟩
  simp only [Int.toNat_natCast, jc]
  simp only [Int.toNat_natCast, jc, wbe] at hp
  exact xbp ⟨z206, z207⟩ z208 z209 z210 hp
end Dm
namespace Dm
open Go Go.Proofs Go.IntWalk
structure Wt where
  id : Nat
  w : Option Nat
deriving DecidableEq
instance : Inhabited Wt := ⟨⟨default, some 0⟩⟩
@[go_sem] def Wt.enc (e : Wt) : List C := [.int .u64 (e.id : Int), .flt .f64 e.w]
def Wt.dec : List C → Wt
  | [.int .u64 z70, .flt .f64 z71] => (⟨z70.toNat, z71⟩ : Wt)
  | _ => default
def wts (l : List Wt) : List (List C) := l.map Wt.enc
def xl (l : List (List C)) : List Wt := l.map Wt.dec
@[simp, go_sem] theorem kbG (l : List Wt) : (wts l).length = l.length := by simp [wts]
@[go_sem] theorem ucE (l : List Wt) (i : Nat) : (wts l).getD i [.int .u64 0, .flt .f64 (some 0)] = (l.getD i default).enc := by
  simp only [wts, List.getD_eq_getElem?_getD, List.getElem?_map]
  cases l[i]? <;> rfl
@[go_sem] theorem kcj (l : List Wt) : gh 2 (wts l) = True := by
  simp [gh, wts, Wt.enc]
theorem Wt.vg (e : Wt) : Wt.dec e.enc = e := by
  simp [Wt.enc, Wt.dec]
@[go_sem] theorem jd (l : List Wt) : xl (wts l) = l := by
  simp only [xl, wts, List.map_map]
  exact List.map_id'' (fun e => Wt.vg e) l
@[go_sem] theorem ucw (a b : List Wt) : wts a ++ wts b = wts (a ++ b) := by simp [wts]
@[go_sem] theorem vcl (l : List Wt) (k : Nat) : (wts l).drop k = wts (l.drop k) := by simp [wts]
@[go_sem] theorem qcb (l : List Wt) (k : Nat) : (wts l).take k = wts (l.take k) := by simp [wts]
@[go_sem] theorem qcD (z72 : Int) (z73 : Option Nat) (hz72 : 0 ≤ z72) : [[C.int .u64 z72, C.flt .f64 z73]] = wts [⟨z72.toNat, z73⟩] := by simp [wts, Wt.enc, Int.toNat_of_nonneg hz72]
@[go_sem] theorem bcG (l : List Wt) (i : Nat) (z72 : Int) (z73 : Option Nat) (hz72 : 0 ≤ z72) : (wts l).set i [C.int .u64 z72, C.flt .f64 z73] = wts (l.set i ⟨z72.toNat, z73⟩) := by simp [wts, List.map_set, Wt.enc, Int.toNat_of_nonneg hz72]
@[go_sem] theorem wcc (l : List Wt) (z72 : Int) (z73 : Option Nat) (hz72 : 0 ≤ z72) : [C.int .u64 z72, C.flt .f64 z73] :: wts l = wts (⟨z72.toNat, z73⟩ :: l) := by simp [wts, Wt.enc, Int.toNat_of_nonneg hz72]
@[go_sem] theorem xcm (l : List Wt) : zag (wts l) = True := eq_true fun x hx c hc => by
  obtain ⟨e, _, rfl⟩ := List.mem_map.1 hx
  simp only [Wt.enc, List.mem_cons, List.not_mem_nil, or_false] at hc
  rcases hc with rfl | rfl <;> rfl
@[go_sem] theorem Wt.eta {e : Wt} : (⟨e.id, e.w⟩ : Wt) = e := rfl
structure Mk where
  id : Nat
  s : Option Nat
deriving DecidableEq
instance : Inhabited Mk := ⟨⟨default, some 0⟩⟩
@[go_sem] def Mk.enc (e : Mk) : List C := [.int .u64 (e.id : Int), .flt .f64 e.s]
def Mk.dec : List C → Mk
  | [.int .u64 z75, .flt .f64 z76] => (⟨z75.toNat, z76⟩ : Mk)
  | _ => default
def mks (l : List Mk) : List (List C) := l.map Mk.enc
def wc4 (l : List (List C)) : List Mk := l.map Mk.dec
@[simp, go_sem] theorem j9 (l : List Mk) : (mks l).length = l.length := by simp [mks]
@[go_sem] theorem wcK (l : List Mk) (i : Nat) : (mks l).getD i [.int .u64 0, .flt .f64 (some 0)] = (l.getD i default).enc := by
  simp only [mks, List.getD_eq_getElem?_getD, List.getElem?_map]
  cases l[i]? <;> rfl
@[go_sem] theorem bco (l : List Mk) : gh 2 (mks l) = True := by
  simp [gh, mks, Mk.enc]
theorem Mk.vg (e : Mk) : Mk.dec e.enc = e := by
  simp [Mk.enc, Mk.dec]
@[go_sem] theorem ya3 (l : List Mk) : wc4 (mks l) = l := by
  simp only [wc4, mks, List.map_map]
  exact List.map_id'' (fun e => Mk.vg e) l
@[go_sem] theorem bbr (a b : List Mk) : mks a ++ mks b = mks (a ++ b) := by simp [mks]
@[go_sem] theorem bcb (l : List Mk) (k : Nat) : (mks l).drop k = mks (l.drop k) := by simp [mks]
@[go_sem] theorem jci (l : List Mk) (k : Nat) : (mks l).take k = mks (l.take k) := by simp [mks]
@[go_sem] theorem vct (z77 : Int) (z78 : Option Nat) (hz77 : 0 ≤ z77) : [[C.int .u64 z77, C.flt .f64 z78]] = mks [⟨z77.toNat, z78⟩] := by simp [mks, Mk.enc, Int.toNat_of_nonneg hz77]
@[go_sem] theorem xcC (l : List Mk) (i : Nat) (z77 : Int) (z78 : Option Nat) (hz77 : 0 ≤ z77) : (mks l).set i [C.int .u64 z77, C.flt .f64 z78] = mks (l.set i ⟨z77.toNat, z78⟩) := by simp [mks, List.map_set, Mk.enc, Int.toNat_of_nonneg hz77]
@[go_sem] theorem uck (l : List Mk) (z77 : Int) (z78 : Option Nat) (hz77 : 0 ≤ z77) : [C.int .u64 z77, C.flt .f64 z78] :: mks l = mks (⟨z77.toNat, z78⟩ :: l) := by simp [mks, Mk.enc, Int.toNat_of_nonneg hz77]
@[go_sem] theorem zb6 (l : List Mk) : zag (mks l) = True := eq_true fun x hx c hc => by
  obtain ⟨e, _, rfl⟩ := List.mem_map.1 hx
  simp only [Mk.enc, List.mem_cons, List.not_mem_nil, or_false] at hc
  rcases hc with rfl | rfl <;> rfl
@[go_sem] theorem Mk.eta {e : Mk} : (⟨e.id, e.s⟩ : Mk) = e := rfl
abbrev F1 : Option Nat := some 4607182418800017408
@[go_sem] def gaw (x : Option Nat) : D := .bool (ybl x)
@[go_sem] abbrev jb6 : FuncId := 143
@[go_sem] def kbb : Tab := []
theorem uaq : za Tryz.prog kbb := za.nil
set_option maxRecDepth 8000 in
set_option maxHeartbeats 1000000 in
theorem baO (x : Option Nat)  : yb Tryz.prog 143 [.c (.flt .f64 x)] (gaw x) := by
  refine .of (kcD uaq (Nat.le_of_ble_eq_true rfl) ?_)
  simp -implicitDefEqProofs only [cdA, go_sem, Go.Proofs.Tryz.f143, reduceIte, reduceCtorEq, Nat.reduceEqDiff, Nat.reduceAdd, Nat.reduceLeDiff, Nat.reduceSub, Nat.reduceMul, Nat.reduceLT, Nat.reduceShiftRight, Nat.reduceMod, Int.reduceLE, Int.reduceLT, Int.reduceToNat, List.cons.injEq, cdB]
  rfl
def zJ : List D → Option (Prop × D × Fr)
  | [.c (.flt .f64 z79)] => some (True, gaw z79, [])
  | _ => none
attribute [go_sem] zJ
theorem bag : ∀ rs p r fr, zJ rs = some (p, r, fr) → p → qg Tryz.prog 143 rs r fr := by
  intro rs p r fr h hp
  unfold zJ at h
  split at h <;> cases h
  rename_i z79
  exact baO z79
@[go_sem] def qbj (x : Option Nat) (y : Option Nat) : D := .int .i64 (waf (qu x) (qu y))
@[go_sem] abbrev gcW : FuncId := 122
@[go_sem] def kbM : Tab := [(143, zJ)]
theorem yaN : za Tryz.prog kbM := (za.cons bag za.nil)
set_option maxRecDepth 8000 in
set_option maxHeartbeats 1000000 in
theorem ubm (x : Option Nat) (y : Option Nat)  : yb Tryz.prog 122 [.c (.flt .f64 x), .c (.flt .f64 y)] (qbj x y) := by
  refine .of (xcu yaN (Nat.le_of_ble_eq_true rfl) ?_)
  simp -implicitDefEqProofs only [cdA, go_sem, Go.Proofs.Tryz.f122, reduceIte, reduceCtorEq, Nat.reduceEqDiff, Nat.reduceAdd, Nat.reduceLeDiff, Nat.reduceSub, Nat.reduceMul, Nat.reduceLT, Nat.reduceShiftRight, Nat.reduceMod, Int.reduceLE, Int.reduceLT, Int.reduceToNat, List.cons.injEq, cdB]
  have h1 := uM x
  have h2 := uM y
  rw [uac, uac, zbp, xbl]
  generalize qu x = a at *
  generalize qu y = b at *
  generalize uZ = k at *
  unfold waf
  simp only [decide_eq_true_eq, decide_eq_false_iff_not, Bool.and_eq_true, Bool.and_eq_false_iff, ne_eq, Classical.not_not]
  refine ⟨fun h3 => ⟨fun h4 => ?_, fun h4 => ?_⟩, fun h3 => ⟨fun h4 => ?_, fun h4 => ⟨fun h5 => ?_, fun h5 => ⟨fun h6 => ?_, fun h6 => ?_⟩⟩⟩⟩
  all_goals (repeat' split) <;> first | rfl | (exfalso; omega)
def u9 : List D → Option (Prop × D × Fr)
  | [.c (.flt .f64 z80), .c (.flt .f64 z81)] => some (True, qbj z80 z81, [])
  | _ => none
attribute [go_sem] u9
theorem xaH : ∀ rs p r fr, u9 rs = some (p, r, fr) → p → qg Tryz.prog 122 rs r fr := by
  intro rs p r fr h hp
  unfold u9 at h
  split at h <;> cases h
  rename_i z80 z81
  exact ubm z80 z81
def wC (l : List Wt) (id : Nat) : Option Nat := match l.find? fun x => decide (x.id = id) with
  | some x => x.w
  | none => F1
@[go_sem] def jaN (l : List Wt) (id : Nat) : D := .c (.flt .f64 (wC l id))
@[go_sem] abbrev jcK : FuncId := 116
@[go_sem] def qbm : Tab := []
theorem zG : za Tryz.prog qbm := za.nil
set_option maxRecDepth 8000 in
set_option maxHeartbeats 1000000 in
theorem va6 (l : List Wt) (id : Nat)  : yb Tryz.prog 116 [.sl (wts l), .c (.int .u64 (id : Int))] (jaN l id) := by
  refine .of (wcx zG (Nat.le_of_ble_eq_true rfl) ?_)
  simp -implicitDefEqProofs only [cdA, go_sem, Go.Proofs.Tryz.f116, reduceIte, reduceCtorEq, Nat.reduceEqDiff, Nat.reduceAdd, Nat.reduceLeDiff, Nat.reduceSub, Nat.reduceMul, Nat.reduceLT, Nat.reduceShiftRight, Nat.reduceMod, Int.reduceLE, Int.reduceLT, Int.reduceToNat, List.cons.injEq, cdB]
  refine ucD zG (Nat.le_of_ble_eq_true rfl) ?_
  simp -implicitDefEqProofs only [cdA, go_sem, Go.Proofs.Tryz.f138, reduceIte, reduceCtorEq, Nat.reduceEqDiff, Nat.reduceAdd, Nat.reduceLeDiff, Nat.reduceSub, Nat.reduceMul, Nat.reduceLT, Nat.reduceShiftRight, Nat.reduceMod, Int.reduceLE, Int.reduceLT, Int.reduceToNat, List.cons.injEq, cdB]
  refine fun hl => SWp.loop (ι := { i : Nat // i ≤ l.length ∧ ∀ j, j < i → (l.getD j default).id ≠ id }) (fun i => ⟨[(0, .sl (wts l)), (1, .fn (.func 139) [] [.ref 0 0]), (7, .int .i64 l.length), (8, .int .i64 i.1)], [(0, .box [.int .u64 id])], 1⟩) (fun i => l.length - i.1) ⟨0, by simp⟩ ?_ ?_
  · simp [go_sem]
  · rintro ⟨i, hi, hall⟩
    refine qb zG.toS qbA _ _ _ rfl ?_
    simp -implicitDefEqProofs only [cdA, go_sem, reduceIte, reduceCtorEq, Nat.reduceEqDiff, Nat.reduceAdd, Nat.reduceLeDiff, Nat.reduceSub, Nat.reduceMul, Nat.reduceLT, Nat.reduceShiftRight, Nat.reduceMod, Int.reduceLE, Int.reduceLT, Int.reduceToNat, List.cons.injEq, cdB]
    have hno : (∀ j, j < l.length → (l.getD j default).id ≠ id) → wC l id = F1 := fun h => by
      have : l.find? (fun x => decide (x.id = id)) = none := by
        rw [List.find?_eq_none]
        intro x hx
        obtain ⟨j, hj, rfl⟩ := xb.1 hx
        simpa using h j hj
      rw [wC, this]
    have hyes : i < l.length → (l.getD i default).id = id → wC l id = (l.getD i default).w := fun h h' => by
      have : l.find? (fun x => decide (x.id = id)) = some (l.getD i default) := by
        rw [List.find?_eq_some_iff_getElem]
        refine ⟨by simpa using h', i, h, (ve h).symm, fun j hj => ?_⟩
        have := hall j hj
        rw [ve (by omega)] at this
        simpa using this
      rw [wC, this]
    refine ⟨fun h => ⟨by omega, ?_⟩, fun h => ?_⟩
    · skip
      refine ycs zG (Nat.le_of_ble_eq_true rfl) ?_
      simp -implicitDefEqProofs only [cdA, go_sem, Go.Proofs.Tryz.f139, reduceIte, reduceCtorEq, Nat.reduceEqDiff, Nat.reduceAdd, Nat.reduceLeDiff, Nat.reduceSub, Nat.reduceMul, Nat.reduceLT, Nat.reduceShiftRight, Nat.reduceMod, Int.reduceLE, Int.reduceLT, Int.reduceToNat, List.cons.injEq, cdB]
      refine ⟨fun h1 => ⟨fun h2 => by omega, fun _ => ⟨by omega, ?_⟩⟩, fun h1 => ⟨⟨i + 1, by omega, fun j hj => ?_⟩, by dsimp only; omega, i64_in _ (by omega)⟩⟩
      · rw [hyes (by omega) (by omega)]
      · by_cases hji : j = i
        · subst hji; omega
        · exact hall j (by omega)
    · rw [hno fun j hj => hall j (by omega)]
def kS : List D → Option (Prop × D × Fr)
  | [.c (.sl z82), .c (.int .u64 z83)] => some (z82 = wts (xl z82) ∧ z83 = (z83.toNat : Int), jaN (xl z82) z83.toNat, [])
  | _ => none
attribute [go_sem] kS
theorem uat : ∀ rs p r fr, kS rs = some (p, r, fr) → p → qg Tryz.prog 116 rs r fr := by
  intro rs p r fr h hp
  unfold kS at h
  split at h <;> cases h
  obtain ⟨hc0, hc1⟩ := hp
  rename_i z82 z83
  obtain ⟨z82, rfl⟩ : ∃ m, z82 = wts m := ⟨_, hc0⟩
  obtain ⟨z83, rfl⟩ : ∃ m : Nat, z83 = m := ⟨_, hc1⟩
  simp only [Int.toNat_natCast, jd]
  exact va6 z82 z83
def ya0 (c : Ch) (w n : Option Nat) : Option Nat × Int := if gj c then (far .mul w (far .quo (far .sub (xaM (uU c).1) n) (xaM (vf c).2.1)), 0) else (some 0, 1)
theorem kaM {c : Ch} : (uU c).2 = 0 ↔ gj c := by
  unfold uU
  by_cases h : gj c
  · rw [if_pos h]
    simp only [h, iff_true]
    split <;> rfl
  · rw [if_neg h]
    simp [h]
@[go_sem] def zbW (c : Ch) (w : Option Nat) (n : Option Nat) : D := .tup [.c (.flt .f64 (ya0 c w n).1), .int .i64 (ya0 c w n).2]
@[go_sem] abbrev kdj : FuncId := 115
@[go_sem] def ycx : Tab := [(114, wK), (11, kN)]
theorem wa9 : za Tryz.prog ycx := (za.cons kX (za.cons jM za.nil))
set_option maxRecDepth 8000 in
set_option maxHeartbeats 1000000 in
theorem xbM (c : Ch) (w : Option Nat) (n : Option Nat)  : yb Tryz.prog 115 [.agg [.c (.int .u64 (c.id : Int)), .c (.int .u64 (c.loc : Int)), .c (.int .u64 (c.rem : Int)), .c (.int .u64 (c.res : Int)), .c (.int .u64 (c.most : Int)), .sl (hds c.holds), .c (.bool c.op)], .c (.flt .f64 w), .c (.flt .f64 n)] (zbW c w n) := by
  refine .of (bcw wa9 (Nat.le_of_ble_eq_true rfl) ?_)
  simp -implicitDefEqProofs only [cdA, go_sem, Go.Proofs.Tryz.f115, reduceIte, reduceCtorEq, Nat.reduceEqDiff, Nat.reduceAdd, Nat.reduceLeDiff, Nat.reduceSub, Nat.reduceMul, Nat.reduceLT, Nat.reduceShiftRight, Nat.reduceMod, Int.reduceLE, Int.reduceLT, Int.reduceToNat, List.cons.injEq, cdB]
  have hr := kaM (c := c)
  rw [hr, qI, ya0]
  by_cases h : gj c
  · have e : (vf c).2.2 = 0 := qI.2 h
    simp [h]
  · have e : (uU c).2 = 1 := by rw [uU, if_neg h]
    simp [h, e]
def qaD : List D → Option (Prop × D × Fr)
  | [.agg [.c (.int .u64 z85), .c (.int .u64 z86), .c (.int .u64 z87), .c (.int .u64 z88), .c (.int .u64 z89), .c (.sl z90), .c (.bool z91)], .c (.flt .f64 z92), .c (.flt .f64 z93)] => some (z85 = (z85.toNat : Int) ∧ z86 = (z86.toNat : Int) ∧ z87 = (z87.toNat : Int) ∧ z88 = (z88.toNat : Int) ∧ z89 = (z89.toNat : Int) ∧ z90 = hds (qq z90), zbW (⟨z85.toNat, z86.toNat, z87.toNat, z88.toNat, z89.toNat, (qq z90), z91⟩ : Ch) z92 z93, [])
  | _ => none
attribute [go_sem] qaD
theorem baP : ∀ rs p r fr, qaD rs = some (p, r, fr) → p → qg Tryz.prog 115 rs r fr := by
  intro rs p r fr h hp
  unfold qaD at h
  split at h <;> cases h
  obtain ⟨hc0, hc1, hc2, hc3, hc4, hc5⟩ := hp
  rename_i z85 z86 z87 z88 z89 z90 z91 z92 z93
  obtain ⟨z85, rfl⟩ : ∃ m : Nat, z85 = m := ⟨_, hc0⟩
  obtain ⟨z86, rfl⟩ : ∃ m : Nat, z86 = m := ⟨_, hc1⟩
  obtain ⟨z87, rfl⟩ : ∃ m : Nat, z87 = m := ⟨_, hc2⟩
  obtain ⟨z88, rfl⟩ : ∃ m : Nat, z88 = m := ⟨_, hc3⟩
  obtain ⟨z89, rfl⟩ : ∃ m : Nat, z89 = m := ⟨_, hc4⟩
  obtain ⟨z90, rfl⟩ : ∃ m, z90 = hds m := ⟨_, hc5⟩
  simp only [Int.toNat_natCast, ze]
  exact xbM ⟨z85, z86, z87, z88, z89, z90, z91⟩ z92 z93
@[go_sem] def kax (x : Option Nat) : D := .bool (ybl x)
@[go_sem] abbrev wcm : FuncId := 117
@[go_sem] def wa7 : Tab := []
theorem gat : za Tryz.prog wa7 := za.nil
set_option maxRecDepth 8000 in
set_option maxHeartbeats 1000000 in
theorem baT (x : Option Nat)  : yb Tryz.prog 117 [.c (.flt .f64 x)] (kax x) := by
  refine .of (vcv gat (Nat.le_of_ble_eq_true rfl) ?_)
  simp -implicitDefEqProofs only [cdA, go_sem, Go.Proofs.Tryz.f117, reduceIte, reduceCtorEq, Nat.reduceEqDiff, Nat.reduceAdd, Nat.reduceLeDiff, Nat.reduceSub, Nat.reduceMul, Nat.reduceLT, Nat.reduceShiftRight, Nat.reduceMod, Int.reduceLE, Int.reduceLT, Int.reduceToNat, List.cons.injEq, cdB]
  rfl
def yK : List D → Option (Prop × D × Fr)
  | [.c (.flt .f64 z94)] => some (True, kax z94, [])
  | _ => none
attribute [go_sem] yK
theorem qan : ∀ rs p r fr, yK rs = some (p, r, fr) → p → qg Tryz.prog 117 rs r fr := by
  intro rs p r fr h hp
  unfold yK at h
  split at h <;> cases h
  rename_i z94
  exact baT z94
@[go_sem] def bbh  : D := .c (.flt .f64 none)
@[go_sem] abbrev bc3 : FuncId := 118
@[go_sem] def kbO : Tab := [ovk 140]
theorem baQ : za Tryz.prog kbO := (za.cons (uaH 140) za.nil)
set_option maxRecDepth 8000 in
set_option maxHeartbeats 1000000 in
theorem ubz   : yb Tryz.prog 118 [] (bbh ) := by
  refine .of (vcr baQ (Nat.le_of_ble_eq_true rfl) ?_)
  simp -implicitDefEqProofs only [cdA, go_sem, Go.Proofs.Tryz.f118, reduceIte, reduceCtorEq, Nat.reduceEqDiff, Nat.reduceAdd, Nat.reduceLeDiff, Nat.reduceSub, Nat.reduceMul, Nat.reduceLT, Nat.reduceShiftRight, Nat.reduceMod, Int.reduceLE, Int.reduceLT, Int.reduceToNat, List.cons.injEq, cdB]
  exact ⟨_, rfl, rfl, rfl, rfl, by kernel_rfl⟩
def xab : List D → Option (Prop × D × Fr)
  | [] => some (True, bbh , [])
  | _ => none
attribute [go_sem] xab
theorem jaJ : ∀ rs p r fr, xab rs = some (p, r, fr) → p → qg Tryz.prog 118 rs r fr := by
  intro rs p r fr h hp
  unfold xab at h
  split at h <;> cases h
  exact ubz 
def mkO (a b : Mk) : Int := orS [waf (qu b.s) (qu a.s), waf a.id b.id]
@[go_sem] def uaU (a : Mk) (b : Mk) : D := .int .i64 (mkO a b)
@[go_sem] abbrev kcs : FuncId := 120
@[go_sem] def kbo : Tab := [(122, u9), (107, vO), (121, jR)]
theorem j7 : za Tryz.prog kbo := (za.cons xaH (za.cons uE (za.cons gaq za.nil)))
set_option maxRecDepth 8000 in
set_option maxHeartbeats 1000000 in
theorem ya5 (a : Mk) (b : Mk)  : yb Tryz.prog 120 [.agg [.c (.int .u64 (a.id : Int)), .c (.flt .f64 a.s)], .agg [.c (.int .u64 (b.id : Int)), .c (.flt .f64 b.s)]] (uaU a b) := by
  refine .of (jcJ j7 (Nat.le_of_ble_eq_true rfl) ?_)
  simp -implicitDefEqProofs only [cdA, go_sem, Go.Proofs.Tryz.f120, reduceIte, reduceCtorEq, Nat.reduceEqDiff, Nat.reduceAdd, Nat.reduceLeDiff, Nat.reduceSub, Nat.reduceMul, Nat.reduceLT, Nat.reduceShiftRight, Nat.reduceMod, Int.reduceLE, Int.reduceLT, Int.reduceToNat, List.cons.injEq, cdB]
  refine uc.run kbp j7 qa (by kernel_rfl) (by kernel_rfl) ?_
  simp -implicitDefEqProofs only [cdA, go_sem, reduceIte, reduceCtorEq, Nat.reduceEqDiff, Nat.reduceAdd, Nat.reduceLeDiff, Nat.reduceSub, Nat.reduceMul, Nat.reduceLT, Nat.reduceShiftRight, Nat.reduceMod, Int.reduceLE, Int.reduceLT, Int.reduceToNat, List.cons.injEq, cdB]
  rfl
def va0 : List D → Option (Prop × D × Fr)
  | [.agg [.c (.int .u64 z96), .c (.flt .f64 z97)], .agg [.c (.int .u64 z99), .c (.flt .f64 z100)]] => some (z96 = (z96.toNat : Int) ∧ z99 = (z99.toNat : Int), uaU (⟨z96.toNat, z97⟩ : Mk) (⟨z99.toNat, z100⟩ : Mk), [])
  | _ => none
attribute [go_sem] va0
end Dm
namespace Go.Proofs
open Go.Shelf Go.RowKit Go.Lib Go.Sort
def Tryz.waF : Go.Shelf.Ren := ⟨fun | 6 => 119 | 15 => 142 | 14 => 141 | 28 => 159 | 29 => 160 | 20 => 151 | 21 => 152 | 22 => 153 | 23 => 154 | 24 => 155 | 25 => 156 | 26 => 157 | 27 => 158 | 46 => 164 | 47 => 165 | 48 => 166 | 49 => 167 | 50 => 168 | 57 => 170 | n => n, fun | 22 => 173 | 24 => 180 | 25 => 184 | 3 => 3 | 39 => 164 | 0 => 0 | 53 => 219 | 55 => 28 | 4 => 4 | 46 => 213 | 45 => 212 | 50 => 126 | 5 => 5 | 9 => 9 | 66 => 223 | 70 => 227 | 76 => 230 | 77 => 231 | n => n, fun | n => n⟩
theorem Tryz.ybU : Go.Proofs.SlLaysF0.n6 Tryz.prog Tryz.waF := {
 mixed := by kernel_rfl
 f6 := ⟨Tryz.f119.name, by decide, Tryz.func119.trans (congrArg some (by kernel_rfl))⟩
 f14 := ⟨Tryz.f141.name, by decide, Tryz.func141.trans (congrArg some (by kernel_rfl))⟩
 f15 := Tryz.func142.trans (congrArg some (by kernel_rfl))
 f20 := ⟨Tryz.f151.name, by decide, Tryz.func151.trans (congrArg some (by kernel_rfl))⟩
 f21 := ⟨Tryz.f152.name, by decide, Tryz.func152.trans (congrArg some (by kernel_rfl))⟩
 f22 := ⟨Tryz.f153.name, by decide, Tryz.func153.trans (congrArg some (by kernel_rfl))⟩
 f23 := ⟨Tryz.f154.name, by decide, Tryz.func154.trans (congrArg some (by kernel_rfl))⟩
 f24 := ⟨Tryz.f155.name, by decide, Tryz.func155.trans (congrArg some (by kernel_rfl))⟩
 f25 := ⟨Tryz.f156.name, by decide, Tryz.func156.trans (congrArg some (by kernel_rfl))⟩
 f26 := ⟨Tryz.f157.name, by decide, Tryz.func157.trans (congrArg some (by kernel_rfl))⟩
 f27 := ⟨Tryz.f158.name, by decide, Tryz.func158.trans (congrArg some (by kernel_rfl))⟩
 f28 := Tryz.func159.trans (congrArg some (by kernel_rfl))
 f29 := Tryz.func160.trans (congrArg some (by kernel_rfl))
 f46 := ⟨Tryz.f164.name, by decide, Tryz.func164.trans (congrArg some (by kernel_rfl))⟩
 f47 := Tryz.func165.trans (congrArg some (by kernel_rfl))
 f48 := Tryz.func166.trans (congrArg some (by kernel_rfl))
 f49 := ⟨Tryz.f167.name, by decide, Tryz.func167.trans (congrArg some (by kernel_rfl))⟩
 f50 := ⟨Tryz.f168.name, by decide, Tryz.func168.trans (congrArg some (by kernel_rfl))⟩
 f57 := ⟨Tryz.f170.name, by decide, Tryz.func170.trans (congrArg some (by kernel_rfl))⟩
 t0 := Tryz.underlying0
 a0 := Tryz.isAgg0
 z0 := Tryz.sizeOf0
 v0 := Tryz.zeroValue0
 t3 := Tryz.underlying3
 a3 := Tryz.isAgg3
 z3 := Tryz.sizeOf3
 v3 := Tryz.zeroValue3
 t4 := Tryz.underlying4
 a4 := Tryz.isAgg4
 z4 := Tryz.sizeOf4
 v4 := Tryz.zeroValue4
 t5 := Tryz.underlying5
 a5 := Tryz.isAgg5
 z5 := Tryz.sizeOf5
 v5 := Tryz.zeroValue5
 t9 := Tryz.underlying9
 a9 := Tryz.isAgg9
 z9 := Tryz.sizeOf9
 v9 := Tryz.zeroValue9
 t22 := Tryz.underlying173
 a22 := Tryz.isAgg173
 z22 := Tryz.sizeOf173
 v22 := Tryz.zeroValue173
 t25 := Tryz.underlying184
 a25 := Tryz.isAgg184
 z25 := Tryz.sizeOf184
 v25 := Tryz.zeroValue184
 t39 := Tryz.underlying164
 a39 := Tryz.isAgg164
 z39 := Tryz.sizeOf164
 v39 := Tryz.zeroValue164
 t45 := Tryz.underlying212
 a45 := Tryz.isAgg212
 z45 := Tryz.sizeOf212
 v45 := Tryz.zeroValue212
 t46 := Tryz.underlying213
 a46 := Tryz.isAgg213
 z46 := Tryz.sizeOf213
 v46 := Tryz.zeroValue213
 t50 := Tryz.underlying126
 a50 := Tryz.isAgg126
 z50 := Tryz.sizeOf126
 v50 := Tryz.zeroValue126
 t53 := Tryz.underlying219
 a53 := Tryz.isAgg219
 z53 := Tryz.sizeOf219
 v53 := Tryz.zeroValue219
 t55 := Tryz.underlying28
 a55 := Tryz.isAgg28
 z55 := Tryz.sizeOf28
 v55 := Tryz.zeroValue28
 t66 := Tryz.underlying223
 a66 := Tryz.isAgg223
 z66 := Tryz.sizeOf223
 v66 := Tryz.zeroValue223
 t70 := Tryz.underlying227
 a70 := Tryz.isAgg227
 z70 := Tryz.sizeOf227
 v70 := Tryz.zeroValue227
 t76 := Tryz.underlying230
 a76 := Tryz.isAgg230
 z76 := Tryz.sizeOf230
 v76 := Tryz.zeroValue230
 t77 := Tryz.underlying231
 a77 := Tryz.isAgg231
 z77 := Tryz.sizeOf231
 v77 := Tryz.zeroValue231 }
end Go.Proofs
namespace Dm
open Go Go.Proofs Go.IntWalk
abbrev ltM (a b : Int × Nat) : Prop := b.1 < a.1 ∨ (a.1 = b.1 ∧ a.2 < b.2)
instance : DecidableRel ltM := fun a b => by unfold ltM; infer_instance
theorem bbq : Srt.Tot ltM := ⟨fun a => by unfold ltM; omega, fun h h' => by unfold ltM at *; omega, fun a b => by
  unfold ltM
  have : a = b ↔ a.1 = b.1 ∧ a.2 = b.2 := Prod.ext_iff
  rw [this]; omega⟩
def Mk.key (m : Mk) : Int × Nat := (qu m.s, m.id)
theorem gB {a b : Mk} : mkO a b < 0 ↔ ltM a.key b.key := by
  unfold mkO orS ltM Mk.key waf
  by_cases h1 : qu b.s < qu a.s
  · simp [h1]
  · by_cases h2 : qu a.s < qu b.s
    · simp [h1, h2]; omega
    · by_cases h3 : (a.id : Int) < b.id
      · simp [h1, h2, h3]; omega
      · by_cases h4 : (b.id : Int) < a.id
        · simp [h1, h2, h3, h4]; omega
        · simp [h1, h2, h3, h4]; omega
def ubb (l : List Mk) : List Mk := l.foldl (Srt.put Mk.key ltM) []
def bbj (n : Nat) (c : Ch) : Bool := c.op && decide (max n 1 ≤ (uU c).1)
def kc0 (w : List Wt) (n : Nat) (c : Ch) : Mk := ⟨c.id, (ya0 c (wC w c.id) (xaM n)).1⟩
def jr (l : List Ch) (w : List Wt) (n : Nat) : List Mk := (l.filter (bbj n)).map (kc0 w n)
def zbh (l : List Ch) (w : List Wt) (n : Nat) : List Nat × Int := if zl l then ((ubb (jr l w n)).map Mk.id, 0) else ([], 1)
theorem zaF {l : List Ch} {w : List Wt} {n i : Nat} (h : i < l.length) : jr (l.take (i + 1)) w n = jr (l.take i) w n ++ (if bbj n (l.getD i default) = true then [kc0 w n (l.getD i default)] else []) := by
  rw [take_succ h, jr, List.filter_append, List.map_append]
  congr 1
  generalize l.getD i default = x
  by_cases h : bbj n x = true <;> simp [h]
theorem zam {l : List Ch} {w : List Wt} {n : Nat} : (jr l w n).length ≤ l.length := by
  rw [jr, List.length_map]; exact List.length_filter_le _ _
theorem vaT {n : Nat} (h : ybl (flo .f64 n) = true) : flo .f64 n = none := by
  rw [uac, decide_eq_true_iff, jbx, xR (zA n)] at h
  exact uz h
theorem zaX {op : BinOp} {a b : Option Nat} (h : ybl (far op a b) = true) : far op a b = none := by
  unfold far at *
  cases a with
  | none => rfl
  | some x => cases b with
    | none => rfl
    | some y =>
      simp only at *
      have key : ∀ o : Option Nat, ybl (o.bind (flo .f64)) = true → o.bind (flo .f64) = none := fun o ho => by
        cases o with
        | none => rfl
        | some z => exact vaT ho
      split at h <;> exact key _ h
theorem ua4 {l : List Mk} : ∀ {m : List Mk}, Srt.Up Mk.key ltM m → Srt.Up Mk.key ltM (l.foldl (Srt.put Mk.key ltM) m) := by
  induction l with
  | nil => exact fun h => h
  | cons x l ih => exact fun h => ih (Srt.ybd bbq h)
theorem wbm {l : List Mk} : Srt.Up Mk.key ltM (ubb l) := ua4 .nil
theorem ka3 {l : List Mk} (hd : (l.map Mk.id).Nodup) {x : Mk} : x ∈ ubb l ↔ x ∈ l := by
  have key : ∀ (l m : List Mk), Srt.Up Mk.key ltM m → ((m ++ l).map Mk.id).Nodup → ∀ x, x ∈ l.foldl (Srt.put Mk.key ltM) m ↔ x ∈ m ∨ x ∈ l := by
    intro l
    induction l with
    | nil => intro m _ _ x; simp
    | cons y l ih =>
      intro m hu hn x
      rw [List.foldl_cons, ih _ (Srt.ybd bbq hu) ?_]
      · rw [Srt.bbl bbq hu]
        simp only [List.mem_cons]
        constructor
        · rintro ((h | h) | h)
          · exact .inr (.inl h)
          · exact .inl h.1
          · exact .inr (.inr h)
        · rintro (h | h | h)
          · refine .inl (.inr ⟨h, fun he => ?_⟩)
            have : x.id = y.id := congrArg Prod.snd he
            rw [List.map_append, List.nodup_append] at hn
            exact hn.2.2 _ (List.mem_map.2 ⟨x, h, rfl⟩) _ (by simp) this
          · exact .inl (.inl h)
          · exact .inr h
      · have hp : (Srt.put Mk.key ltM m y).Perm (m ++ [y]) := by
          have ht : ¬ Srt.thr Mk.key ltM m y.key = true := fun h => by
            obtain ⟨z, hz, he⟩ := (Srt.xN bbq hu).1 h
            have : z.id = y.id := congrArg Prod.snd he
            rw [List.map_append, List.nodup_append] at hn
            exact hn.2.2 _ (List.mem_map.2 ⟨z, hz, rfl⟩) _ (by simp) this
          rw [Srt.put, if_neg ht]
          exact Srt.vz.trans (List.perm_append_comm (l₁ := [y]))
        have := (hp.append_right l).map Mk.id
        rw [List.append_assoc] at this
        exact this.nodup_iff.2 hn
  have := key l [] .nil (by simpa using hd) x
  simpa [ubb] using this
theorem qbs {l m : List Mk} (hd : (l.map Mk.id).Nodup) (hu : Srt.Up Mk.key ltM m) (hm : ∀ x, x ∈ m ↔ x ∈ l) : m = ubb l :=
  Srt.ext bbq hu wbm fun x => by rw [hm, ka3 hd]
theorem waY {l : List Ch} {w : List Wt} {n : Nat} (h : zl l) : ((jr l w n).map Mk.id).Nodup := by
  have h1 := (Srt.bf (lt := ltN) Srt.ue).1 h.2.2.1
  unfold Srt.Up at h1
  rw [jr, List.map_map, List.Nodup, List.pairwise_map]
  exact (h1.sublist List.filter_sublist).imp fun hlt he => by
    change _ < _ at hlt
    change Ch.id _ = Ch.id _ at he
    omega
theorem gaI {l : List Mk} {els : List (List C)} (hd : (l.map Mk.id).Nodup) (hp : els.Perm (mks l)) (hs : els.Pairwise fun x y => ¬ mkO (Mk.dec y) (Mk.dec x) < 0) : els = mks (ubb l) := by
  have h1 : mks (els.map Mk.dec) = els := by
    simp only [mks, List.map_map]
    refine (List.map_congr_left fun x hx => ?_).trans (List.map_id _)
    obtain ⟨a, _, rfl⟩ := List.mem_map.1 (hp.mem_iff.1 hx)
    show (Mk.dec a.enc).enc = a.enc
    rw [Mk.vg]
  have h2 : (els.map Mk.dec).Perm l := by
    have := hp.map Mk.dec
    rwa [show (mks l).map Mk.dec = l from ya3 l] at this
  have h3 : els.map Mk.dec = ubb l := by
    refine qbs hd ?_ fun x => h2.mem_iff
    have hd2 : ((els.map Mk.dec).map Mk.id).Nodup := ((h2.map Mk.id).nodup_iff).2 hd
    unfold Srt.Up
    rw [List.Nodup, List.pairwise_map] at hd2
    have hs2 : (els.map Mk.dec).Pairwise fun x y => ¬ mkO y x < 0 := by rw [List.pairwise_map]; exact hs
    refine hd2.imp₂ ?_ hs2
    intro a b hne hno
    rw [gB] at hno
    unfold ltM Mk.key at *
    simp only at *
    omega
  rw [← h3, h1]
@[go_sem] def uaQ (l : List Ch) (w : List Wt) (n : Nat) : D := .tup [.sl (qy (zbh l w n).1), .int .i64 (zbh l w n).2]
@[go_sem] abbrev qcG : FuncId := 83
@[go_sem] def zbA : Tab := [(26, vp), (114, wK), (115, qaD), (116, kS), (117, yK), (118, xab)]
theorem jG : za Tryz.prog zbA := (za.cons gp (za.cons kX (za.cons baP (za.cons uat (za.cons qan (za.cons jaJ za.nil))))))
set_option maxRecDepth 8000 in
set_option maxHeartbeats 1000000 in
theorem ga5 (l : List Ch) (w : List Wt) (n : Nat)  : yb Tryz.prog 83 [.sl (chs l), .sl (wts w), .c (.int .u64 (n : Int))] (uaQ l w n) := by
  refine .of (udg jG (Nat.le_of_ble_eq_true rfl) ?_)
  simp -implicitDefEqProofs only [cdA, go_sem, Go.Proofs.Tryz.f83, reduceIte, reduceCtorEq, Nat.reduceEqDiff, Nat.reduceAdd, Nat.reduceLeDiff, Nat.reduceSub, Nat.reduceMul, Nat.reduceLT, Nat.reduceShiftRight, Nat.reduceMod, Int.reduceLE, Int.reduceLT, Int.reduceToNat, List.cons.injEq, cdB]
  have hcz : xae l = 0 ↔ zl l := by unfold xae; split <;> simp_all
  rw [hcz]
  refine ⟨fun hok hl => ?_, fun hno => by rw [zbh, xae, if_neg hno, if_neg hno]; exact ⟨rfl, rfl⟩⟩
  have hl32 := hok.1
  refine SWp.qbS 9 2 180 rfl (Nat.zero_le _) ?_
  refine SWp.loop (ι := { i : Nat // i ≤ l.length }) (fun i => ⟨[(1, .sl (wts w)), (2, .int .u64 n), (9, .vec 0 (jr (l.take i.1) w n).length), (23, .sl (chs l)), (24, .int .i64 l.length), (25, .int .i64 i.1)], [(0, .vec true 2 180 (mks (jr (l.take i.1) w n)))], 1⟩) (fun i => l.length - i.1) ⟨0, by omega⟩ ?_ ?_
  · simp [go_sem, jr, mks]
  · rintro ⟨i, hi⟩
    refine qb jG.toS qb6 _ _ _ rfl ?_
    simp -implicitDefEqProofs only [cdA, go_sem, reduceIte, reduceCtorEq, Nat.reduceEqDiff, Nat.reduceAdd, Nat.reduceLeDiff, Nat.reduceSub, Nat.reduceMul, Nat.reduceLT, Nat.reduceShiftRight, Nat.reduceMod, Int.reduceLE, Int.reduceLT, Int.reduceToNat, List.cons.injEq, cdB]
    refine ⟨fun h => ⟨by omega, ?_⟩, fun h => ?_⟩
    · have hi' : i < l.length := by omega
      have hc0 : gj (l.getD i default) := hok.2.1 _ (xb.2 ⟨i, hi', rfl⟩)
      have hst := zaF (w := w) (n := n) hi'
      have hr0 := kaM.2 hc0
      have hone : (ya0 (l.getD i default) (wC w (l.getD i default).id) (xaM n)).2 = 0 := by rw [ya0, if_pos hc0]
      have hlen := zam (l := l.take i) (w := w) (n := n)
      rw [List.length_take] at hlen
      generalize hc : l.getD i default = c at *
      have hskip : bbj n c ≠ true → jr (l.take (i + 1)) w n = jr (l.take i) w n := fun he => by rw [hst, if_neg he, List.append_nil]
      refine ⟨fun _ => ⟨fun hop => ⟨fun hr => ?_, fun hr => ?_⟩, fun hop => ?_⟩, fun hr => absurd hr0 hr⟩
      · exact ⟨⟨i + 1, hi'⟩, by dsimp only; omega, by dsimp only; rw [hskip (by rw [bbj]; simp; intro _; omega)]; exact ⟨⟨rfl, i64_in _ (by omega)⟩, rfl⟩⟩
      · refine uc.run jbp jG qa (by kernel_rfl) (by kernel_rfl) ?_
        simp -implicitDefEqProofs only [cdA, go_sem, reduceIte, reduceCtorEq, Nat.reduceEqDiff, Nat.reduceAdd, Nat.reduceLeDiff, Nat.reduceSub, Nat.reduceMul, Nat.reduceLT, Nat.reduceShiftRight, Nat.reduceMod, Int.reduceLE, Int.reduceLT, Int.reduceToNat, List.cons.injEq, cdB]
        have hwm : ∀ a b, wts [⟨a, b⟩] = mks [⟨a, b⟩] := fun _ _ => rfl
        have hel : bbj n c = true := by
          simp at hop
          rw [bbj, hop]; simp; omega
        rw [if_pos hel] at hst
        have hfin : mks (jr (l.take i) w n) ++ wts [⟨c.id, (ya0 c (wC w c.id) (xaM n)).1⟩] = mks (jr (l.take (i + 1)) w n) := by rw [hwm, bbr, hst]; rfl
        have hnext : ∀ s, s = (ya0 c (wC w c.id) (xaM n)).1 → ((jr (l.take i) w n).length + 1) * 16 ≤ 140737488355328 ∧ ∃ i_1 : { i : Nat // i ≤ l.length }, l.length - i_1.val < l.length - i ∧ (D.vec 0 ((jr (l.take i) w n).length + 1) = D.vec 0 (jr (l.take i_1.val) w n).length ∧ IntKind.i64.wrap ((i : Int) + 1) = i_1.val) ∧ Ob.vec true 2 180 (mks (jr (l.take i) w n) ++ wts [⟨c.id, s⟩]) = Ob.vec true 2 180 (mks (jr (l.take i_1.val) w n)) := fun s hs => by
          refine ⟨by omega, ⟨i + 1, hi'⟩, by dsimp only; omega, ⟨by dsimp only; rw [hst]; simp, i64_in _ (by omega)⟩, ?_⟩
          rw [hs, hfin]
        refine ⟨fun _ => ⟨fun hnan => hnext _ ?_, fun _ => hnext _ rfl⟩, fun h => absurd hone h⟩
        have e1 : (ya0 c (wC w c.id) (xaM n)).1 = far .mul (wC w c.id) (far .quo (far .sub (xaM (uU c).1) (xaM n)) (xaM (vf c).2.1)) := by rw [ya0, if_pos hc0]
        rw [e1] at hnan ⊢
        exact (zaX hnan).symm
      · exact ⟨⟨i + 1, hi'⟩, by dsimp only; omega, by dsimp only; rw [hskip (by rw [bbj]; simp at hop; simp [hop])]; exact ⟨⟨rfl, i64_in _ (by omega)⟩, rfl⟩⟩
    · have hi' : i = l.length := by omega
      subst hi'
      rw [List.take_length]
      have hlen := zam (l := l) (w := w) (n := n)
      have hdec : ∀ a : Mk, Mk.dec a.enc = a := Mk.vg
      have hin : ∀ x ∈ mks (jr l w n), ∃ a : Mk, x = a.enc := fun x hx => by
        obtain ⟨a, _, rfl⟩ := List.mem_map.1 hx
        exact ⟨a, rfl⟩
      refine va.sort Tryz.ybU (k := 2) (by decide) Tryz.isAgg180 Tryz.sizeOf180 rfl (cf := fun x y => mkO (Mk.dec x) (Mk.dec y)) rfl (by simp) (by omega) ?_ ?_ ?_ ?_ ?_
      · intro x hx y hy
        obtain ⟨a, rfl⟩ := hin x hx
        obtain ⟨b, rfl⟩ := hin y hy
        rw [hdec, hdec]
        exact ya5 a b
      · intro x hx
        rw [gB]; exact bbq.irr _
      · intro x _ y _ z _
        rw [gB, gB, gB]; exact bbq.tr
      · intro x _ y _ z _
        rw [gB, gB, gB]
        unfold ltM; omega
      · intro els' hp hs
        have he := gaI (waY hok) hp hs
        subst he
        have hol : (ubb (jr l w n)).length = (jr l w n).length := by
          have := hp.length_eq
          rwa [j9, j9] at this
        clear hp hs
        generalize hM : ubb (jr l w n) = M at *
        rw [← hol]
        have hml : M.length ≤ 32 := by omega
        simp -implicitDefEqProofs only [cdA, go_sem, reduceIte, reduceCtorEq, Nat.reduceEqDiff, Nat.reduceAdd, Nat.reduceLeDiff, Nat.reduceSub, Nat.reduceMul, Nat.reduceLT, Nat.reduceShiftRight, Nat.reduceMod, Int.reduceLE, Int.reduceLT, Int.reduceToNat, List.cons.injEq, cdB]
        refine fun _ => ⟨⟨by omega, by omega⟩, fun _ => ?_⟩
        have hz : List.replicate M.length [C.int .u64 0] = qy (List.replicate M.length 0) := by simp [qy]
        rw [hz]
        refine SWp.loop (ι := { x : Nat × List Nat // x.1 ≤ M.length ∧ x.2.length = M.length ∧ ∀ j, j < x.1 → x.2.getD j default = (M.getD j default).id }) (fun x => ⟨[(15, .vec 1 M.length), (77, .vec 0 M.length), (78, .int .i64 M.length), (79, .int .i64 x.1.1)],
          [(1, .vec true 1 28 (qy x.1.2)), (0, .vec true 2 180 (mks M))], 2⟩) (fun x => M.length - x.1.1) ⟨(0, List.replicate M.length 0), by simp⟩ ?_ ?_
        · simp [go_sem]
        · rintro ⟨⟨j, X⟩, hj, hX, hall⟩
          dsimp only at hj hX hall
          refine qb jG.toS qb6 _ _ _ rfl ?_
          simp -implicitDefEqProofs only [cdA, go_sem, reduceIte, reduceCtorEq, Nat.reduceEqDiff, Nat.reduceAdd, Nat.reduceLeDiff, Nat.reduceSub, Nat.reduceMul, Nat.reduceLT, Nat.reduceShiftRight, Nat.reduceMod, Int.reduceLE, Int.reduceLT, Int.reduceToNat, List.cons.injEq, cdB]
          refine ⟨fun h2 => ⟨by omega, by omega, by omega, ⟨hX.symm, by omega⟩, ⟨(j + 1, X.set j (M.getD j default).id), by dsimp only; omega, by dsimp only; rw [List.length_set]; exact hX, fun q hq => ?_⟩, by dsimp only; omega, i64_in _ (by omega), rfl⟩, fun h2 => ?_⟩
          · dsimp only at hq ⊢
            rw [Srt.uu (by omega)]
            by_cases hqj : q = j
            · rw [if_pos hqj, hqj]
            · rw [if_neg hqj]; exact hall q (by omega)
          · have hXm : X = M.map Mk.id := by
              apply List.ext_getElem (by simpa using hX)
              intro q h3 h4
              have := hall q (by omega)
              rw [ve h3, ve (by omega)] at this
              simpa using this
            rw [zbh, if_pos hok, hM, hXm]
            exact ⟨⟨by simp, _, _, _, rfl⟩, rfl⟩
def jS : List D → Option (Prop × D × Fr)
  | [.c (.sl z101), .c (.sl z102), .c (.int .u64 z103)] => some (z101 = chs (ji z101) ∧ z102 = wts (xl z102) ∧ z103 = (z103.toNat : Int), uaQ (ji z101) (xl z102) z103.toNat, [])
  | _ => none
attribute [go_sem] jS
theorem uar : ∀ rs p r fr, jS rs = some (p, r, fr) → p → qg Tryz.prog 83 rs r fr := by
  intro rs p r fr h hp
  unfold jS at h
  split at h <;> cases h
  obtain ⟨hc0, hc1, hc2⟩ := hp
  rename_i z101 z102 z103
  obtain ⟨z101, rfl⟩ : ∃ m, z101 = chs m := ⟨_, hc0⟩
  obtain ⟨z102, rfl⟩ : ∃ m, z102 = wts m := ⟨_, hc1⟩
  obtain ⟨z103, rfl⟩ : ∃ m : Nat, z103 = m := ⟨_, hc2⟩
  simp only [Int.toNat_natCast, jb, jd]
  exact ga5 z101 z102 z103
def bp (l : List Ch) (w : List Wt) (n : Nat) : Nat × Int := if (zbh l w n).2 = 0 then (match (zbh l w n).1 with
  | [] => (0, 5)
  | x :: _ => (x, 0)) else (0, (zbh l w n).2)
@[go_sem] def qaP (l : List Ch) (w : List Wt) (n : Nat) : D := .tup [.int .u64 ((bp l w n).1 : Int), .int .i64 (bp l w n).2]
@[go_sem] abbrev wcG : FuncId := 41
@[go_sem] def wbk : Tab := [(83, jS)]
theorem vaG : za Tryz.prog wbk := (za.cons uar za.nil)
set_option maxRecDepth 8000 in
set_option maxHeartbeats 1000000 in
theorem va9 (l : List Ch) (w : List Wt) (n : Nat)  : yb Tryz.prog 41 [.sl (chs l), .sl (wts w), .c (.int .u64 (n : Int))] (qaP l w n) := by
  refine .of (bda vaG (Nat.le_of_ble_eq_true rfl) ?_)
  simp -implicitDefEqProofs only [cdA, go_sem, Go.Proofs.Tryz.f41, reduceIte, reduceCtorEq, Nat.reduceEqDiff, Nat.reduceAdd, Nat.reduceLeDiff, Nat.reduceSub, Nat.reduceMul, Nat.reduceLT, Nat.reduceShiftRight, Nat.reduceMod, Int.reduceLE, Int.reduceLT, Int.reduceToNat, List.cons.injEq, cdB]
  unfold bp
  refine ⟨fun h hl => ?_, fun h => by rw [if_neg h]; exact ⟨rfl, rfl⟩⟩
  rw [if_pos h]
  cases (zbh l w n).1 with
  | nil => exact ⟨fun _ => ⟨rfl, rfl⟩, fun h => absurd rfl h⟩
  | cons x t => exact ⟨fun h => absurd h (by rw [List.length_cons]; omega), fun _ => ⟨by rw [List.length_cons]; omega, rfl, rfl⟩⟩
def bQ : List D → Option (Prop × D × Fr)
  | [.c (.sl z104), .c (.sl z105), .c (.int .u64 z106)] => some (z104 = chs (ji z104) ∧ z105 = wts (xl z105) ∧ z106 = (z106.toNat : Int), qaP (ji z104) (xl z105) z106.toNat, [])
  | _ => none
attribute [go_sem] bQ
theorem wat : ∀ rs p r fr, bQ rs = some (p, r, fr) → p → qg Tryz.prog 41 rs r fr := by
  intro rs p r fr h hp
  unfold bQ at h
  split at h <;> cases h
  obtain ⟨hc0, hc1, hc2⟩ := hp
  rename_i z104 z105 z106
  obtain ⟨z104, rfl⟩ : ∃ m, z104 = chs m := ⟨_, hc0⟩
  obtain ⟨z105, rfl⟩ : ∃ m, z105 = wts m := ⟨_, hc1⟩
  obtain ⟨z106, rfl⟩ : ∃ m : Nat, z106 = m := ⟨_, hc2⟩
  simp only [Int.toNat_natCast, jb, jd]
  exact va9 z104 z105 z106
end Dm
namespace Dm
open Go Go.Proofs Go.IntWalk
structure Wl where
  c : List Ch
  w : List Wt
  i : List Iv
  p : List Py
  f : Fd
  next : Nat
  tick : Nat
deriving DecidableEq, Inhabited
@[go_sem] def Wl.enc (e : Wl) : List C := [.sl (chs e.c), .sl (wts e.w), .sl (ivs e.i), .sl (pys e.p), .int .u64 (e.f.next : Int), .sl (evs e.f.l), .int .u64 (e.next : Int), .int .u64 (e.tick : Int)]
def Wl.dec : List C → Wl
  | [.sl z220, .sl z221, .sl z222, .sl z223, .int .u64 z225, .sl z226, .int .u64 z227, .int .u64 z228] => (⟨(ji z220), (xl z221), (xm z222), (vl z223), (⟨z225.toNat, (yo z226)⟩ : Fd), z227.toNat, z228.toNat⟩ : Wl)
  | _ => default
def wls (l : List Wl) : List (List C) := l.map Wl.enc
def vc5 (l : List (List C)) : List Wl := l.map Wl.dec
@[simp, go_sem] theorem bbD (l : List Wl) : (wls l).length = l.length := by simp [wls]
@[go_sem] theorem wcu (l : List Wl) (i : Nat) : (wls l).getD i [.sl [], .sl [], .sl [], .sl [], .int .u64 0, .sl [], .int .u64 0, .int .u64 0] = (l.getD i default).enc := by
  simp only [wls, List.getD_eq_getElem?_getD, List.getElem?_map]
  cases l[i]? <;> rfl
@[go_sem] theorem bck (l : List Wl) : gh 8 (wls l) = True := by
  simp [gh, wls, Wl.enc]
theorem Wl.vg (e : Wl) : Wl.dec e.enc = e := by
  simp [Wl.enc, Wl.dec, jb, jc, qc, yc, jd]
@[go_sem] theorem wcj (l : List Wl) : vc5 (wls l) = l := by
  simp only [vc5, wls, List.map_map]
  exact List.map_id'' (fun e => Wl.vg e) l
@[go_sem] theorem gcH (a b : List Wl) : wls a ++ wls b = wls (a ++ b) := by simp [wls]
@[go_sem] theorem ycf (l : List Wl) (k : Nat) : (wls l).drop k = wls (l.drop k) := by simp [wls]
@[go_sem] theorem yb5 (l : List Wl) (k : Nat) : (wls l).take k = wls (l.take k) := by simp [wls]
@[go_sem] theorem vcy (z229 : List Ch) (z230 : List Wt) (z231 : List Iv) (z232 : List Py) (z233 : Int) (z234 : List Ev) (z235 : Int) (z236 : Int) (hz233 : 0 ≤ z233) (hz235 : 0 ≤ z235) (hz236 : 0 ≤ z236) : [[C.sl (chs z229), C.sl (wts z230), C.sl (ivs z231), C.sl (pys z232), C.int .u64 z233, C.sl (evs z234), C.int .u64 z235, C.int .u64 z236]] = wls [⟨z229, z230, z231, z232, ⟨z233.toNat, z234⟩, z235.toNat, z236.toNat⟩] := by simp [wls, Wl.enc, Int.toNat_of_nonneg hz233, Int.toNat_of_nonneg hz235, Int.toNat_of_nonneg hz236]
@[go_sem] theorem ucs (l : List Wl) (i : Nat) (z229 : List Ch) (z230 : List Wt) (z231 : List Iv) (z232 : List Py) (z233 : Int) (z234 : List Ev) (z235 : Int) (z236 : Int) (hz233 : 0 ≤ z233) (hz235 : 0 ≤ z235) (hz236 : 0 ≤ z236) : (wls l).set i [C.sl (chs z229), C.sl (wts z230), C.sl (ivs z231), C.sl (pys z232), C.int .u64 z233, C.sl (evs z234), C.int .u64 z235, C.int .u64 z236] = wls (l.set i ⟨z229, z230, z231, z232, ⟨z233.toNat, z234⟩, z235.toNat, z236.toNat⟩) := by simp [wls, List.map_set, Wl.enc, Int.toNat_of_nonneg hz233, Int.toNat_of_nonneg hz235, Int.toNat_of_nonneg hz236]
@[go_sem] theorem ucp (l : List Wl) (z229 : List Ch) (z230 : List Wt) (z231 : List Iv) (z232 : List Py) (z233 : Int) (z234 : List Ev) (z235 : Int) (z236 : Int) (hz233 : 0 ≤ z233) (hz235 : 0 ≤ z235) (hz236 : 0 ≤ z236) : [C.sl (chs z229), C.sl (wts z230), C.sl (ivs z231), C.sl (pys z232), C.int .u64 z233, C.sl (evs z234), C.int .u64 z235, C.int .u64 z236] :: wls l = wls (⟨z229, z230, z231, z232, ⟨z233.toNat, z234⟩, z235.toNat, z236.toNat⟩ :: l) := by simp [wls, Wl.enc, Int.toNat_of_nonneg hz233, Int.toNat_of_nonneg hz235, Int.toNat_of_nonneg hz236]
@[go_sem] theorem Wl.eta {e : Wl} : (⟨e.c, e.w, e.i, e.p, e.f, e.next, e.tick⟩ : Wl) = e := rfl
def okW (w : Wl) : Prop := zl w.c ∧ xM w.i ∧ vaO w.f ∧ w.w.length ≤ 32 ∧ w.next ≠ 0 ∧ w.next ≤ MM ∧ (0 < w.p.length → (w.p.getD (w.p.length - 1) default).id < w.next) ∧ zY w.p w.c = (true, 0)
instance (w : Wl) : Decidable (okW w) := by unfold okW; infer_instance
def bt (w : Wl) : Int := if okW w then 0 else 1
theorem ql {w : Wl} : bt w = 0 ↔ okW w := by unfold bt; split <;> rename_i h <;> simp only [h] <;> decide
@[go_sem] def gbi  : D := .agg [.sl (chs []), .sl (wts []), .sl (ivs []), .sl (pys []), .int .u64 1, .sl (evs []), .int .u64 1, .int .u64 0]
@[go_sem] abbrev xcS : FuncId := 5
@[go_sem] def vbW : Tab := [(18, yaf)]
theorem uaX : za Tryz.prog vbW := (za.cons jaH za.nil)
set_option maxRecDepth 8000 in
set_option maxHeartbeats 1000000 in
theorem ybv   : yb Tryz.prog 5 [] (gbi ) := by
  refine .of (ac5 uaX (Nat.le_of_ble_eq_true rfl) ?_)
  simp -implicitDefEqProofs only [cdA, go_sem, Go.Proofs.Tryz.f5, reduceIte, reduceCtorEq, Nat.reduceEqDiff, Nat.reduceAdd, Nat.reduceLeDiff, Nat.reduceSub, Nat.reduceMul, Nat.reduceLT, Nat.reduceShiftRight, Nat.reduceMod, Int.reduceLE, Int.reduceLT, Int.reduceToNat, List.cons.injEq, cdB]
  exact ⟨rfl, rfl, rfl, rfl⟩
def xV : List D → Option (Prop × D × Fr)
  | [] => some (True, gbi , [])
  | _ => none
attribute [go_sem] xV
theorem x8 : ∀ rs p r fr, xV rs = some (p, r, fr) → p → qg Tryz.prog 5 rs r fr := by
  intro rs p r fr h hp
  unfold xV at h
  split at h <;> cases h
  exact ybv 
@[go_sem] def xay (w : Wl) : D := .int .i64 (bt w)
@[go_sem] abbrev qb9 : FuncId := 9
@[go_sem] def xba : Tab := [(26, vp), (27, yx), (28, yC), (8, gE)]
theorem qX : za Tryz.prog xba := (za.cons gp (za.cons vC (za.cons gP (za.cons wO za.nil))))
set_option maxRecDepth 8000 in
set_option maxHeartbeats 1000000 in
theorem jaK (w : Wl) (h : w.f.next ≤ 18446744073709551615) : yb Tryz.prog 9 [.agg [.sl (chs w.c), .sl (wts w.w), .sl (ivs w.i), .sl (pys w.p), .c (.int .u64 (w.f.next : Int)), .sl (evs w.f.l), .c (.int .u64 (w.next : Int)), .c (.int .u64 (w.tick : Int))]] (xay w) := by
  refine .of (ac9 qX (Nat.le_of_ble_eq_true rfl) ?_)
  simp -implicitDefEqProofs only [cdA, go_sem, Go.Proofs.Tryz.f9, reduceIte, reduceCtorEq, Nat.reduceEqDiff, Nat.reduceAdd, Nat.reduceLeDiff, Nat.reduceSub, Nat.reduceMul, Nat.reduceLT, Nat.reduceShiftRight, Nat.reduceMod, Int.reduceLE, Int.reduceLT, Int.reduceToNat, List.cons.injEq, cdB]
  have hbad : ¬ okW w → 1 = bt w := fun h => by rw [bt, if_neg h]
  have hl0 : xae w.c = 0 ↔ zl w.c := by unfold xae; split <;> rename_i h <;> simp only [h] <;> decide
  have hi0 : bas w.i = 0 ↔ xM w.i := by unfold bas; split <;> rename_i h <;> simp only [h] <;> decide
  refine ⟨fun h1 => ⟨fun h2 => ⟨h, fun h3 _ => ⟨fun h4 => ⟨fun h5 => ⟨fun h6 => hbad fun ho => ?_, fun h6 _ => ?_⟩, fun h5 => hbad fun ho => ?_⟩, fun h4 => hbad fun ho => ?_⟩, fun h3 => hbad fun ho => h3 (yam.2 ho.2.2.1)⟩, fun h2 => hbad fun ho => h2 (hi0.2 ho.2.1)⟩, fun h1 => hbad fun ho => h1 (hl0.2 ho.1)⟩
  rotate_left 1
  · refine uc.run kcv qX qa (by kernel_rfl) (by kernel_rfl) ?_
    simp -implicitDefEqProofs only [cdA, go_sem, reduceIte, reduceCtorEq, Nat.reduceEqDiff, Nat.reduceAdd, Nat.reduceLeDiff, Nat.reduceSub, Nat.reduceMul, Nat.reduceLT, Nat.reduceShiftRight, Nat.reduceMod, Int.reduceLE, Int.reduceLT, Int.reduceToNat, List.cons.injEq, cdB]
    have hL := hl0.1 h1
    have hh : ∀ c ∈ w.c, c.holds.length ≤ 1000000 := fun c hc => by have := (hL.2.1 c hc).2.2.1; omega
    have hfin : (0 < w.p.length → (w.p.getD (w.p.length - 1) default).id < w.next) → ((zY w.p w.c).2 = 0 → ((zY w.p w.c).1 = true → 0 = bt w) ∧ ((zY w.p w.c).1 = false → 1 = bt w)) ∧ (¬(zY w.p w.c).2 = 0 → 1 = bt w) := fun h7 =>
      ⟨fun h8 => ⟨fun h9 => by
        rw [bt, if_pos (show okW w from ⟨hL, hi0.1 h2, yam.1 h3, by omega, by omega, by unfold MM; omega, h7, Prod.ext h9 h8⟩)], fun h9 => hbad fun ho => by have := ho.2.2.2.2.2.2.2; rw [this] at h9; cases h9⟩,
        fun h8 => hbad fun ho => by have := ho.2.2.2.2.2.2.2; rw [this] at h8; exact h8 rfl⟩
    refine ⟨fun h7 => ?_, fun h7 => ⟨hh, hfin fun h => absurd h (by omega)⟩⟩
    rw [i64_in _ (by omega), show ((w.p.length : Int) - 1).toNat = w.p.length - 1 by omega]
    refine ⟨by omega, fun h8 => hbad fun ho => ?_, fun h8 => ⟨hh, hfin fun _ => by omega⟩⟩
    have := ho.2.2.2.2.2.2.1 (by omega); omega
  · have := ho.2.2.2.2.1; omega
  · have := ho.2.2.2.1; omega
  · have := ho.2.2.2.2.2.1; unfold MM at this; omega
@[go_sem] def vaA (w : Wl) : Prop := (w.f.next ≤ 18446744073709551615)
def jh : List D → Option (Prop × D × Fr)
  | [.agg [.c (.sl z238), .c (.sl z239), .c (.sl z240), .c (.sl z241), .c (.int .u64 z243), .c (.sl z244), .c (.int .u64 z245), .c (.int .u64 z246)]] => some (z238 = chs (ji z238) ∧ z239 = wts (xl z239) ∧ z240 = ivs (xm z240) ∧ z241 = pys (vl z241) ∧ z243 = (z243.toNat : Int) ∧ z244 = evs (yo z244) ∧ z245 = (z245.toNat : Int) ∧ z246 = (z246.toNat : Int) ∧ vaA (⟨(ji z238), (xl z239), (xm z240), (vl z241), (⟨z243.toNat, (yo z244)⟩ : Fd), z245.toNat, z246.toNat⟩ : Wl), xay (⟨(ji z238), (xl z239), (xm z240), (vl z241), (⟨z243.toNat, (yo z244)⟩ : Fd), z245.toNat, z246.toNat⟩ : Wl), [])
  | _ => none
attribute [go_sem] jh
theorem xg : ∀ rs p r fr, jh rs = some (p, r, fr) → p → qg Tryz.prog 9 rs r fr := by
  intro rs p r fr h hp
  unfold jh at h
  split at h <;> cases h
  obtain ⟨hc0, hc1, hc2, hc3, hc4, hc5, hc6, hc7, hp⟩ := hp
  rename_i z238 z239 z240 z241 z243 z244 z245 z246
  obtain ⟨z238, rfl⟩ : ∃ m, z238 = chs m := ⟨_, hc0⟩
  obtain ⟨z239, rfl⟩ : ∃ m, z239 = wts m := ⟨_, hc1⟩
  obtain ⟨z240, rfl⟩ : ∃ m, z240 = ivs m := ⟨_, hc2⟩
  obtain ⟨z241, rfl⟩ : ∃ m, z241 = pys m := ⟨_, hc3⟩
  obtain ⟨z243, rfl⟩ : ∃ m : Nat, z243 = m := ⟨_, hc4⟩
  obtain ⟨z244, rfl⟩ : ∃ m, z244 = evs m := ⟨_, hc5⟩
  obtain ⟨z245, rfl⟩ : ∃ m : Nat, z245 = m := ⟨_, hc6⟩
  obtain ⟨z246, rfl⟩ : ∃ m : Nat, z246 = m := ⟨_, hc7⟩
  simp only [Int.toNat_natCast, jb, jc, qc, yc, jd]
  simp only [Int.toNat_natCast, jb, jc, qc, yc, jd, vaA] at hp
  exact jaK ⟨z238, z239, z240, z241, ⟨z243, z244⟩, z245, z246⟩ hp
end Dm
namespace Dm
open Go Go.Proofs Go.IntWalk
@[go_sem] def uaC (l : List Hd) : D := .sl (hds l)
@[go_sem] abbrev ub4 : FuncId := 73
@[go_sem] def ba5 : Tab := []
theorem qar : za Tryz.prog ba5 := za.nil
set_option maxRecDepth 8000 in
set_option maxHeartbeats 1000000 in
theorem kaV (l : List Hd) (h : l.length ≤ 1000000) : yb Tryz.prog 73 [.sl (hds l)] (uaC l) := by
  refine .of (bc5 qar (Nat.le_of_ble_eq_true rfl) ?_)
  simp -implicitDefEqProofs only [cdA, go_sem, Go.Proofs.Tryz.f73, reduceIte, reduceCtorEq, Nat.reduceEqDiff, Nat.reduceAdd, Nat.reduceLeDiff, Nat.reduceSub, Nat.reduceMul, Nat.reduceLT, Nat.reduceShiftRight, Nat.reduceMod, Int.reduceLE, Int.reduceLT, Int.reduceToNat, List.cons.injEq, cdB]
  exact fun b hb => ⟨hb, fun _ => ⟨by omega, _, _, _, rfl⟩⟩
@[go_sem] def waB (l : List Hd) : Prop := (l.length ≤ 1000000)
def zx : List D → Option (Prop × D × Fr)
  | [.c (.sl z107)] => some (z107 = hds (qq z107) ∧ waB (qq z107), uaC (qq z107), [])
  | _ => none
attribute [go_sem] zx
theorem zD : ∀ rs p r fr, zx rs = some (p, r, fr) → p → qg Tryz.prog 73 rs r fr := by
  intro rs p r fr h hp
  unfold zx at h
  split at h <;> cases h
  obtain ⟨hc0, hp⟩ := hp
  rename_i z107
  obtain ⟨z107, rfl⟩ : ∃ m, z107 = hds m := ⟨_, hc0⟩
  simp only [ze]
  simp only [ze, waB] at hp
  exact kaV z107 hp
@[go_sem] def jbT (c : Ch) : D := .agg [.int .u64 c.id, .int .u64 c.loc, .int .u64 c.rem, .int .u64 c.res, .int .u64 c.most, .sl (hds c.holds), .bool c.op]
@[go_sem] abbrev zdl : FuncId := 30
@[go_sem] def ycu : Tab := [(73, zx)]
theorem ya7 : za Tryz.prog ycu := (za.cons zD za.nil)
set_option maxRecDepth 8000 in
set_option maxHeartbeats 1000000 in
theorem ubR (c : Ch) (h : c.holds.length ≤ 1000000) : yb Tryz.prog 30 [.agg [.c (.int .u64 (c.id : Int)), .c (.int .u64 (c.loc : Int)), .c (.int .u64 (c.rem : Int)), .c (.int .u64 (c.res : Int)), .c (.int .u64 (c.most : Int)), .sl (hds c.holds), .c (.bool c.op)]] (jbT c) := by
  refine .of (gdg ya7 (Nat.le_of_ble_eq_true rfl) ?_)
  simp -implicitDefEqProofs only [cdA, go_sem, Go.Proofs.Tryz.f30, reduceIte, reduceCtorEq, Nat.reduceEqDiff, Nat.reduceAdd, Nat.reduceLeDiff, Nat.reduceSub, Nat.reduceMul, Nat.reduceLT, Nat.reduceShiftRight, Nat.reduceMod, Int.reduceLE, Int.reduceLT, Int.reduceToNat, List.cons.injEq, cdB]
  exact h
@[go_sem] def xbY (c : Ch) : Prop := (c.holds.length ≤ 1000000)
def w8 : List D → Option (Prop × D × Fr)
  | [.agg [.c (.int .u64 z109), .c (.int .u64 z110), .c (.int .u64 z111), .c (.int .u64 z112), .c (.int .u64 z113), .c (.sl z114), .c (.bool z115)]] => some (z109 = (z109.toNat : Int) ∧ z110 = (z110.toNat : Int) ∧ z111 = (z111.toNat : Int) ∧ z112 = (z112.toNat : Int) ∧ z113 = (z113.toNat : Int) ∧ z114 = hds (qq z114) ∧ xbY (⟨z109.toNat, z110.toNat, z111.toNat, z112.toNat, z113.toNat, (qq z114), z115⟩ : Ch), jbT (⟨z109.toNat, z110.toNat, z111.toNat, z112.toNat, z113.toNat, (qq z114), z115⟩ : Ch), [])
  | _ => none
attribute [go_sem] w8
theorem zW : ∀ rs p r fr, w8 rs = some (p, r, fr) → p → qg Tryz.prog 30 rs r fr := by
  intro rs p r fr h hp
  unfold w8 at h
  split at h <;> cases h
  obtain ⟨hc0, hc1, hc2, hc3, hc4, hc5, hp⟩ := hp
  rename_i z109 z110 z111 z112 z113 z114 z115
  obtain ⟨z109, rfl⟩ : ∃ m : Nat, z109 = m := ⟨_, hc0⟩
  obtain ⟨z110, rfl⟩ : ∃ m : Nat, z110 = m := ⟨_, hc1⟩
  obtain ⟨z111, rfl⟩ : ∃ m : Nat, z111 = m := ⟨_, hc2⟩
  obtain ⟨z112, rfl⟩ : ∃ m : Nat, z112 = m := ⟨_, hc3⟩
  obtain ⟨z113, rfl⟩ : ∃ m : Nat, z113 = m := ⟨_, hc4⟩
  obtain ⟨z114, rfl⟩ : ∃ m, z114 = hds m := ⟨_, hc5⟩
  simp only [Int.toNat_natCast, ze]
  simp only [Int.toNat_natCast, ze, xbY] at hp
  exact ubR ⟨z109, z110, z111, z112, z113, z114, z115⟩ hp
def jf (l : List Ch) (id : Nat) : Int × Int := if zl l then (if Srt.thr Ch.id ltN l id = true then ((Srt.pos Ch.id ltN l id : Nat), 0) else (0, 5)) else (0, 1)
@[go_sem] def yaX (l : List Ch) (id : Nat) : D := .tup [.int .i64 (jf l id).1, .int .i64 (jf l id).2]
@[go_sem] abbrev ucC : FuncId := 29
@[go_sem] def ybm : Tab := [(26, vp), (72, uy)]
theorem vM : za Tryz.prog ybm := (za.cons gp (za.cons vD za.nil))
set_option maxRecDepth 8000 in
set_option maxHeartbeats 1000000 in
theorem ga8 (l : List Ch) (id : Nat)  : yb Tryz.prog 29 [.sl (chs l), .c (.int .u64 (id : Int))] (yaX l id) := by
  refine .of (gdi vM (Nat.le_of_ble_eq_true rfl) ?_)
  simp -implicitDefEqProofs only [cdA, go_sem, Go.Proofs.Tryz.f29, reduceIte, reduceCtorEq, Nat.reduceEqDiff, Nat.reduceAdd, Nat.reduceLeDiff, Nat.reduceSub, Nat.reduceMul, Nat.reduceLT, Nat.reduceShiftRight, Nat.reduceMod, Int.reduceLE, Int.reduceLT, Int.reduceToNat, List.cons.injEq, cdB]
  have hcz : xae l = 0 ↔ zl l := by unfold xae; split <;> simp_all
  refine ⟨fun hok0 => ?_, fun hno0 => by
    have hno : ¬ zl l := fun h => hno0 (hcz.2 h)
    rw [jf, xae, if_neg hno, if_neg hno]; exact ⟨rfl, rfl⟩⟩
  have hok := hcz.1 hok0
  have hu : Srt.Up Ch.id ltN l := (Srt.bf (lt := ltN) Srt.ue).1 hok.2.2.1
  have hl32 := hok.1
  refine yc0 vM (Nat.le_of_ble_eq_true rfl) ?_
  simp -implicitDefEqProofs only [cdA, go_sem, Go.Proofs.Tryz.f71, reduceIte, reduceCtorEq, Nat.reduceEqDiff, Nat.reduceAdd, Nat.reduceLeDiff, Nat.reduceSub, Nat.reduceMul, Nat.reduceLT, Nat.reduceShiftRight, Nat.reduceMod, Int.reduceLE, Int.reduceLT, Int.reduceToNat, List.cons.injEq, cdB]
  refine fun _ => SWp.loop (ι := { x : Nat × Nat // x.1 ≤ x.2 ∧ x.2 ≤ l.length ∧ (∀ k, k < x.1 → (l.getD k default).id < id) ∧ ∀ k, x.2 ≤ k → k < l.length → ¬ (l.getD k default).id < id }) (fun x => ⟨[(0, .sl (chs l)), (1, .int .u64 id), (2, .fn (.func 72) [] []), (8, .int .i64 l.length), (9, .int .i64 x.1.1), (10, .int .i64 x.1.2)], [], 0⟩) (fun x => x.1.2 - x.1.1) ⟨(0, l.length), by simp, by simp, fun k hk => absurd hk (by simp), fun k h1 h2 => absurd h1 (by simpa using h2)⟩ ?_ ?_
  · simp [go_sem]
  · rintro ⟨⟨i, j⟩, hij, hj, hlo, hup⟩
    dsimp only at hij hj hlo hup
    refine qb vM.toS zb7 _ _ _ rfl ?_
    simp -implicitDefEqProofs only [cdA, go_sem, reduceIte, reduceCtorEq, Nat.reduceEqDiff, Nat.reduceAdd, Nat.reduceLeDiff, Nat.reduceSub, Nat.reduceMul, Nat.reduceLT, Nat.reduceShiftRight, Nat.reduceMod, Int.reduceLE, Int.reduceLT, Int.reduceToNat, List.cons.injEq, cdB]
    rw [wV hij hj ‹_›]
    refine ⟨fun h4 => ?_, fun h4 => ?_⟩
    · have hm : (i + j) / 2 < l.length := by omega
      rw [xk, Int.toNat_natCast]
      refine ⟨by omega, fun h5 => ⟨⟨((i + j) / 2 + 1, j), by dsimp only; omega, hj, fun k hk => ?_, hup⟩, by dsimp only; omega, i64_in _ (by omega), rfl⟩, fun h5 => ⟨⟨(i, (i + j) / 2), by dsimp only; omega, by dsimp only; omega, hlo, fun k hk1 hk2 => ?_⟩, by dsimp only; omega, rfl, rfl⟩⟩
      · dsimp only at hk
        by_cases hkm : k = (i + j) / 2
        · rw [hkm]; omega
        · have := Srt.ki.1 hu k _ (by omega) hm
          simp only [ltN] at this; omega
      · dsimp only at hk1
        by_cases hkm : k = (i + j) / 2
        · rw [hkm]; omega
        · have := Srt.ki.1 hu ((i + j) / 2) k (by omega) hk2
          simp only [ltN] at this; omega
    · have hp : Srt.pos Ch.id ltN l id = i := Srt.pos_eq (by omega) hlo (fun h => hup i (by omega) h)
      rw [jf, if_pos hok, Srt.thr, hp, vA]
      refine ⟨fun h5 => ⟨by omega, fun h6 => ?_, fun h6 => ?_⟩, fun h5 => ?_⟩
      · rw [if_pos (decide_eq_true ⟨by omega, by omega⟩)]; exact ⟨rfl, rfl⟩
      · rw [if_neg (by rw [decide_eq_true_iff]; omega)]; exact ⟨rfl, rfl⟩
      · rw [if_neg (by rw [decide_eq_true_iff]; omega)]; exact ⟨rfl, rfl⟩
def gu : List D → Option (Prop × D × Fr)
  | [.c (.sl z116), .c (.int .u64 z117)] => some (z116 = chs (ji z116) ∧ z117 = (z117.toNat : Int), yaX (ji z116) z117.toNat, [])
  | _ => none
attribute [go_sem] gu
theorem jt : ∀ rs p r fr, gu rs = some (p, r, fr) → p → qg Tryz.prog 29 rs r fr := by
  intro rs p r fr h hp
  unfold gu at h
  split at h <;> cases h
  obtain ⟨hc0, hc1⟩ := hp
  rename_i z116 z117
  obtain ⟨z116, rfl⟩ : ∃ m, z116 = chs m := ⟨_, hc0⟩
  obtain ⟨z117, rfl⟩ : ∃ m : Nat, z117 = m := ⟨_, hc1⟩
  simp only [Int.toNat_natCast, jb]
  exact ga8 z116 z117
def bap (l : List Ch) (id : Nat) : Ch × Int := if zl l then (if Srt.thr Ch.id ltN l id = true then (l.getD (Srt.pos Ch.id ltN l id) default, 0) else (default, 5)) else (default, 1)
@[go_sem] def bbe (l : List Ch) (id : Nat) : D := .tup [.agg [.int .u64 (bap l id).1.id, .int .u64 (bap l id).1.loc, .int .u64 (bap l id).1.rem, .int .u64 (bap l id).1.res, .int .u64 (bap l id).1.most, .sl (hds (bap l id).1.holds), .bool (bap l id).1.op], .int .i64 (bap l id).2]
@[go_sem] abbrev wcW : FuncId := 10
@[go_sem] def jbL : Tab := [(29, gu), (30, w8)]
theorem qaN : za Tryz.prog jbL := (za.cons jt (za.cons zW za.nil))
set_option maxRecDepth 8000 in
set_option maxHeartbeats 1000000 in
theorem bbm (l : List Ch) (id : Nat)  : yb Tryz.prog 10 [.sl (chs l), .c (.int .u64 (id : Int))] (bbe l id) := by
  refine .of (wdd qaN (Nat.le_of_ble_eq_true rfl) ?_)
  simp -implicitDefEqProofs only [cdA, go_sem, Go.Proofs.Tryz.f10, reduceIte, reduceCtorEq, Nat.reduceEqDiff, Nat.reduceAdd, Nat.reduceLeDiff, Nat.reduceSub, Nat.reduceMul, Nat.reduceLT, Nat.reduceShiftRight, Nat.reduceMod, Int.reduceLE, Int.reduceLT, Int.reduceToNat, List.cons.injEq, cdB]
  by_cases hok : zl l
  · by_cases ht : Srt.thr Ch.id ltN l id = true
    · have e1 : jf l id = (((Srt.pos Ch.id ltN l id : Nat) : Int), 0) := by rw [jf, if_pos hok, if_pos ht]
      have e2 : bap l id = (l.getD (Srt.pos Ch.id ltN l id) default, 0) := by rw [bap, if_pos hok, if_pos ht]
      have hp : Srt.pos Ch.id ltN l id < l.length := by
        unfold Srt.thr at ht
        exact (of_decide_eq_true ht).1
      rw [e1, e2, Int.toNat_natCast]
      have := (hok.2.1 _ (xb.2 ⟨_, hp, rfl⟩)).2.2.1
      exact ⟨fun _ => ⟨⟨by omega, by omega⟩, by omega, ⟨rfl, rfl, rfl, rfl, rfl, rfl, rfl⟩, rfl⟩, fun h => absurd rfl h⟩
    · have e1 : jf l id = (0, 5) := by rw [jf, if_pos hok, if_neg ht]
      have e2 : bap l id = (default, 5) := by rw [bap, if_pos hok, if_neg ht]
      rw [e1, e2]
      exact ⟨fun h => absurd h (by decide), fun _ => ⟨⟨rfl, rfl, rfl, rfl, rfl, rfl, rfl⟩, rfl⟩⟩
  · have e1 : jf l id = (0, 1) := by rw [jf, if_neg hok]
    have e2 : bap l id = (default, 1) := by rw [bap, if_neg hok]
    rw [e1, e2]
    exact ⟨fun h => absurd h (by decide), fun _ => ⟨⟨rfl, rfl, rfl, rfl, rfl, rfl, rfl⟩, rfl⟩⟩
def yab : List D → Option (Prop × D × Fr)
  | [.c (.sl z118), .c (.int .u64 z119)] => some (z118 = chs (ji z118) ∧ z119 = (z119.toNat : Int), bbe (ji z118) z119.toNat, [])
  | _ => none
attribute [go_sem] yab
theorem yaI : ∀ rs p r fr, yab rs = some (p, r, fr) → p → qg Tryz.prog 10 rs r fr := by
  intro rs p r fr h hp
  unfold yab at h
  split at h <;> cases h
  obtain ⟨hc0, hc1⟩ := hp
  rename_i z118 z119
  obtain ⟨z118, rfl⟩ : ∃ m, z118 = chs m := ⟨_, hc0⟩
  obtain ⟨z119, rfl⟩ : ∃ m : Nat, z119 = m := ⟨_, hc1⟩
  simp only [Int.toNat_natCast, jb]
  exact bbm z118 z119
end Dm
namespace Dm
open Go Go.Proofs Go.IntWalk
@[go_sem] def uax (l : List Ch) : D := .vec 0 l.length
@[go_sem] def kaj (l : List Ch) : Fr := [(7, 37, true, chs l)]
@[go_sem] abbrev qcf : FuncId := 111
@[go_sem] def ka8 : Tab := []
theorem xaw : za Tryz.prog ka8 := za.nil
set_option maxRecDepth 8000 in
set_option maxHeartbeats 1000000 in
theorem xaQ (l : List Ch) (h : l.length ≤ 1000000) : zn Tryz.prog 111 [.sl (chs l)] (uax l) (kaj l) := by
  refine .of (qcq xaw (Nat.le_of_ble_eq_true rfl) ?_)
  simp -implicitDefEqProofs only [cdA, go_sem, Go.Proofs.Tryz.f111, reduceIte, reduceCtorEq, Nat.reduceEqDiff, Nat.reduceAdd, Nat.reduceLeDiff, Nat.reduceSub, Nat.reduceMul, Nat.reduceLT, Nat.reduceShiftRight, Nat.reduceMod, Int.reduceLE, Int.reduceLT, Int.reduceToNat, List.cons.injEq, cdB]
  refine fun b hb => ⟨fun h => ?_, fun h => ?_⟩
  · exact ⟨[none], by simp [go_sem, hb h], by cases l <;> simp_all [go_sem, chs]⟩
  · exact ⟨by omega, [some 0], by simp [go_sem]⟩
@[go_sem] def baz (l : List Ch) : Prop := (l.length ≤ 1000000)
def qD : List D → Option (Prop × D × Fr)
  | [.c (.sl z120)] => some (z120 = chs (ji z120) ∧ baz (ji z120), uax (ji z120), kaj (ji z120))
  | _ => none
attribute [go_sem] qD
theorem bO : ∀ rs p r fr, qD rs = some (p, r, fr) → p → qg Tryz.prog 111 rs r fr := by
  intro rs p r fr h hp
  unfold qD at h
  split at h <;> cases h
  obtain ⟨hc0, hp⟩ := hp
  rename_i z120
  obtain ⟨z120, rfl⟩ : ∃ m, z120 = chs m := ⟨_, hc0⟩
  simp only [jb]
  simp only [jb, baz] at hp
  exact (show qg _ _ _ _ _ from And.intro rfl (xaQ z120 hp))
def wj (l : List Ch) (h : Nat) : Nat × Int := if zl l then (match nlk h (hm 0 l) with
  | some i => ((l.getD i.toNat default).id, 0)
  | none => (0, 5)) else (0, 1)
theorem qaA : ∀ {l : List Ch} {s : Int} {k : Nat} {a : Int}, (k, a) ∈ hm s l → s ≤ a ∧ a < s + l.length
  | [], _, _, _, h => by cases h
  | c :: l, s, k, a, h => by
    rw [hm, List.mem_append] at h
    simp only [List.length_cons]
    rcases h with h | h
    · obtain ⟨x, _, hx⟩ := List.mem_map.1 h
      cases hx
      omega
    · have := qaA h
      omega
@[go_sem] def kaA (l : List Ch) (h : Nat) : D := .tup [.int .u64 ((wj l h).1 : Int), .int .i64 (wj l h).2]
@[go_sem] abbrev bcj : FuncId := 92
@[go_sem] def xa4 : Tab := [(66, kJ)]
theorem zas : za Tryz.prog xa4 := (za.cons vT za.nil)
set_option maxRecDepth 8000 in
set_option maxHeartbeats 1000000 in
theorem gaV (l : List Ch) (h : Nat)  : yb Tryz.prog 92 [.sl (chs l), .c (.int .u64 (h : Int))] (kaA l h) := by
  refine .of (qdl zas (Nat.le_of_ble_eq_true rfl) ?_)
  simp -implicitDefEqProofs only [cdA, go_sem, Go.Proofs.Tryz.f92, reduceIte, reduceCtorEq, Nat.reduceEqDiff, Nat.reduceAdd, Nat.reduceLeDiff, Nat.reduceSub, Nat.reduceMul, Nat.reduceLT, Nat.reduceShiftRight, Nat.reduceMod, Int.reduceLE, Int.reduceLT, Int.reduceToNat, List.cons.injEq, cdB]
  by_cases hok : zl l
  · have e1 : jW l = (hm 0 l, 0) := by rw [jW, if_pos hok]
    rw [e1, wj, if_pos hok]
    refine ⟨fun _ => ⟨fun a ha => ?_, fun hn => ?_⟩, fun h => absurd rfl h⟩
    · have hnd : ((hm 0 l).map (·.1)).Nodup := by rw [yI]; exact hok.2.2.2.1
      have := qaA ((uL hnd).1 ha)
      rw [ha]
      exact ⟨⟨by omega, by omega⟩, rfl, rfl⟩
    · rw [hn]; exact ⟨rfl, rfl⟩
  · have e1 : jW l = ([], 1) := by rw [jW, if_neg hok]
    rw [e1, wj, if_neg hok]
    exact ⟨fun h => absurd h (by decide), fun _ => ⟨rfl, rfl⟩⟩
def jB : List D → Option (Prop × D × Fr)
  | [.c (.sl z121), .c (.int .u64 z122)] => some (z121 = chs (ji z121) ∧ z122 = (z122.toNat : Int), kaA (ji z121) z122.toNat, [])
  | _ => none
attribute [go_sem] jB
theorem uO : ∀ rs p r fr, jB rs = some (p, r, fr) → p → qg Tryz.prog 92 rs r fr := by
  intro rs p r fr h hp
  unfold jB at h
  split at h <;> cases h
  obtain ⟨hc0, hc1⟩ := hp
  rename_i z121 z122
  obtain ⟨z121, rfl⟩ : ∃ m, z121 = chs m := ⟨_, hc0⟩
  obtain ⟨z122, rfl⟩ : ∃ m : Nat, z122 = m := ⟨_, hc1⟩
  simp only [Int.toNat_natCast, jb]
  exact gaV z121 z122
@[go_sem] def kbj (l : List Ch) : D := .vec 0 l.length
@[go_sem] def kaT (l : List Ch) : Fr := [(7, 37, true, chs l)]
@[go_sem] abbrev bcZ : FuncId := 77
@[go_sem] def gbP : Tab := [(111, qD), (30, w8)]
theorem zal : za Tryz.prog gbP := (za.cons bO (za.cons zW za.nil))
set_option maxRecDepth 8000 in
set_option maxHeartbeats 1000000 in
theorem vbu (l : List Ch) (h : l.length ≤ 1000000 ∧ ∀ c ∈ l, c.holds.length ≤ 1000000) : zn Tryz.prog 77 [.sl (chs l)] (kbj l) (kaT l) := by
  refine .of (udk zal (Nat.le_of_ble_eq_true rfl) ?_)
  simp -implicitDefEqProofs only [cdA, go_sem, Go.Proofs.Tryz.f77, reduceIte, reduceCtorEq, Nat.reduceEqDiff, Nat.reduceAdd, Nat.reduceLeDiff, Nat.reduceSub, Nat.reduceMul, Nat.reduceLT, Nat.reduceShiftRight, Nat.reduceMod, Int.reduceLE, Int.reduceLT, Int.reduceToNat, List.cons.injEq, cdB]
  refine ⟨h.1, fun _ => SWp.loop (ι := { i : Nat // i ≤ l.length }) (fun i => ⟨[(0, .vec 0 l.length), (7, .vec 0 l.length), (8, .int .i64 l.length), (9, .int .i64 i.1)], [(0, .vec true 7 37 (chs l))], 1⟩) (fun i => l.length - i.1) ⟨0, by omega⟩ ?_ ?_⟩
  · simp [go_sem]
  · rintro ⟨i, hi⟩
    refine qb zal.toS zcq _ _ _ rfl ?_
    simp -implicitDefEqProofs only [cdA, go_sem, reduceIte, reduceCtorEq, Nat.reduceEqDiff, Nat.reduceAdd, Nat.reduceLeDiff, Nat.reduceSub, Nat.reduceMul, Nat.reduceLT, Nat.reduceShiftRight, Nat.reduceMod, Int.reduceLE, Int.reduceLT, Int.reduceToNat, List.cons.injEq, cdB]
    refine ⟨fun h1 => ?_, fun _ => ⟨[some 0], by simp [go_sem]⟩⟩
    have hi' : i < l.length := by omega
    have hself : l.set i (l.getD i default) = l := by
      rw [ve hi']; exact List.set_getElem_self hi'
    exact ⟨by omega, hi', h.2 _ (xb.2 ⟨i, hi', rfl⟩), by omega, hi', ⟨i + 1, hi'⟩, by dsimp only; omega, i64_in _ (by omega), by rw [hself]⟩
@[go_sem] def vbc (l : List Ch) : Prop := (l.length ≤ 1000000 ∧ ∀ c ∈ l, c.holds.length ≤ 1000000)
def uC : List D → Option (Prop × D × Fr)
  | [.c (.sl z123)] => some (z123 = chs (ji z123) ∧ vbc (ji z123), kbj (ji z123), kaT (ji z123))
  | _ => none
attribute [go_sem] uC
theorem yz : ∀ rs p r fr, uC rs = some (p, r, fr) → p → qg Tryz.prog 77 rs r fr := by
  intro rs p r fr h hp
  unfold uC at h
  split at h <;> cases h
  obtain ⟨hc0, hp⟩ := hp
  rename_i z123
  obtain ⟨z123, rfl⟩ : ∃ m, z123 = chs m := ⟨_, hc0⟩
  simp only [jb]
  simp only [jb, vbc] at hp
  exact (show qg _ _ _ _ _ from And.intro rfl (vbu z123 hp))
end Dm
namespace Dm
open Go Go.Proofs Go.IntWalk
@[go_sem] def kag (l : List Wt) : D := .sl (wts l)
@[go_sem] abbrev ubK : FuncId := 113
@[go_sem] def yaV : Tab := []
theorem qah : za Tryz.prog yaV := za.nil
set_option maxRecDepth 8000 in
set_option maxHeartbeats 1000000 in
theorem yaF (l : List Wt) (h : l.length ≤ 1000000) : yb Tryz.prog 113 [.sl (wts l)] (kag l) := by
  refine .of (xcB qah (Nat.le_of_ble_eq_true rfl) ?_)
  simp -implicitDefEqProofs only [cdA, go_sem, Go.Proofs.Tryz.f113, reduceIte, reduceCtorEq, Nat.reduceEqDiff, Nat.reduceAdd, Nat.reduceLeDiff, Nat.reduceSub, Nat.reduceMul, Nat.reduceLT, Nat.reduceShiftRight, Nat.reduceMod, Int.reduceLE, Int.reduceLT, Int.reduceToNat, List.cons.injEq, cdB]
  exact fun b hb => ⟨hb, fun _ => ⟨by omega, _, _, _, rfl⟩⟩
@[go_sem] def gak (l : List Wt) : Prop := (l.length ≤ 1000000)
def zF : List D → Option (Prop × D × Fr)
  | [.c (.sl z247)] => some (z247 = wts (xl z247) ∧ gak (xl z247), kag (xl z247), [])
  | _ => none
attribute [go_sem] zF
theorem zad : ∀ rs p r fr, zF rs = some (p, r, fr) → p → qg Tryz.prog 113 rs r fr := by
  intro rs p r fr h hp
  unfold zF at h
  split at h <;> cases h
  obtain ⟨hc0, hp⟩ := hp
  rename_i z247
  obtain ⟨z247, rfl⟩ : ∃ m, z247 = wts m := ⟨_, hc0⟩
  simp only [jd]
  simp only [jd, gak] at hp
  exact yaF z247 hp
@[go_sem] def uak (l : List Iv) : D := .sl (ivs l)
@[go_sem] abbrev zbR : FuncId := 99
@[go_sem] def xaY : Tab := []
theorem ual : za Tryz.prog xaY := za.nil
set_option maxRecDepth 8000 in
set_option maxHeartbeats 1000000 in
theorem kaJ (l : List Iv) (h : l.length ≤ 1000000) : yb Tryz.prog 99 [.sl (ivs l)] (uak l) := by
  refine .of (bc4 ual (Nat.le_of_ble_eq_true rfl) ?_)
  simp -implicitDefEqProofs only [cdA, go_sem, Go.Proofs.Tryz.f99, reduceIte, reduceCtorEq, Nat.reduceEqDiff, Nat.reduceAdd, Nat.reduceLeDiff, Nat.reduceSub, Nat.reduceMul, Nat.reduceLT, Nat.reduceShiftRight, Nat.reduceMod, Int.reduceLE, Int.reduceLT, Int.reduceToNat, List.cons.injEq, cdB]
  exact fun b hb => ⟨hb, fun _ => ⟨by omega, _, _, _, rfl⟩⟩
@[go_sem] def baf (l : List Iv) : Prop := (l.length ≤ 1000000)
def wG : List D → Option (Prop × D × Fr)
  | [.c (.sl z248)] => some (z248 = ivs (xm z248) ∧ baf (xm z248), uak (xm z248), [])
  | _ => none
attribute [go_sem] wG
theorem bae : ∀ rs p r fr, wG rs = some (p, r, fr) → p → qg Tryz.prog 99 rs r fr := by
  intro rs p r fr h hp
  unfold wG at h
  split at h <;> cases h
  obtain ⟨hc0, hp⟩ := hp
  rename_i z248
  obtain ⟨z248, rfl⟩ : ∃ m, z248 = ivs m := ⟨_, hc0⟩
  simp only [qc]
  simp only [qc, baf] at hp
  exact kaJ z248 hp
@[go_sem] def vao (l : List Py) : D := .sl (pys l)
@[go_sem] abbrev kbQ : FuncId := 85
@[go_sem] def yaL : Tab := []
theorem bah : za Tryz.prog yaL := za.nil
set_option maxRecDepth 8000 in
set_option maxHeartbeats 1000000 in
theorem yaG (l : List Py) (h : l.length ≤ 1000000) : yb Tryz.prog 85 [.sl (pys l)] (vao l) := by
  refine .of (uc5 bah (Nat.le_of_ble_eq_true rfl) ?_)
  simp -implicitDefEqProofs only [cdA, go_sem, Go.Proofs.Tryz.f85, reduceIte, reduceCtorEq, Nat.reduceEqDiff, Nat.reduceAdd, Nat.reduceLeDiff, Nat.reduceSub, Nat.reduceMul, Nat.reduceLT, Nat.reduceShiftRight, Nat.reduceMod, Int.reduceLE, Int.reduceLT, Int.reduceToNat, List.cons.injEq, cdB]
  exact fun b hb => ⟨hb, fun _ => ⟨by omega, _, _, _, rfl⟩⟩
@[go_sem] def kai (l : List Py) : Prop := (l.length ≤ 1000000)
def yG : List D → Option (Prop × D × Fr)
  | [.c (.sl z249)] => some (z249 = pys (vl z249) ∧ kai (vl z249), vao (vl z249), [])
  | _ => none
attribute [go_sem] yG
theorem qab : ∀ rs p r fr, yG rs = some (p, r, fr) → p → qg Tryz.prog 85 rs r fr := by
  intro rs p r fr h hp
  unfold yG at h
  split at h <;> cases h
  obtain ⟨hc0, hp⟩ := hp
  rename_i z249
  obtain ⟨z249, rfl⟩ : ∃ m, z249 = pys m := ⟨_, hc0⟩
  simp only [yc]
  simp only [yc, kai] at hp
  exact yaG z249 hp
@[go_sem] def b7 (l : List Ev) : D := .sl (evs l)
@[go_sem] abbrev ubE : FuncId := 112
@[go_sem] def qaG : Tab := []
theorem wab : za Tryz.prog qaG := za.nil
set_option maxRecDepth 8000 in
set_option maxHeartbeats 1000000 in
theorem zar (l : List Ev) (h : l.length ≤ 1000000) : yb Tryz.prog 112 [.sl (evs l)] (b7 l) := by
  refine .of (qb1 wab (Nat.le_of_ble_eq_true rfl) ?_)
  simp -implicitDefEqProofs only [cdA, go_sem, Go.Proofs.Tryz.f112, reduceIte, reduceCtorEq, Nat.reduceEqDiff, Nat.reduceAdd, Nat.reduceLeDiff, Nat.reduceSub, Nat.reduceMul, Nat.reduceLT, Nat.reduceShiftRight, Nat.reduceMod, Int.reduceLE, Int.reduceLT, Int.reduceToNat, List.cons.injEq, cdB]
  exact fun b hb => ⟨hb, fun _ => ⟨by omega, _, _, _, rfl⟩⟩
@[go_sem] def k8 (l : List Ev) : Prop := (l.length ≤ 1000000)
def wz : List D → Option (Prop × D × Fr)
  | [.c (.sl z250)] => some (z250 = evs (yo z250) ∧ k8 (yo z250), b7 (yo z250), [])
  | _ => none
attribute [go_sem] wz
theorem jY : ∀ rs p r fr, wz rs = some (p, r, fr) → p → qg Tryz.prog 112 rs r fr := by
  intro rs p r fr h hp
  unfold wz at h
  split at h <;> cases h
  obtain ⟨hc0, hp⟩ := hp
  rename_i z250
  obtain ⟨z250, rfl⟩ : ∃ m, z250 = evs m := ⟨_, hc0⟩
  simp only [jc]
  simp only [jc, k8] at hp
  exact zar z250 hp
def jx (w : Wl) : Prop := w.c.length ≤ 1000000 ∧ (∀ c ∈ w.c, c.holds.length ≤ 1000000) ∧ w.w.length ≤ 1000000 ∧ w.i.length ≤ 1000000 ∧ w.p.length ≤ 1000000 ∧ w.f.l.length ≤ 1000000
@[go_sem] def xbc (w : Wl) : D := .agg [.sl (chs w.c), .sl (wts w.w), .sl (ivs w.i), .sl (pys w.p), .int .u64 w.f.next, .sl (evs w.f.l), .int .u64 w.next, .int .u64 w.tick]
@[go_sem] abbrev vc2 : FuncId := 81
@[go_sem] def ubW : Tab := [(111, qD), (73, zx), (113, zF), (99, wG), (85, yG), (112, wz)]
theorem vL : za Tryz.prog ubW := (za.cons bO (za.cons zD (za.cons zad (za.cons bae (za.cons qab (za.cons jY za.nil))))))
set_option maxRecDepth 8000 in
set_option maxHeartbeats 1000000 in
theorem wbp (w : Wl) (h : jx w) : yb Tryz.prog 81 [.agg [.sl (chs w.c), .sl (wts w.w), .sl (ivs w.i), .sl (pys w.p), .c (.int .u64 (w.f.next : Int)), .sl (evs w.f.l), .c (.int .u64 (w.next : Int)), .c (.int .u64 (w.tick : Int))]] (xbc w) := by
  refine .of (kdb vL (Nat.le_of_ble_eq_true rfl) ?_)
  simp -implicitDefEqProofs only [cdA, go_sem, Go.Proofs.Tryz.f81, reduceIte, reduceCtorEq, Nat.reduceEqDiff, Nat.reduceAdd, Nat.reduceLeDiff, Nat.reduceSub, Nat.reduceMul, Nat.reduceLT, Nat.reduceShiftRight, Nat.reduceMod, Int.reduceLE, Int.reduceLT, Int.reduceToNat, List.cons.injEq, cdB]
  refine uc.run zbP vL qa (by kernel_rfl) (by kernel_rfl) ?_
  simp -implicitDefEqProofs only [cdA, go_sem, reduceIte, reduceCtorEq, Nat.reduceEqDiff, Nat.reduceAdd, Nat.reduceLeDiff, Nat.reduceSub, Nat.reduceMul, Nat.reduceLT, Nat.reduceShiftRight, Nat.reduceMod, Int.reduceLE, Int.reduceLT, Int.reduceToNat, List.cons.injEq, cdB]
  obtain ⟨h1, h2, h3, h4, h5, h6⟩ := h
  refine ⟨h1, h3, h4, h5, h6, fun _ => SWp.loop (ι := { i : Nat // i ≤ w.c.length }) (fun i => ⟨[(1, .ref 0 0), (2, .ref 1 0), (28, .vec 2 w.c.length), (29, .int .i64 w.c.length), (30, .int .i64 i.1)],
    [(2, .vec true 7 37 (chs w.c)), (0, .box [.vec 2 w.c.length, .sl (wts w.w), .sl (ivs w.i), .sl (pys w.p), .c (.int .u64 w.f.next), .sl (evs w.f.l), .c (.int .u64 w.next), .c (.int .u64 w.tick)]),
      (1, .box [.nil, .nil, .nil, .nil, .c (.int .u64 0), .nil, .c (.int .u64 0), .c (.int .u64 0)])], 3⟩) (fun i => w.c.length - i.1) ⟨0, by omega⟩ ?_ ?_⟩
  · simp [go_sem]
  · rintro ⟨i, hi⟩
    refine qb vL.toS zcu _ _ _ rfl ?_
    simp -implicitDefEqProofs only [cdA, go_sem, reduceIte, reduceCtorEq, Nat.reduceEqDiff, Nat.reduceAdd, Nat.reduceLeDiff, Nat.reduceSub, Nat.reduceMul, Nat.reduceLT, Nat.reduceShiftRight, Nat.reduceMod, Int.reduceLE, Int.reduceLT, Int.reduceToNat, List.cons.injEq, cdB]
    refine ⟨fun h7 => ⟨by omega, by omega, ?_⟩, fun _ => ⟨_, _, _, rfl⟩⟩
    have hi' : i < w.c.length := by omega
    have hself : w.c.set i (w.c.getD i default) = w.c := by
      rw [ve hi']; exact List.set_getElem_self hi'
    have hhl := h2 _ (xb.2 ⟨i, hi', rfl⟩)
    refine uc.run jb0 vL qa (by kernel_rfl) (by kernel_rfl) ?_
    simp -implicitDefEqProofs only [cdA, go_sem, reduceIte, reduceCtorEq, Nat.reduceEqDiff, Nat.reduceAdd, Nat.reduceLeDiff, Nat.reduceSub, Nat.reduceMul, Nat.reduceLT, Nat.reduceShiftRight, Nat.reduceMod, Int.reduceLE, Int.reduceLT, Int.reduceToNat, List.cons.injEq, cdB]
    exact ⟨hhl, by omega, hi', ⟨i + 1, hi'⟩, by dsimp only; omega, i64_in _ (by omega), by rw [hself]⟩
@[go_sem] def ubf (w : Wl) : Prop := (jx w)
def vq : List D → Option (Prop × D × Fr)
  | [.agg [.c (.sl z252), .c (.sl z253), .c (.sl z254), .c (.sl z255), .c (.int .u64 z257), .c (.sl z258), .c (.int .u64 z259), .c (.int .u64 z260)]] => some (z252 = chs (ji z252) ∧ z253 = wts (xl z253) ∧ z254 = ivs (xm z254) ∧ z255 = pys (vl z255) ∧ z257 = (z257.toNat : Int) ∧ z258 = evs (yo z258) ∧ z259 = (z259.toNat : Int) ∧ z260 = (z260.toNat : Int) ∧ ubf (⟨(ji z252), (xl z253), (xm z254), (vl z255), (⟨z257.toNat, (yo z258)⟩ : Fd), z259.toNat, z260.toNat⟩ : Wl), xbc (⟨(ji z252), (xl z253), (xm z254), (vl z255), (⟨z257.toNat, (yo z258)⟩ : Fd), z259.toNat, z260.toNat⟩ : Wl), [])
  | _ => none
attribute [go_sem] vq
theorem kj : ∀ rs p r fr, vq rs = some (p, r, fr) → p → qg Tryz.prog 81 rs r fr := by
  intro rs p r fr h hp
  unfold vq at h
  split at h <;> cases h
  obtain ⟨hc0, hc1, hc2, hc3, hc4, hc5, hc6, hc7, hp⟩ := hp
  rename_i z252 z253 z254 z255 z257 z258 z259 z260
  obtain ⟨z252, rfl⟩ : ∃ m, z252 = chs m := ⟨_, hc0⟩
  obtain ⟨z253, rfl⟩ : ∃ m, z253 = wts m := ⟨_, hc1⟩
  obtain ⟨z254, rfl⟩ : ∃ m, z254 = ivs m := ⟨_, hc2⟩
  obtain ⟨z255, rfl⟩ : ∃ m, z255 = pys m := ⟨_, hc3⟩
  obtain ⟨z257, rfl⟩ : ∃ m : Nat, z257 = m := ⟨_, hc4⟩
  obtain ⟨z258, rfl⟩ : ∃ m, z258 = evs m := ⟨_, hc5⟩
  obtain ⟨z259, rfl⟩ : ∃ m : Nat, z259 = m := ⟨_, hc6⟩
  obtain ⟨z260, rfl⟩ : ∃ m : Nat, z260 = m := ⟨_, hc7⟩
  simp only [Int.toNat_natCast, jb, jc, qc, yc, jd]
  simp only [Int.toNat_natCast, jb, jc, qc, yc, jd, ubf] at hp
  exact wbp ⟨z252, z253, z254, z255, ⟨z257, z258⟩, z259, z260⟩ hp
end Dm
namespace Dm
open Go Go.Proofs Go.IntWalk
@[go_sem] def ybn : Tab := [ovk 145]
theorem yN : za Tryz.prog ybn := .cons (uaH 145) .nil
@[go_sem] def bbk : Tab := [fg 12]
theorem baI : za Tryz.prog bbk := .cons (kav 12) .nil
theorem xap (l : List Hd) : gh 2 (hds l) := of_eq_true (uae l)
set_option maxRecDepth 8000 in
set_option maxHeartbeats 1000000 in
theorem vby (l : List Hd) (x : Hd) (i : Nat) (hi : i ≤ l.length) (hl : l.length ≤ 1000000) :
    va Tryz.prog 127 [.vec 0 l.length, .int .i64 i, .vec 1 1] [(1, .vec true 2 67 (hds [x])), (0, .vec true 2 67 (hds l))] 2 fun d os _ => Grown 2 67 (hds (Srt.ins l i x)) d os := by
  have hil : (Srt.ins l i x).length = l.length + 1 := Srt.zj
  have hq : ∀ j os, lk j os = some (.vec true 2 67 (hds (Srt.ins l i x))) → Grown 2 67 (hds (Srt.ins l i x)) (.vec j (l.length + 1)) os := fun j os h => ⟨j, by rw [yd, hil], h⟩
  by_cases hin : i = l.length
  · refine gbT baI (Nat.le_of_ble_eq_true rfl) ?_
    have e4 : ((1 : Int) = 0) = False := eq_false (by decide)
    subst hin
    simp -implicitDefEqProofs only [cdA, go_sem, Go.Proofs.Tryz.f127, e4, decide_true, reduceIte, reduceCtorEq, Nat.reduceEqDiff, Nat.reduceAdd, Nat.reduceLeDiff, Nat.reduceSub, Nat.reduceMul, Nat.reduceLT, Nat.reduceShiftRight, Nat.reduceMod, Int.reduceLE, Int.reduceLT, Int.reduceToNat, List.cons.injEq, cdB]
    refine ⟨Int.le_refl _, fun h => h.elim, fun _ => ⟨by omega, hq _ _ ?_⟩⟩
    rw [vb, if_neg (by decide), jQ]
    simp [Srt.ins]
  · have hlt : i < l.length := by omega
    refine va.opn 0 rfl (by rw [yd]; omega) fun c hc hcm => ?_
    refine va.sld ?_
    rw [yd] at hc
    refine gbT yN (Nat.le_of_ble_eq_true rfl) ?_
    have e1 : IntKind.i64.wrap ((l.length : Int) + 1) = ((l.length + 1 : Nat) : Int) := by rw [i64_in _ (by omega)]; omega
    have e2 : IntKind.i64.wrap ((i : Int) + 1) = ((i + 1 : Nat) : Int) := by rw [i64_in _ (by omega)]; omega
    have e3 : ((i : Int) = (l.length : Int)) = False := eq_false (by omega)
    have e4 : ((1 : Int) = 0) = False := eq_false (by decide)
    have e5 : IntKind.i64.wrap ((l.length : Int) + 1 - (i : Int)) = ((l.length + 1 - i : Nat) : Int) := by rw [i64_in _ (by omega)]; omega
    have e6 : ((l.length : Int) + 1).toNat = l.length + 1 := by omega
    have e7 : ((i : Int) + 1).toNat = i + 1 := by omega
    have e8 : i + (l.length + 1 - i) = l.length + 1 := by omega
    simp -implicitDefEqProofs only [cdA, go_sem, Go.Proofs.Tryz.f127, e3, e4, e1, e2, e5, e6, e7, e8, decide_false, reduceIte, reduceCtorEq, Nat.reduceEqDiff, Nat.reduceAdd, Nat.reduceLeDiff, Nat.reduceSub, Nat.reduceMul, Nat.reduceLT, Nat.reduceShiftRight, Nat.reduceMod, Int.reduceLE, Int.reduceLT, Int.reduceToNat, List.cons.injEq, cdB]
    refine ⟨by omega, fun _ => ⟨fun h1 => ⟨by omega, by omega, fun c1 h2 h3 => ⟨by omega, ?_⟩⟩, fun h1 => ⟨by omega, by omega, ?_, ?_⟩⟩⟩
    · refine uc.run bba yN qa (by kernel_rfl) (by kernel_rfl) ?_
      simp -implicitDefEqProofs only [cdA, go_sem, e1, e2, e5, e6, e7, e8, reduceIte, reduceCtorEq, Nat.reduceEqDiff, Nat.reduceAdd, Nat.reduceLeDiff, Nat.reduceSub, Nat.reduceMul, Nat.reduceLT, Nat.reduceShiftRight, Nat.reduceMod, Int.reduceLE, Int.reduceLT, Int.reduceToNat, List.cons.injEq, cdB]
      refine ⟨by omega, by omega, fun y hy => qk (xap l) y (List.mem_of_mem_take (List.mem_of_mem_drop hy)), ?_⟩
      have := baa (sz := 2) (c := c) (c1 := c1) (i := i) (E := hds l) (x := x.enc) (z := [C.int .u64 0, C.int .u64 0]) (by rw [yd]; exact hlt) (by rw [yd]; exact hc) (by rw [yd]; exact h2)
      rw [yd] at this
      refine hq _ _ ?_
      rw [jQ]
      congr 2
      rw [show hds (List.take (l.length + 1 - i) [x]) = List.take (l.length + 1 - i) [x.enc] by simp [hds], this]
      simp [hds, Srt.ins]
    · exact ⟨_, 35, 4, _, rfl, rfl, rfl, rfl, by kernel_rfl, ybq⟩
    · refine uc.run ba6 yN qa (by kernel_rfl) (by kernel_rfl) ?_
      simp -implicitDefEqProofs only [cdA, go_sem, e1, e2, e5, e6, e7, e8, reduceIte, reduceCtorEq, Nat.reduceEqDiff, Nat.reduceAdd, Nat.reduceLeDiff, Nat.reduceSub, Nat.reduceMul, Nat.reduceLT, Nat.reduceShiftRight, Nat.reduceMod, Int.reduceLE, Int.reduceLT, Int.reduceToNat, List.cons.injEq, cdB]
      refine ⟨by omega, by omega, fun y hy => qk (xap l) y (List.mem_of_mem_take (List.mem_of_mem_drop hy)), by omega, ?_⟩
      have := yad (sz := 2) (c := c) (i := i) (E := hds l) (x := x.enc) (by rw [yd]; exact hlt) (by rw [yd]; omega)
      rw [yd] at this
      refine hq _ _ ?_
      rw [jQ]
      congr 2
      rw [show hds (List.take (l.length + 1 - i) [x]) = List.take (l.length + 1 - i) [x.enc] by simp [hds], this]
      simp [hds, Srt.ins]

@[go_sem] def wam (l : List Hd) : D := .vec 0 l.length
@[go_sem] def yZ (l : List Hd) : Fr := [(2, 67, true, hds l)]
@[go_sem] abbrev gbS : FuncId := 73
@[go_sem] def kaU : Tab := []
theorem vah : za Tryz.prog kaU := za.nil
set_option maxRecDepth 8000 in
set_option maxHeartbeats 1000000 in
theorem gaH (l : List Hd) (hl : l.length ≤ 1000000) : zn Tryz.prog 73 [.sl (hds l)] (wam l) (yZ l) := by
  refine .of (bc5 vah (Nat.le_of_ble_eq_true rfl) ?_)
  simp -implicitDefEqProofs only [cdA, go_sem, Go.Proofs.Tryz.f73, reduceIte, reduceCtorEq, Nat.reduceEqDiff, Nat.reduceAdd, Nat.reduceLeDiff, Nat.reduceSub, Nat.reduceMul, Nat.reduceLT, Nat.reduceShiftRight, Nat.reduceMod, Int.reduceLE, Int.reduceLT, Int.reduceToNat, List.cons.injEq, cdB]
  refine fun b hb => ⟨fun h => ?_, fun h => ?_⟩
  · exact ⟨[none], by simp [go_sem, hb h], by cases l <;> simp_all [go_sem, hds]⟩
  · exact ⟨by omega, [some 0], by simp [go_sem]⟩
@[go_sem] def vak (l : List Hd) : Prop := (l.length ≤ 1000000)
def ur : List D → Option (Prop × D × Fr)
  | [.c (.sl z124)] => some (z124 = hds (qq z124) ∧ vak (qq z124), wam (qq z124), yZ (qq z124))
  | _ => none
attribute [go_sem] ur
theorem yA : ∀ rs p r fr, ur rs = some (p, r, fr) → p → qg Tryz.prog 73 rs r fr := by
  intro rs p r fr h hp
  unfold ur at h
  split at h <;> cases h
  obtain ⟨hc0, hp⟩ := hp
  rename_i z124
  obtain ⟨z124, rfl⟩ : ∃ m, z124 = hds m := ⟨_, hc0⟩
  simp only [ze]
  simp only [ze, vak] at hp
  exact (show qg _ _ _ _ _ from And.intro rfl (gaH z124 hp))
def bsH (l : List Hd) (id : Nat) (i j : Nat) : Nat :=
  if h : i < j then (if (l.getD ((i + j) / 2) default).id < id then bsH l id ((i + j) / 2 + 1) j else bsH l id i ((i + j) / 2)) else i
termination_by j - i
decreasing_by all_goals omega
theorem jbn {l : List Hd} {id : Nat} (hu : Srt.Up Hd.key ltN l) : ∀ (m i j : Nat), j - i ≤ m → i ≤ j → j ≤ l.length → (∀ k, k < i → (l.getD k default).id < id) → (∀ k, j ≤ k → k < l.length → ¬ (l.getD k default).id < id) → bsH l id i j = Srt.pos Hd.key ltN l id := by
  intro m
  induction m with
  | zero =>
    intro i j hm hij hj hlo hup
    rw [bsH, dif_neg (by omega)]
    exact (Srt.pos_eq (by omega) hlo (fun h => hup i (by omega) h)).symm
  | succ m ih =>
    intro i j hm hij hj hlo hup
    rw [bsH]
    split
    · rename_i hlt
      have hup2 := Srt.ki.1 hu
      split
      · rename_i h5
        refine ih _ _ (by omega) (by omega) hj (fun k hk => ?_) hup
        by_cases hkm : k = (i + j) / 2
        · rw [hkm]; exact h5
        · have := hup2 k ((i + j) / 2) (by omega) (by omega)
          simp only [ltN, Hd.key] at this; omega
      · rename_i h5
        refine ih _ _ (by omega) (by omega) (by omega) hlo (fun k hk1 hk2 => ?_)
        by_cases hkm : k = (i + j) / 2
        · rw [hkm]; exact h5
        · have := hup2 ((i + j) / 2) k (by omega) (by omega)
          simp only [ltN, Hd.key] at this; omega
    · exact (Srt.pos_eq (by omega) hlo (fun h => hup i (by omega) h)).symm
def qm (c : Ch) (id n : Nat) : Int :=
  if ¬ gj c ∨ n = 0 ∨ ¬ n ≤ MM then 1 else if c.op = false then 14 else if Srt.thr Hd.key ltN c.holds id = true then 6 else if c.holds.length = 64 then 7 else if c.loc < c.res ∨ c.loc - c.res < n then 9 else if c.most - held c.holds < n then 8 else 0
def qf (c : Ch) (id n : Nat) : Ch × Int := if qm c id n = 0 then (⟨c.id, c.loc - n, c.rem, c.res, c.most, Srt.ins c.holds (Srt.pos Hd.key ltN c.holds id) ⟨id, n⟩, c.op⟩, 0) else (default, qm c id n)
@[go_sem] def waS (c : Ch) (id : Nat) (n : Nat) : D := .tup [.agg [.int .u64 (qf c id n).1.id, .int .u64 (qf c id n).1.loc, .int .u64 (qf c id n).1.rem, .int .u64 (qf c id n).1.res, .int .u64 (qf c id n).1.most, .sl (hds (qf c id n).1.holds), .bool (qf c id n).1.op], .int .i64 (qf c id n).2]
@[go_sem] abbrev bcu : FuncId := 93
@[go_sem] def jbw : Tab := [(31, qv), (40, jg), (73, ur), (74, vt)]
theorem qO : za Tryz.prog jbw := (za.cons zu (za.cons yg (za.cons yA (za.cons bu za.nil))))
set_option maxRecDepth 8000 in
set_option maxHeartbeats 1000000 in
theorem ua7 (c : Ch) (id : Nat) (n : Nat)  : yb Tryz.prog 93 [.agg [.c (.int .u64 (c.id : Int)), .c (.int .u64 (c.loc : Int)), .c (.int .u64 (c.rem : Int)), .c (.int .u64 (c.res : Int)), .c (.int .u64 (c.most : Int)), .sl (hds c.holds), .c (.bool c.op)], .c (.int .u64 (id : Int)), .c (.int .u64 (n : Int))] (waS c id n) := by
  refine .of (qdh qO (Nat.le_of_ble_eq_true rfl) ?_)
  simp -implicitDefEqProofs only [cdA, go_sem, Go.Proofs.Tryz.f93, reduceIte, reduceCtorEq, Nat.reduceEqDiff, Nat.reduceAdd, Nat.reduceLeDiff, Nat.reduceSub, Nat.reduceMul, Nat.reduceLT, Nat.reduceShiftRight, Nat.reduceMod, Int.reduceLE, Int.reduceLT, Int.reduceToNat, List.cons.injEq, cdB]
  refine xbn qO (Nat.le_of_ble_eq_true rfl) ?_
  simp -implicitDefEqProofs only [cdA, go_sem, Go.Proofs.Tryz.f126, reduceIte, reduceCtorEq, Nat.reduceEqDiff, Nat.reduceAdd, Nat.reduceLeDiff, Nat.reduceSub, Nat.reduceMul, Nat.reduceLT, Nat.reduceShiftRight, Nat.reduceMod, Int.reduceLE, Int.reduceLT, Int.reduceToNat, List.cons.injEq, cdB]
  refine fun _ => SWp.loop (ι := { x : Nat × Nat // x.1 ≤ x.2 ∧ x.2 ≤ c.holds.length ∧ bsH c.holds id x.1 x.2 = bsH c.holds id 0 c.holds.length }) (fun x => ⟨[(0, .sl (hds c.holds)), (1, .int .u64 id), (2, .fn (.func 74) [] []), (8, .int .i64 c.holds.length), (9, .int .i64 x.1.1), (10, .int .i64 x.1.2)], [(0, .box [.int .u64 c.id, .int .u64 c.loc, .int .u64 c.rem, .int .u64 c.res, .int .u64 c.most, .sl (hds c.holds), .bool c.op]), (1, .box [.int .u64 0, .int .u64 0, .int .u64 0, .int .u64 0, .int .u64 0, .nil, .bool false])], 2⟩) (fun x => x.1.2 - x.1.1) ⟨(0, c.holds.length), by simp⟩ ?_ ?_
  · simp [go_sem]
  · rintro ⟨⟨i, j⟩, hij, hj, hb⟩
    dsimp only at hij hj hb
    refine qb qO.toS jaR _ _ _ rfl ?_
    simp -implicitDefEqProofs only [cdA, go_sem, reduceIte, reduceCtorEq, Nat.reduceEqDiff, Nat.reduceAdd, Nat.reduceLeDiff, Nat.reduceSub, Nat.reduceMul, Nat.reduceLT, Nat.reduceShiftRight, Nat.reduceMod, Int.reduceLE, Int.reduceLT, Int.reduceToNat, List.cons.injEq, cdB]
    rw [wV hij hj ‹_›]
    have hbad : ∀ k, qm c id n = k → ¬ k = 0 → (0 = ((qf c id n).1.id : Int) ∧ 0 = ((qf c id n).1.loc : Int) ∧ 0 = ((qf c id n).1.rem : Int) ∧ 0 = ((qf c id n).1.res : Int) ∧ 0 = ((qf c id n).1.most : Int) ∧ hds (qf c id n).1.holds = [] ∧ false = (qf c id n).1.op) ∧ k = (qf c id n).2 := fun k hk h0 => by
      have : qf c id n = (default, k) := by rw [qf, if_neg (by rw [hk]; exact h0), hk]
      rw [this]; exact ⟨⟨rfl, rfl, rfl, rfl, rfl, rfl, rfl⟩, rfl⟩
    refine ⟨fun h4 => ?_, fun h4 => ?_⟩
    · have hm : (i + j) / 2 < c.holds.length := by omega
      rw [bsH, dif_pos (by omega)] at hb
      rw [xk, Int.toNat_natCast]
      refine ⟨⟨by omega, by omega⟩, fun h5 => ?_, fun h5 => ?_⟩
      · rw [if_pos (by omega)] at hb
        exact ⟨⟨((i + j) / 2 + 1, j), by dsimp only; omega, hj, hb⟩, by dsimp only; omega, i64_in _ (by omega), rfl⟩
      · rw [if_neg (by omega)] at hb
        exact ⟨⟨(i, (i + j) / 2), by dsimp only; omega, by dsimp only; omega, hb⟩, by dsimp only; omega, rfl, rfl⟩
    · rw [bsH, dif_neg (by omega)] at hb
      have hok : (vf c).2.2 = 0 ↔ gj c := qI
      have hpos : gj c → Srt.pos Hd.key ltN c.holds id = i := fun h => by
        rw [hb]
        exact (jbn ((Srt.bf (lt := ltN) Srt.ue).1 h.2.2.2.2.2.1) _ 0 c.holds.length (Nat.le_refl _) (by omega) (Nat.le_refl _) (fun k hk => absurd hk (by omega)) (fun k h1 h2 => by omega)).symm
      rw [hok]
      have hthr : gj c → Srt.thr Hd.key ltN c.holds id = decide (i < c.holds.length ∧ (c.holds.getD i default).id = id) := fun h => by rw [Srt.thr, hpos h]; rfl
      have hmon : xX [n] = 0 ↔ n ≤ MM := xak
      have e1 : ∀ h : gj c, (vf c).1 = held c.holds := fun h => by rw [vf, if_pos h]
      refine ⟨fun h6 => ⟨h6, fun ho => ⟨fun hn => ⟨fun hm => ⟨fun hop => ⟨fun ht => hbad 6 ?_ (by decide), fun ht _ => ⟨fun h64 => hbad 7 ?_ (by decide), fun h64 => ⟨fun hl => ⟨fun hx => hbad 9 ?_ (by decide), fun hx => ⟨fun hy => hbad 8 ?_ (by decide), fun hy => ⟨by have := ho.2.2.1; omega, ?_⟩⟩⟩, fun hl => hbad 9 ?_ (by decide)⟩⟩⟩, fun hop => hbad 14 ?_ (by decide)⟩, fun hm => hbad 1 ?_ (by decide)⟩, fun hn => hbad 1 ?_ (by decide)⟩, fun ho => hbad 1 ?_ (by decide)⟩,
        fun h6 => ⟨fun ho => ⟨fun hn => ⟨fun hm => ⟨fun hop _ => ⟨fun h64 => hbad 7 ?_ (by decide), fun h64 => ⟨fun hl => ⟨fun hx => hbad 9 ?_ (by decide), fun hx => ⟨fun hy => hbad 8 ?_ (by decide), fun hy => ⟨by have := ho.2.2.1; omega, ?_⟩⟩⟩, fun hl => hbad 9 ?_ (by decide)⟩⟩, fun hop => hbad 14 ?_ (by decide)⟩, fun hm => hbad 1 ?_ (by decide)⟩, fun hn => hbad 1 ?_ (by decide)⟩, fun ho => hbad 1 ?_ (by decide)⟩⟩
      all_goals first | (unfold qm; rw [if_pos (.inl ho)]; done) | skip
      all_goals first | (unfold qm; rw [if_pos (.inr (.inl (by omega)))]; done) | skip
      all_goals first | (unfold qm; rw [if_pos (.inr (.inr fun h => hm (hmon.2 h)))]; done) | skip
      all_goals
        have hA : ¬ (¬ gj c ∨ n = 0 ∨ ¬ n ≤ MM) := by
          rintro (h | h | h)
          · exact h ho
          · exact hn (by omega)
          · exact h (hmon.1 hm)
        have q4 : held c.holds ≤ c.most := ho.2.2.2.2.2.2.1
        have q2 : c.most ≤ MM := ho.2.1
        have q3 : c.loc ≤ MM := ho.2.2.2.2.2.2.2.1
        have e2 := e1 ho
        unfold MM at q2 q3
      all_goals first | (unfold qm; rw [if_neg hA, if_pos (by simpa using hop)]; done) | skip
      all_goals have hop' : ¬ c.op = false := by rw [hop]; decide
      all_goals first
        | (unfold qm; rw [if_neg hA, if_neg hop', if_pos (by rw [hthr ho]; exact decide_eq_true ⟨by omega, by have := vA.1 ht; omega⟩)]; done)
        | skip
      all_goals
        have ht' : ¬ Srt.thr Hd.key ltN c.holds id = true := by
          rw [hthr ho, decide_eq_true_eq]
          rintro ⟨h1, h2⟩
          first | exact ht (vA.2 (by omega)) | omega
      all_goals first
        | (unfold qm; rw [if_neg hA, if_neg hop', if_neg ht', if_pos (by omega)]; done)
        | skip
      all_goals have h64' : ¬ c.holds.length = 64 := by omega
      all_goals first
        | (unfold qm; rw [if_neg hA, if_neg hop', if_neg ht', if_neg h64', if_pos (.inl (by omega))]; done)
        | (rw [u64_in ((c.loc : Int) - _) (by omega)] at hx; unfold qm; rw [if_neg hA, if_neg hop', if_neg ht', if_neg h64', if_pos (by omega)]; done)
        | skip
      all_goals
        rw [u64_in ((c.loc : Int) - _) (by omega)] at hx
        have h9' : ¬ (c.loc < c.res ∨ c.loc - c.res < n) := by omega
        rw [e2, u64_in ((c.most : Int) - _) (by omega)] at hy
      all_goals first
        | (unfold qm; rw [if_neg hA, if_neg hop', if_neg ht', if_neg h64', if_neg h9', if_pos (by omega)]; done)
        | skip
      all_goals
        have h0 : qm c id n = 0 := by unfold qm; rw [if_neg hA, if_neg hop', if_neg ht', if_neg h64', if_neg h9', if_neg (by omega)]
        have h20 := ho.2.2.1
        refine va.grow (mid := [.int .i64 _]) (vby c.holds ⟨id, n⟩ i (by omega) (by omega)) rfl rfl (by decide) (by simp [Srt.zj]) (fun d hd g g' w v hv => ?_) ?_
      all_goals first
        | (simp at hd; subst hd
           cases hv with
           | c _ _ h => cases h; exact .c _ _ (.int _ _))
        | skip
      all_goals
        simp -implicitDefEqProofs only [cdA, go_sem, reduceIte, reduceCtorEq, Nat.reduceEqDiff, Nat.reduceAdd, Nat.reduceLeDiff, Nat.reduceSub, Nat.reduceMul, Nat.reduceLT, Nat.reduceShiftRight, Nat.reduceMod, Int.reduceLE, Int.reduceLT, Int.reduceToNat, List.cons.injEq, cdB]
        rw [qf, if_pos h0, hpos ho, u64_in ((c.loc : Int) - _) (by omega)]
        exact ⟨⟨rfl, by dsimp only; omega, rfl, rfl, rfl, ⟨rfl, _, _, _, rfl⟩, rfl⟩, rfl⟩
def bR : List D → Option (Prop × D × Fr)
  | [.agg [.c (.int .u64 z126), .c (.int .u64 z127), .c (.int .u64 z128), .c (.int .u64 z129), .c (.int .u64 z130), .c (.sl z131), .c (.bool z132)], .c (.int .u64 z133), .c (.int .u64 z134)] => some (z126 = (z126.toNat : Int) ∧ z127 = (z127.toNat : Int) ∧ z128 = (z128.toNat : Int) ∧ z129 = (z129.toNat : Int) ∧ z130 = (z130.toNat : Int) ∧ z131 = hds (qq z131) ∧ z133 = (z133.toNat : Int) ∧ z134 = (z134.toNat : Int), waS (⟨z126.toNat, z127.toNat, z128.toNat, z129.toNat, z130.toNat, (qq z131), z132⟩ : Ch) z133.toNat z134.toNat, [])
  | _ => none
attribute [go_sem] bR
theorem kau : ∀ rs p r fr, bR rs = some (p, r, fr) → p → qg Tryz.prog 93 rs r fr := by
  intro rs p r fr h hp
  unfold bR at h
  split at h <;> cases h
  obtain ⟨hc0, hc1, hc2, hc3, hc4, hc5, hc6, hc7⟩ := hp
  rename_i z126 z127 z128 z129 z130 z131 z132 z133 z134
  obtain ⟨z126, rfl⟩ : ∃ m : Nat, z126 = m := ⟨_, hc0⟩
  obtain ⟨z127, rfl⟩ : ∃ m : Nat, z127 = m := ⟨_, hc1⟩
  obtain ⟨z128, rfl⟩ : ∃ m : Nat, z128 = m := ⟨_, hc2⟩
  obtain ⟨z129, rfl⟩ : ∃ m : Nat, z129 = m := ⟨_, hc3⟩
  obtain ⟨z130, rfl⟩ : ∃ m : Nat, z130 = m := ⟨_, hc4⟩
  obtain ⟨z131, rfl⟩ : ∃ m, z131 = hds m := ⟨_, hc5⟩
  obtain ⟨z133, rfl⟩ : ∃ m : Nat, z133 = m := ⟨_, hc6⟩
  obtain ⟨z134, rfl⟩ : ∃ m : Nat, z134 = m := ⟨_, hc7⟩
  simp only [Int.toNat_natCast, ze]
  exact ua7 ⟨z126, z127, z128, z129, z130, z131, z132⟩ z133 z134
end Dm
namespace Dm
open Go Go.Proofs Go.IntWalk
def um (l : List Ch) (id h n : Nat) : List Ch × Int :=
  if zl l then (if Srt.thr Ch.id ltN l id = true then (if (wj l h).2 = 0 then ([], 6) else if qm (l.getD (Srt.pos Ch.id ltN l id) default) h n = 0 then (l.set (Srt.pos Ch.id ltN l id) (qf (l.getD (Srt.pos Ch.id ltN l id) default) h n).1, 0) else ([], qm (l.getD (Srt.pos Ch.id ltN l id) default) h n)) else ([], 5)) else ([], 1)
theorem jaS {c : Ch} {id n : Nat} : (qf c id n).2 = qm c id n := by
  unfold qf
  split
  · rename_i h; exact h.symm
  · rfl
@[go_sem] def gaR (l : List Ch) (id : Nat) (h : Nat) (n : Nat) : D := .tup [.sl (chs (um l id h n).1), .int .i64 (um l id h n).2]
@[go_sem] abbrev qcL : FuncId := 46
@[go_sem] def xbo : Tab := [(29, gu), (92, jB), (93, bR), (77, uC)]
theorem gM : za Tryz.prog xbo := (za.cons jt (za.cons uO (za.cons kau (za.cons yz za.nil))))
set_option maxRecDepth 8000 in
set_option maxHeartbeats 1000000 in
theorem va5 (l : List Ch) (id : Nat) (h : Nat) (n : Nat)  : yb Tryz.prog 46 [.sl (chs l), .c (.int .u64 (id : Int)), .c (.int .u64 (h : Int)), .c (.int .u64 (n : Int))] (gaR l id h n) := by
  refine .of (zdb gM (Nat.le_of_ble_eq_true rfl) ?_)
  simp -implicitDefEqProofs only [cdA, go_sem, Go.Proofs.Tryz.f46, reduceIte, reduceCtorEq, Nat.reduceEqDiff, Nat.reduceAdd, Nat.reduceLeDiff, Nat.reduceSub, Nat.reduceMul, Nat.reduceLT, Nat.reduceShiftRight, Nat.reduceMod, Int.reduceLE, Int.reduceLT, Int.reduceToNat, List.cons.injEq, cdB]
  refine xck gM (Nat.le_of_ble_eq_true rfl) ?_
  simp -implicitDefEqProofs only [cdA, go_sem, Go.Proofs.Tryz.f90, reduceIte, reduceCtorEq, Nat.reduceEqDiff, Nat.reduceAdd, Nat.reduceLeDiff, Nat.reduceSub, Nat.reduceMul, Nat.reduceLT, Nat.reduceShiftRight, Nat.reduceMod, Int.reduceLE, Int.reduceLT, Int.reduceToNat, List.cons.injEq, cdB]
  by_cases hok : zl l
  · by_cases ht : Srt.thr Ch.id ltN l id = true
    · have e1 : jf l id = (((Srt.pos Ch.id ltN l id : Nat) : Int), 0) := by rw [jf, if_pos hok, if_pos ht]
      have hp : Srt.pos Ch.id ltN l id < l.length := by
        unfold Srt.thr at ht
        exact (of_decide_eq_true ht).1
      rw [e1, Int.toNat_natCast, um, if_pos hok, if_pos ht]
      refine ⟨fun _ => ⟨⟨by omega, by omega⟩, ?_⟩, fun h => absurd rfl h⟩
      refine bdc gM (Nat.le_of_ble_eq_true rfl) ?_
      simp -implicitDefEqProofs only [cdA, go_sem, Go.Proofs.Tryz.f91, reduceIte, reduceCtorEq, Nat.reduceEqDiff, Nat.reduceAdd, Nat.reduceLeDiff, Nat.reduceSub, Nat.reduceMul, Nat.reduceLT, Nat.reduceShiftRight, Nat.reduceMod, Int.reduceLE, Int.reduceLT, Int.reduceToNat, List.cons.injEq, cdB]
      have h32 : l.length ≤ 1000000 ∧ ∀ c ∈ l, c.holds.length ≤ 1000000 := ⟨by have := hok.1; omega, fun c hc => by have := (hok.2.1 c hc).2.2.1; omega⟩
      refine ⟨fun hw => ⟨fun h6 => absurd h6 (by decide), fun _ => ?_⟩, fun hw => ⟨fun h0 => ?_, fun h0 => ?_⟩⟩
      · rw [if_pos hw]; exact ⟨rfl, rfl⟩
      · rw [jaS] at h0
        rw [if_neg hw, if_pos h0]
        exact ⟨h32, by omega, hp, ⟨by simp, _, _, _, rfl⟩, rfl⟩
      · rw [jaS] at h0 ⊢
        rw [if_neg hw, if_neg h0]
        exact ⟨rfl, rfl⟩
    · have e1 : jf l id = (0, 5) := by rw [jf, if_pos hok, if_neg ht]
      have e2 : um l id h n = ([], 5) := by rw [um, if_pos hok, if_neg ht]
      rw [e1, e2]
      exact ⟨fun h => absurd h (by decide), fun _ => ⟨rfl, rfl⟩⟩
  · have e1 : jf l id = (0, 1) := by rw [jf, if_neg hok]
    have e2 : um l id h n = ([], 1) := by rw [um, if_neg hok]
    rw [e1, e2]
    exact ⟨fun h => absurd h (by decide), fun _ => ⟨rfl, rfl⟩⟩
def yR : List D → Option (Prop × D × Fr)
  | [.c (.sl z135), .c (.int .u64 z136), .c (.int .u64 z137), .c (.int .u64 z138)] => some (z135 = chs (ji z135) ∧ z136 = (z136.toNat : Int) ∧ z137 = (z137.toNat : Int) ∧ z138 = (z138.toNat : Int), gaR (ji z135) z136.toNat z137.toNat z138.toNat, [])
  | _ => none
attribute [go_sem] yR
theorem bav : ∀ rs p r fr, yR rs = some (p, r, fr) → p → qg Tryz.prog 46 rs r fr := by
  intro rs p r fr h hp
  unfold yR at h
  split at h <;> cases h
  obtain ⟨hc0, hc1, hc2, hc3⟩ := hp
  rename_i z135 z136 z137 z138
  obtain ⟨z135, rfl⟩ : ∃ m, z135 = chs m := ⟨_, hc0⟩
  obtain ⟨z136, rfl⟩ : ∃ m : Nat, z136 = m := ⟨_, hc1⟩
  obtain ⟨z137, rfl⟩ : ∃ m : Nat, z137 = m := ⟨_, hc2⟩
  obtain ⟨z138, rfl⟩ : ∃ m : Nat, z138 = m := ⟨_, hc3⟩
  simp only [Int.toNat_natCast, jb]
  exact va5 z135 z136 z137 z138
end Dm
namespace Dm
open Go Go.Proofs Go.IntWalk
theorem vE {l : List Hd} {i : Nat} {x : Hd} : List.Perm (Srt.ins l i x) (x :: l) := Srt.vz
theorem qA {l : List Ch} {p : Nat} (hp : p < l.length) : l = l.take p ++ l.getD p default :: l.drop (p + 1) := by
  rw [ve hp, List.getElem_cons_drop, List.take_append_drop]
theorem qt {l : List Ch} {p : Nat} {d : Ch} (hp : p < l.length) : l.set p d = l.take p ++ d :: l.drop (p + 1) := by
  rw [List.set_eq_take_append_cons_drop, if_pos hp]
theorem zaA {l : List Ch} {p : Nat} {d : Ch} {x : Hd} (hp : p < l.length) (hd : d.holds.Perm (x :: (l.getD p default).holds)) : (yM (l.set p d)).Perm (x.id :: yM l) := by
  conv => rhs; rw [qA hp]
  rw [qt hp]
  simp only [yM, List.flatMap_append, List.flatMap_cons]
  have h1 := hd.map Hd.id
  rw [List.map_cons] at h1
  refine (List.Perm.append_left _ (h1.append_right _)).trans ?_
  exact List.perm_middle
theorem zaC {l : List Hd} {i : Nat} {x : Hd} : held (Srt.ins l i x) = x.n + held l := by
  unfold held
  rw [((vE (l := l) (i := i) (x := x)).map Hd.n).sum_nat, List.map_cons, List.sum_cons]
theorem zaa {l : List Ch} {p : Nat} {d : Ch} (hp : p < l.length) (hd : uI d = uI (l.getD p default)) : qQ (l.set p d) = qQ l := by
  conv => rhs; rw [qA hp]
  rw [qt hp]
  simp only [qQ, List.map_append, List.map_cons, List.sum_append, List.sum_cons, hd]
theorem wW {c : Ch} {h n : Nat} (he : qm c h n = 0) (hok : gj c) : gj (qf c h n).1 ∧ uI (qf c h n).1 = uI c := by
  have e : qf c h n = (⟨c.id, c.loc - n, c.rem, c.res, c.most, Srt.ins c.holds (Srt.pos Hd.key ltN c.holds h) ⟨h, n⟩, c.op⟩, 0) := by rw [qf, if_pos he]
  obtain ⟨o1, o2, o3, o4, o5, o6, o7, o8, o9, o10⟩ := hok
  have hok : gj c := ⟨o1, o2, o3, o4, o5, o6, o7, o8, o9, o10⟩
  unfold qm at he
  split at he
  · cases he
  split at he
  · cases he
  split at he
  · cases he
  split at he
  · cases he
  split at he
  · cases he
  split at he
  · cases he
  rename_i h1 h2 h3 h4 h5 h6
  have hn0 : n ≠ 0 := fun h => h1 (.inr (.inl h))
  have h7 := zaC (l := c.holds) (i := Srt.pos Hd.key ltN c.holds h) (x := ⟨h, n⟩)
  have hu : Srt.Up Hd.key ltN c.holds := (Srt.bf (lt := ltN) Srt.ue).1 o6
  have hle : n ≤ c.loc := by omega
  have hnew : gj (qf c h n).1 := by
    rw [e]
    refine ⟨o1, o2, ?_, fun hop => absurd hop h2, fun y hy => ?_, ?_, ?_, ?_, o9, ?_⟩
    · dsimp only; rw [Srt.zj]; omega
    · rcases List.mem_cons.1 (vE.mem_iff.1 hy) with rfl | hy
      · exact hn0
      · exact o5 y hy
    · exact (Srt.bf (lt := ltN) Srt.ue).2 (Srt.uaP (x := (⟨h, n⟩ : Hd)) (Srt.ue) hu h3)
    · dsimp only; rw [h7]; dsimp only; omega
    · dsimp only; omega
    · dsimp only; rw [h7]; dsimp only; omega
  refine ⟨hnew, ?_⟩
  have a1 : uI c = held c.holds + c.loc + c.rem := by unfold uI vf; rw [if_pos hok]
  have a2 : uI (qf c h n).1 = held (qf c h n).1.holds + (qf c h n).1.loc + (qf c h n).1.rem := by unfold uI vf; rw [if_pos hnew]
  rw [a1, a2, e]
  dsimp only
  rw [h7]; dsimp only; omega
theorem jaY {l : List Ch} {h : Nat} (hok : zl l) : (wj l h).2 = 0 ↔ h ∈ yM l := by
  have hnd : ((hm 0 l).map (·.1)).Nodup := by rw [yI]; exact hok.2.2.2.1
  rw [wj, if_pos hok]
  constructor
  · cases hx : nlk h (hm 0 l) with
    | none => intro h; cases h
    | some i =>
      intro _
      have := (uL hnd).1 hx
      rw [← yI (s := 0)]
      exact List.mem_map.2 ⟨_, this, rfl⟩
  · intro hh
    rw [← yI (s := 0)] at hh
    obtain ⟨⟨k, a⟩, h1, h2⟩ := List.mem_map.1 hh
    dsimp only at h2
    subst h2
    rw [(uL hnd).2 h1]
end Dm
namespace Dm
open Go Go.Proofs Go.IntWalk
theorem qaa {l : List Ch} {id h n : Nat} (h0 : (um l id h n).2 = 0) : zl l ∧ ∃ c ∈ l, c.id = id ∧ Srt.pos Ch.id ltN l id < l.length ∧ l.getD (Srt.pos Ch.id ltN l id) default = c ∧ h ∉ yM l ∧ qm c h n = 0 ∧ um l id h n = (l.set (Srt.pos Ch.id ltN l id) (qf c h n).1, 0) := by
  by_cases hok : zl l
  · by_cases ht : Srt.thr Ch.id ltN l id = true
    · by_cases hw : (wj l h).2 = 0
      · rw [um, if_pos hok, if_pos ht, if_pos hw] at h0; cases h0
      · by_cases he : qm (l.getD (Srt.pos Ch.id ltN l id) default) h n = 0
        · have h2 := ht
          unfold Srt.thr at h2
          obtain ⟨hp, hpi⟩ := of_decide_eq_true h2
          refine ⟨hok, _, xb.2 ⟨_, hp, rfl⟩, hpi, hp, rfl, fun h => hw ((jaY hok).2 h), he, ?_⟩
          rw [um, if_pos hok, if_pos ht, if_neg hw, if_pos he]
        · rw [um, if_pos hok, if_pos ht, if_neg hw, if_neg he] at h0; exact absurd h0 he
    · rw [um, if_pos hok, if_neg ht] at h0; cases h0
  · rw [um, if_neg hok] at h0; cases h0
theorem x7 {l : List Ch} {id h n : Nat} (h0 : (um l id h n).2 = 0) : zl (um l id h n).1 := by
  obtain ⟨hok, c, hc, hid, hp, hcp, hw, he, e⟩ := qaa h0
  have hu : Srt.Up Ch.id ltN l := (Srt.bf (lt := ltN) Srt.ue).1 hok.2.2.1
  obtain ⟨hok', hall⟩ := wW he (hok.2.1 c hc)
  have eid : (qf c h n).1.id = c.id := by rw [qf, if_pos he]
  have ehl : (qf c h n).1.holds.Perm (⟨h, n⟩ :: c.holds) := by rw [qf, if_pos he]; exact vE
  generalize Srt.pos Ch.id ltN l id = p at *
  have hpm := zaA (l := l) (p := p) (d := (qf c h n).1) (x := ⟨h, n⟩) hp (by rw [hcp]; exact ehl)
  rw [e]
  refine ⟨by rw [List.length_set]; exact hok.1, fun d hd => ?_, ?_, ?_, ?_⟩
  · rcases List.mem_or_eq_of_mem_set hd with h | rfl
    · exact hok.2.1 d h
    · exact hok'
  · exact (Srt.bf (lt := ltN) Srt.ue).2 (Srt.u6 hu hp (by rw [hcp]; exact eid))
  · rw [hpm.nodup_iff, List.nodup_cons]; exact ⟨hw, hok.2.2.2.1⟩
  · rw [zaa hp (by rw [hcp]; exact hall)]; exact hok.2.2.2.2
theorem yaO {l : List Py} {p : Py} : (uo l p).1.length ≤ 257 := by
  unfold uo
  split
  · simp
  · rename_i hA
    have hok : zB l := Decidable.byContradiction fun h => hA (.inl h)
    have := hok.1
    split
    · simp
    · split
      · split
        · simp
        · rename_i k hk
          dsimp only
          have hkl : k < l.length := by
            unfold idle at hk
            exact (List.findIdx?_eq_some_iff_getElem.1 hk).1
          rw [Srt.zj, List.length_eraseIdx_of_lt hkl]; omega
      · dsimp only
        rw [Srt.zj]; omega
theorem yE {f : Fd} {k : Int} {a n : Nat} : (xu f k a n).1.l.length ≤ 64 := by
  unfold xu
  split
  · rename_i h
    have := h.1.2.2.1
    split
    · simp
    · dsimp only
      rw [List.length_drop, List.length_append, List.length_singleton]; omega
  · simp
theorem jo {w : Wl} (h : okW w) : jx w := by
  obtain ⟨h1, h2, h3, h4, _⟩ := h
  have h7 := h3.2.2.1
  refine ⟨by have := h1.1; omega, fun c hc => by have := (h1.2.1 c hc).2.2.1; omega, by omega, by have := h2.1; omega, ?_, by omega⟩
  rename_i h8
  have h9 := h8.2.2.2
  have : zB w.p := by
    unfold zY at h9
    split at h9
    · rename_i h; exact h.1
    · cases h9
  have := this.1; omega
end Dm
