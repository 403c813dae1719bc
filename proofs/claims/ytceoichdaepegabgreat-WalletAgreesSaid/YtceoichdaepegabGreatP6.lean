import Derived.Test.YtceoichdaepegabGreatP5
import Derived.Ground.SlsfProg
import Derived.Shelf.Lay
set_option linter.unusedSimpArgs false
set_option linter.unusedVariables false
set_option linter.unusedSectionVars false
namespace Dm
open Go Go.Proofs Go.IntWalk
structure Ev where
  seq : Nat
  kind : Int
  a : Nat
  n : Nat
deriving DecidableEq, Inhabited
@[go_sem] def Ev.enc (e : Ev) : List C := [.int .u64 (e.seq : Int), .int .i64 e.kind, .int .u64 (e.a : Int), .int .u64 (e.n : Int)]
def Ev.dec : List C → Ev
  | [.int .u64 z186, .int .i64 z187, .int .u64 z188, .int .u64 z189] => (⟨z186.toNat, z187, z188.toNat, z189.toNat⟩ : Ev)
  | _ => default
def evs (l : List Ev) : List (List C) := l.map Ev.enc
def devs (l : List (List C)) : List Ev := l.map Ev.dec
@[simp, go_sem] theorem evs_length (l : List Ev) : (evs l).length = l.length := by simp [evs]
@[go_sem] theorem evs_get (l : List Ev) (i : Nat) : (evs l).getD i [.int .u64 0, .int .i64 0, .int .u64 0, .int .u64 0] = (l.getD i default).enc := by
  simp only [evs, List.getD_eq_getElem?_getD, List.getElem?_map]
  cases l[i]? <;> rfl
@[go_sem] theorem evs_wide (l : List Ev) : Wide 4 (evs l) = True := by
  simp [Wide, evs, Ev.enc]
theorem Ev.dec_enc (e : Ev) : Ev.dec e.enc = e := by
  simp [Ev.enc, Ev.dec]
@[go_sem] theorem devs_evs (l : List Ev) : devs (evs l) = l := by
  simp only [devs, evs, List.map_map]
  exact List.map_id'' (fun e => Ev.dec_enc e) l
@[go_sem] theorem evs_app (a b : List Ev) : evs a ++ evs b = evs (a ++ b) := by simp [evs]
@[go_sem] theorem evs_drop (l : List Ev) (k : Nat) : (evs l).drop k = evs (l.drop k) := by simp [evs]
@[go_sem] theorem evs_take (l : List Ev) (k : Nat) : (evs l).take k = evs (l.take k) := by simp [evs]
@[go_sem] theorem evs_one (z190 : Int) (z191 : Int) (z192 : Int) (z193 : Int) (hz190 : 0 ≤ z190) (hz192 : 0 ≤ z192) (hz193 : 0 ≤ z193) : [[C.int .u64 z190, C.int .i64 z191, C.int .u64 z192, C.int .u64 z193]] = evs [⟨z190.toNat, z191, z192.toNat, z193.toNat⟩] := by simp [evs, Ev.enc, Int.toNat_of_nonneg hz190, Int.toNat_of_nonneg hz192, Int.toNat_of_nonneg hz193]
@[go_sem] theorem evs_set (l : List Ev) (i : Nat) (z190 : Int) (z191 : Int) (z192 : Int) (z193 : Int) (hz190 : 0 ≤ z190) (hz192 : 0 ≤ z192) (hz193 : 0 ≤ z193) : (evs l).set i [C.int .u64 z190, C.int .i64 z191, C.int .u64 z192, C.int .u64 z193] = evs (l.set i ⟨z190.toNat, z191, z192.toNat, z193.toNat⟩) := by simp [evs, List.map_set, Ev.enc, Int.toNat_of_nonneg hz190, Int.toNat_of_nonneg hz192, Int.toNat_of_nonneg hz193]
@[go_sem] theorem evs_cons (l : List Ev) (z190 : Int) (z191 : Int) (z192 : Int) (z193 : Int) (hz190 : 0 ≤ z190) (hz192 : 0 ≤ z192) (hz193 : 0 ≤ z193) : [C.int .u64 z190, C.int .i64 z191, C.int .u64 z192, C.int .u64 z193] :: evs l = evs (⟨z190.toNat, z191, z192.toNat, z193.toNat⟩ :: l) := by simp [evs, Ev.enc, Int.toNat_of_nonneg hz190, Int.toNat_of_nonneg hz192, Int.toNat_of_nonneg hz193]
@[go_sem] theorem evs_flat (l : List Ev) : flatE (evs l) = True := eq_true fun x hx c hc => by
  obtain ⟨e, _, rfl⟩ := List.mem_map.1 hx
  simp only [Ev.enc, List.mem_cons, List.not_mem_nil, or_false] at hc
  rcases hc with rfl | rfl | rfl | rfl <;> rfl
@[go_sem] theorem Ev.eta {e : Ev} : (⟨e.seq, e.kind, e.a, e.n⟩ : Ev) = e := rfl
structure Fd where
  next : Nat
  l : List Ev
deriving DecidableEq, Inhabited
@[go_sem] def Fd.enc (e : Fd) : List C := [.int .u64 (e.next : Int), .sl (evs e.l)]
def Fd.dec : List C → Fd
  | [.int .u64 z195, .sl z196] => (⟨z195.toNat, (devs z196)⟩ : Fd)
  | _ => default
def fds (l : List Fd) : List (List C) := l.map Fd.enc
def dfds (l : List (List C)) : List Fd := l.map Fd.dec
@[simp, go_sem] theorem fds_length (l : List Fd) : (fds l).length = l.length := by simp [fds]
@[go_sem] theorem fds_get (l : List Fd) (i : Nat) : (fds l).getD i [.int .u64 0, .sl []] = (l.getD i default).enc := by
  simp only [fds, List.getD_eq_getElem?_getD, List.getElem?_map]
  cases l[i]? <;> rfl
@[go_sem] theorem fds_wide (l : List Fd) : Wide 2 (fds l) = True := by
  simp [Wide, fds, Fd.enc]
theorem Fd.dec_enc (e : Fd) : Fd.dec e.enc = e := by
  simp [Fd.enc, Fd.dec, devs_evs]
@[go_sem] theorem dfds_fds (l : List Fd) : dfds (fds l) = l := by
  simp only [dfds, fds, List.map_map]
  exact List.map_id'' (fun e => Fd.dec_enc e) l
@[go_sem] theorem fds_app (a b : List Fd) : fds a ++ fds b = fds (a ++ b) := by simp [fds]
@[go_sem] theorem fds_drop (l : List Fd) (k : Nat) : (fds l).drop k = fds (l.drop k) := by simp [fds]
@[go_sem] theorem fds_take (l : List Fd) (k : Nat) : (fds l).take k = fds (l.take k) := by simp [fds]
@[go_sem] theorem fds_one (z197 : Int) (z198 : List Ev) (hz197 : 0 ≤ z197) : [[C.int .u64 z197, C.sl (evs z198)]] = fds [⟨z197.toNat, z198⟩] := by simp [fds, Fd.enc, Int.toNat_of_nonneg hz197]
@[go_sem] theorem fds_set (l : List Fd) (i : Nat) (z197 : Int) (z198 : List Ev) (hz197 : 0 ≤ z197) : (fds l).set i [C.int .u64 z197, C.sl (evs z198)] = fds (l.set i ⟨z197.toNat, z198⟩) := by simp [fds, List.map_set, Fd.enc, Int.toNat_of_nonneg hz197]
@[go_sem] theorem fds_cons (l : List Fd) (z197 : Int) (z198 : List Ev) (hz197 : 0 ≤ z197) : [C.int .u64 z197, C.sl (evs z198)] :: fds l = fds (⟨z197.toNat, z198⟩ :: l) := by simp [fds, Fd.enc, Int.toNat_of_nonneg hz197]
@[go_sem] theorem Fd.eta {e : Fd} : (⟨e.next, e.l⟩ : Fd) = e := rfl
def kindS (k : Int) : Bool := decide (0 ≤ k ∧ k < 16)
@[go_sem] def fkind_r (k : Int) : D := .bool (kindS k)
@[go_sem] abbrev n_fkind : FuncId := 70
@[go_sem] def fkind_T : Tab := []
theorem fkind_T_ok : TabOk Tryz.prog fkind_T := TabOk.nil
set_option maxRecDepth 8000 in
set_option maxHeartbeats 1000000 in
theorem fkind_ok (k : Int)  : PureFn Tryz.prog 70 [.c (.int .i64 k)] (fkind_r k) := by
  refine .of (ac70 fkind_T_ok (Nat.le_of_ble_eq_true rfl) ?_)
  simp -implicitDefEqProofs only [cdA, go_sem, Go.Proofs.Tryz.f70, reduceIte, List.cons.injEq, cdB]
  have e : kindS k = decide (0 ≤ k ∧ k < 16) := rfl
  rw [e]
  exact ⟨fun h => by rw [decide_eq_decide]; exact ⟨fun h2 => ⟨h, h2⟩, fun h2 => h2.2⟩, fun h => (decide_eq_false fun h2 => h h2.1).symm⟩
def sp_fkind : List D → Option (Prop × D × Fr)
  | [.c (.int .i64 z199)] => some (True, fkind_r z199, [])
  | _ => none
attribute [go_sem] sp_fkind
theorem sp_fkind_ok : ∀ rs p r fr, sp_fkind rs = some (p, r, fr) → p → FnOk Tryz.prog 70 rs r fr := by
  intro rs p r fr h hp
  unfold sp_fkind at h
  split at h <;> cases h
  rename_i z199
  exact fkind_ok z199
@[go_sem] def fnew_r  : D := .agg [.int .u64 1, .sl (evs [])]
@[go_sem] abbrev n_fnew : FuncId := 18
@[go_sem] def fnew_T : Tab := []
theorem fnew_T_ok : TabOk Tryz.prog fnew_T := TabOk.nil
set_option maxRecDepth 8000 in
set_option maxHeartbeats 1000000 in
theorem fnew_ok   : PureFn Tryz.prog 18 [] (fnew_r ) := by
  refine .of (ac18 fnew_T_ok (Nat.le_of_ble_eq_true rfl) ?_)
  simp -implicitDefEqProofs only [cdA, go_sem, Go.Proofs.Tryz.f18, reduceIte, List.cons.injEq, cdB]
  rfl
def sp_fnew : List D → Option (Prop × D × Fr)
  | [] => some (True, fnew_r , [])
  | _ => none
attribute [go_sem] sp_fnew
theorem sp_fnew_ok : ∀ rs p r fr, sp_fnew rs = some (p, r, fr) → p → FnOk Tryz.prog 18 rs r fr := by
  intro rs p r fr h hp
  unfold sp_fnew at h
  split at h <;> cases h
  exact fnew_ok 
theorem rev_take {n k : Nat} (h : k < n) : (List.finRange n).reverse.take k ++ [⟨n - 1 - k, by omega⟩] = (List.finRange n).reverse.take (k + 1) := by
  have hl : k < (List.finRange n).reverse.length := by simpa using h
  rw [List.take_add_one, List.getElem?_eq_getElem hl]
  simp
set_option maxRecDepth 4000 in
theorem back_iter (l : List Ev) (hl : l.length ≤ 1000000) : IterOk Tryz.prog 108 [.rp [.sl (evs l)]] (m := l.length) (fun x => [.int .i64 x.1, .agg ((l.getD x.1 default).enc.map .c)]) (List.finRange l.length).reverse := by
  refine IterOk.of (n := 19) (fn := Tryz.f108) (by kernel_rfl) rfl rfl rfl (Nat.le_of_ble_eq_true rfl) rfl ?_
  intro y I J Jx hY
  refine SY.seq (SY.region .nil hY rfl ?_)
  simp -implicitDefEqProofs only [cdA, go_sem, aopsY, yargs, St.nums, numsL, List.contains_cons, List.contains_nil, Nat.reduceBEq, Bool.or_self, reduceIte, List.cons.injEq, cdB]
  refine fun _ => SY.block (SY.loop l.length (fun k => ⟨[(0, .fn (.yield y) [] []), (1, .rp [.sl (evs l)]), (3, .int .i64 ((l.length : Int) - 1 - k))], [], 0⟩) (fun k => ((List.finRange l.length).reverse.take k, true)) 0 ?_ (Nat.zero_le _) ?_)
  · intro a w h
    rw [i64_in _ (by omega)] at h
    have h := h.sub (s' := ⟨[(0, .fn (.yield y) [] []), (1, .rp [.sl (evs l)]), (3, .int .i64 ((l.length : Int) - 1 - (0 : Nat)))], [], 0⟩) ⟨rfl, rfl, by simp [go_sem]⟩
    simpa using h
  · intro k hk
    refine SY.seq (SY.seq (SY.region .nil hY rfl ?_))
    simp -implicitDefEqProofs only [cdA, go_sem, aopsY, yargs, St.nums, numsL, List.contains_cons, List.contains_nil, Nat.reduceBEq, Bool.or_self, reduceIte, List.cons.injEq, cdB]
    refine SY.cond rfl (fun hc => SY.skip ?_) (fun hc => SY.exit ?_)
    · have hk' : k < l.length := by simp at hc; omega
      refine SY.seq (SY.block (SY.seq (SY.region .nil hY rfl ?_)))
      simp -implicitDefEqProofs only [cdA, go_sem, aopsY, yargs, St.nums, numsL, List.contains_cons, List.contains_nil, Nat.reduceBEq, Bool.or_self, reduceIte, List.cons.injEq, cdB]
      refine ⟨by omega, by simp; omega, ⟨l.length - 1 - k, by omega⟩, ?_, ?_, ?_⟩
      · have e1 : ((l.length : Int) - 1 - k).toNat = l.length - 1 - k := by omega
        have e2 : ((l.length : Int) - 1 - k) = ((l.length - 1 - k : Nat) : Int) := by omega
        rw [e1, e2]; exact ⟨rfl, rfl⟩
      · refine SY.cond (b := false) rfl (fun h => by cases h) (fun _ => SY.skip (SY.region .nil hY rfl ?_))
        simp -implicitDefEqProofs only [cdA, go_sem, aopsY, yargs, reduceIte, List.cons.injEq, cdB]
        rw [i64_in _ (by omega)]
        exact ⟨hk', by rw [rev_take hk'], by omega⟩
      · refine SY.cond (b := true) rfl (fun _ => SY.ret ?_) (fun h => by cases h)
        refine ⟨.inr rfl, .inr ⟨rfl, ?_⟩⟩
        rw [rev_take hk']
        exact List.take_prefix _ _
    · have hk' : k = l.length := by simp at hc; omega
      have : List.take l.length (List.finRange l.length).reverse = (List.finRange l.length).reverse := List.take_of_length_le (by simp)
      simp [hk', this]
@[go_sem] def fback_r (l : List Ev) : D := .fn (.func 108) [] [.rp [.sl (evs l)]]
@[go_sem] abbrev n_fback : FuncId := 69
@[go_sem] def fback_T : Tab := []
theorem fback_T_ok : TabOk Tryz.prog fback_T := TabOk.nil
set_option maxRecDepth 8000 in
set_option maxHeartbeats 1000000 in
theorem fback_ok (l : List Ev)  : PureFn Tryz.prog 69 [.sl (evs l)] (fback_r l) := by
  refine .of (ac69 fback_T_ok (Nat.le_of_ble_eq_true rfl) ?_)
  simp -implicitDefEqProofs only [cdA, go_sem, Go.Proofs.Tryz.f69, reduceIte, List.cons.injEq, cdB]
  exact ⟨_, rfl, rfl⟩
def sp_fback : List D → Option (Prop × D × Fr)
  | [.c (.sl z200)] => some (z200 = evs (devs z200), fback_r (devs z200), [])
  | _ => none
attribute [go_sem] sp_fback
theorem sp_fback_ok : ∀ rs p r fr, sp_fback rs = some (p, r, fr) → p → FnOk Tryz.prog 69 rs r fr := by
  intro rs p r fr h hp
  unfold sp_fback at h
  split at h <;> cases h
  have hc0 := hp
  rename_i z200
  obtain ⟨z200, rfl⟩ : ∃ m, z200 = evs m := ⟨_, hc0⟩
  simp only [devs_evs]
  exact fback_ok z200
def okEv (n : Int) : List Ev → Bool
  | [] => true
  | e :: r => decide ((e.seq : Int) = n - (r.length + 1)) && kindS e.kind && okEv n r
def okFd (f : Fd) : Prop := 1 ≤ f.next ∧ f.next ≤ MM ∧ f.l.length = min (f.next - 1) 64 ∧ okEv f.next f.l = true
instance (f : Fd) : Decidable (okFd f) := by unfold okFd; infer_instance
def chkF (f : Fd) : Int := if okFd f then 0 else 1
theorem okEv_get (n : Int) : ∀ (l : List Ev), okEv n l = true ↔ ∀ i : Nat, i < l.length → ((l.getD i default).seq : Int) = n - (l.length - i : Int) ∧ kindS (l.getD i default).kind = true
  | [] => by simp [okEv]
  | e :: r => by
    rw [okEv, Bool.and_eq_true, Bool.and_eq_true, okEv_get n r, decide_eq_true_eq]
    constructor
    · rintro ⟨⟨h1, h2⟩, h3⟩ i hi
      cases i with
      | zero => simp [h1, h2]
      | succ i =>
        have := h3 i (by simpa using hi)
        simp only [List.getD_cons_succ, List.length_cons]
        refine ⟨?_, this.2⟩
        rw [this.1]
        omega
    · intro h
      refine ⟨?_, fun i hi => ?_⟩
      · have := h 0 (by simp)
        simp at this
        exact ⟨by rw [this.1], this.2⟩
      · have := h (i + 1) (by simpa using hi)
        simp only [List.getD_cons_succ, List.length_cons] at this
        refine ⟨?_, this.2⟩
        rw [this.1]
        omega
theorem check_bad {f : Fd} {pre : List (Fin f.l.length)} {x : Fin f.l.length} (h : pre ++ [x] <+: (List.finRange f.l.length).reverse)
    (hb : ¬ (((f.l.getD x.1 default).seq : Int) = f.next - (pre.length + 1 : Int) ∧ kindS (f.l.getD x.1 default).kind = true)) : chkF f = 1 := by
  unfold chkF
  rw [if_neg]
  rintro ⟨_, _, _, h4⟩
  obtain ⟨t, ht⟩ := h
  have h5 : (List.finRange f.l.length).reverse[pre.length]? = some x := by rw [← ht]; simp
  have h6 := (okEv_get f.next f.l).1 h4 x.1 x.2
  have hlt : pre.length < f.l.length := by
    have := (List.getElem?_eq_some_iff.1 h5).1
    simpa using this
  have h7 : x.1 = f.l.length - 1 - pre.length := by
    rw [List.getElem?_eq_getElem (by simpa using hlt)] at h5
    simp at h5
    rw [← h5]
  refine hb ⟨?_, h6.2⟩
  rw [h6.1, h7]
  omega
attribute [go_sem] setps asg rfp
@[go_sem] def fcheck_r (f : Fd) : D := .int .i64 (chkF f)
@[go_sem] abbrev n_fcheck : FuncId := 28
@[go_sem] def fcheck_T : Tab := [(70, sp_fkind), (69, sp_fback)]
theorem fcheck_T_ok : TabOk Tryz.prog fcheck_T := (TabOk.cons sp_fkind_ok (TabOk.cons sp_fback_ok TabOk.nil))
set_option maxRecDepth 8000 in
set_option maxHeartbeats 1000000 in
theorem fcheck_ok (f : Fd) (h : f.next ≤ 18446744073709551615) : PureFn Tryz.prog 28 [.agg [.c (.int .u64 (f.next : Int)), .sl (evs f.l)]] (fcheck_r f) := by
  refine .of (acall_introM (n := 44) (fn := Tryz.f28) (by kernel_rfl) rfl rfl rfl (Nat.le_of_ble_eq_true rfl) (rs := [.cell 2 41]) rfl ?_)
  refine SWm.seq (SWm.awp fcheck_T_ok.toS lv28 rfl ?_)
  simp -implicitDefEqProofs only [cdA, go_sem, reduceIte, List.cons.injEq, cdB]
  refine SWm.seq (SWm.awp fcheck_T_ok.toS lv28 rfl ?_)
  simp -implicitDefEqProofs only [cdA, go_sem, reduceIte, List.cons.injEq, cdB]
  have hbad : ¬ okFd f → 1 = chkF f := fun h => by rw [chkF, if_neg h]
  refine ⟨fun h1 => ⟨fun h2 h3 => ⟨fun h4 => ?_, fun h4 => hbad fun ho => h4 ?_⟩, fun h2 => hbad fun ho => ?_⟩, fun h1 => hbad fun ho => ?_⟩
  rotate_left 1
  · have := ho.2.2.1
    rw [u64_in f.l.length (by omega), u64_in ((f.next : Int) - 1) (by omega)]; omega
  · have := ho.2.1; unfold MM at this; omega
  · have := ho.1; omega
  · refine SWm.seq (SWm.awp fcheck_T_ok.toS lv28 rfl ?_)
    simp -implicitDefEqProofs only [cdA, go_sem, reduceIte, List.cons.injEq, cdB]
    refine SWm.seq (SWm.seq (SWm.awp fcheck_T_ok.toS lv28 rfl ?_))
    simp -implicitDefEqProofs only [cdA, go_sem, reduceIte, List.cons.injEq, cdB]
    have hle : (f.l.length : Int) ≤ 64 ∧ (f.l.length : Int) ≤ f.next - 1 := by
      rw [u64_in f.l.length (by omega), u64_in ((f.next : Int) - 1) (by omega)] at h4
      omega
    have hlen : f.l.length ≤ 1000000 := by omega
    refine SWm.block (SWm.rangeFunc fcheck_T_ok.toS lv28 (caps := [.rp [.sl (evs f.l)]]) rfl (by simp [D.pure1]) (back_iter f.l hlen)
      (fun pre => [(2, .box [.int .u64 ((f.next : Int) - pre.length)]), (1, .box [.int .i64 0]), (0, .box [.int .u64 f.next, .sl (evs f.l)])])
      (fun pre => ∀ (j : Nat) (x : Fin f.l.length), pre[j]? = some x → ((f.l.getD x.1 default).seq : Int) = f.next - (j + 1) ∧ kindS (f.l.getD x.1 default).kind = true)
      (fun x => rfl) (by decide) (Nat.zero_le _) rfl rfl rfl rfl ?_ ?_ ?_)
    · simp [go_sem]
    · intro pre x hok hpre
      simp -implicitDefEqProofs only [cdA, go_sem, reduceIte, List.cons.injEq, cdB]
      rw [u64_in ((f.next : Int) - _ - 1) (by omega)]
      refine ⟨fun h5 => ⟨fun h6 => ⟨fun j y hj => ?_, by omega⟩, fun h6 hp => ?_⟩, fun h5 hp => ?_⟩
      · rw [List.getElem?_append] at hj
        split at hj
        · exact hok j y hj
        · rename_i hge
          have : j = pre.length := by
            have := (List.getElem?_eq_some_iff.1 hj).1
            simp at this
            omega
          subst this
          simp at hj
          subst hj
          exact ⟨by omega, h6⟩
      · exact (check_bad hp fun h => by rw [h6] at h; cases h.2).symm
      · exact (check_bad hp fun h => h5 (by omega)).symm
    · intro hok
      refine SWm.awp fcheck_T_ok.toS lv28 rfl ?_
      simp -implicitDefEqProofs only [cdA, go_sem, reduceIte, List.cons.injEq, cdB]
      rw [u64_in f.l.length (by omega), u64_in ((f.next : Int) - 1) (by omega)] at h4
      have hE : okEv f.next f.l = true := by
        rw [okEv_get]
        intro i hi
        have h5 : (List.finRange f.l.length).reverse[f.l.length - 1 - i]? = some ⟨i, hi⟩ := by
          rw [List.getElem?_eq_getElem (by simp; omega)]
          simp
          try omega
        obtain ⟨h6, h7⟩ := hok _ _ h5
        refine ⟨?_, h7⟩
        rw [h6]
        omega
      rw [chkF, if_pos (show okFd f from ⟨by omega, by unfold MM; omega, by omega, hE⟩)]
@[go_sem] def fcheck_p (f : Fd) : Prop := (f.next ≤ 18446744073709551615)
def sp_fcheck : List D → Option (Prop × D × Fr)
  | [.agg [.c (.int .u64 z202), .c (.sl z203)]] => some (z202 = (z202.toNat : Int) ∧ z203 = evs (devs z203) ∧ fcheck_p (⟨z202.toNat, (devs z203)⟩ : Fd), fcheck_r (⟨z202.toNat, (devs z203)⟩ : Fd), [])
  | _ => none
attribute [go_sem] sp_fcheck
theorem sp_fcheck_ok : ∀ rs p r fr, sp_fcheck rs = some (p, r, fr) → p → FnOk Tryz.prog 28 rs r fr := by
  intro rs p r fr h hp
  unfold sp_fcheck at h
  split at h <;> cases h
  obtain ⟨hc0, hc1, hp⟩ := hp
  rename_i z202 z203
  obtain ⟨z202, rfl⟩ : ∃ m : Nat, z202 = m := ⟨_, hc0⟩
  obtain ⟨z203, rfl⟩ : ∃ m, z203 = evs m := ⟨_, hc1⟩
  simp only [Int.toNat_natCast, devs_evs]
  simp only [Int.toNat_natCast, devs_evs, fcheck_p] at hp
  exact fcheck_ok ⟨z202, z203⟩ hp
theorem chkF_0 {f : Fd} : chkF f = 0 ↔ okFd f := by unfold chkF; split <;> rename_i h <;> simp only [h] <;> decide
@[go_sem] def evclone_r (l : List Ev) : D := .vec 0 l.length
@[go_sem] def evclone_fr (l : List Ev) : Fr := [(4, 124, true, evs l)]
@[go_sem] abbrev n_evclone : FuncId := 112
@[go_sem] def evclone_T : Tab := []
theorem evclone_T_ok : TabOk Tryz.prog evclone_T := TabOk.nil
set_option maxRecDepth 8000 in
set_option maxHeartbeats 1000000 in
theorem evclone_ok (l : List Ev) (hl : l.length ≤ 1000000) : FreshFn Tryz.prog 112 [.sl (evs l)] (evclone_r l) (evclone_fr l) := by
  refine .of (ac112 evclone_T_ok (Nat.le_of_ble_eq_true rfl) ?_)
  simp -implicitDefEqProofs only [cdA, go_sem, Go.Proofs.Tryz.f112, reduceIte, List.cons.injEq, cdB]
  refine fun b hb => ⟨fun h => ?_, fun h => ?_⟩
  · exact ⟨[none], by simp [go_sem, hb h], by cases l <;> simp_all [go_sem, evs]⟩
  · exact ⟨by omega, [some 0], by simp [go_sem]⟩
@[go_sem] def evclone_p (l : List Ev) : Prop := (l.length ≤ 1000000)
def sp_evclone : List D → Option (Prop × D × Fr)
  | [.c (.sl z204)] => some (z204 = evs (devs z204) ∧ evclone_p (devs z204), evclone_r (devs z204), evclone_fr (devs z204))
  | _ => none
attribute [go_sem] sp_evclone
theorem sp_evclone_ok : ∀ rs p r fr, sp_evclone rs = some (p, r, fr) → p → FnOk Tryz.prog 112 rs r fr := by
  intro rs p r fr h hp
  unfold sp_evclone at h
  split at h <;> cases h
  obtain ⟨hc0, hp⟩ := hp
  rename_i z204
  obtain ⟨z204, rfl⟩ : ∃ m, z204 = evs m := ⟨_, hc0⟩
  simp only [devs_evs]
  simp only [devs_evs, evclone_p] at hp
  exact (show FnOk _ _ _ _ _ from And.intro rfl (evclone_ok z204 hp))
def addF (f : Fd) (k : Int) (a n : Nat) : Fd × Nat × Int := if okFd f ∧ kindS k = true then (if f.next = MM then ((⟨0, []⟩ : Fd), 0, 7) else ((⟨f.next + 1, (f.l ++ [(⟨f.next, k, a, n⟩ : Ev)]).drop (f.l.length + 1 - 64)⟩ : Fd), f.next, 0)) else ((⟨0, []⟩ : Fd), 0, 1)
@[go_sem] def fadd_r (f : Fd) (k : Int) (a : Nat) (n : Nat) : D := .tup [.agg [.int .u64 (addF f k a n).1.next, .sl (evs (addF f k a n).1.l)], .int .u64 (addF f k a n).2.1, .int .i64 (addF f k a n).2.2]
@[go_sem] abbrev n_fadd : FuncId := 80
@[go_sem] def fadd_T : Tab := [(28, sp_fcheck), (70, sp_fkind), (112, sp_evclone)]
theorem fadd_T_ok : TabOk Tryz.prog fadd_T := (TabOk.cons sp_fcheck_ok (TabOk.cons sp_fkind_ok (TabOk.cons sp_evclone_ok TabOk.nil)))
set_option maxRecDepth 8000 in
set_option maxHeartbeats 1000000 in
theorem fadd_ok (f : Fd) (k : Int) (a : Nat) (n : Nat) (h : f.next ≤ 18446744073709551615) : PureFn Tryz.prog 80 [.agg [.c (.int .u64 (f.next : Int)), .sl (evs f.l)], .c (.int .i64 k), .c (.int .u64 (a : Int)), .c (.int .u64 (n : Int))] (fadd_r f k a n) := by
  refine .of (ac80 fadd_T_ok (Nat.le_of_ble_eq_true rfl) ?_)
  simp -implicitDefEqProofs only [cdA, go_sem, Go.Proofs.Tryz.f80, reduceIte, List.cons.injEq, cdB]
  have hbad : ¬ (okFd f ∧ kindS k = true) → (0 = ((addF f k a n).1.next : Int) ∧ evs (addF f k a n).1.l = []) ∧ 0 = ((addF f k a n).2.1 : Int) ∧ 1 = (addF f k a n).2.2 := fun h => by
    rw [addF, if_neg h]; exact ⟨⟨rfl, rfl⟩, rfl, rfl⟩
  refine ⟨h, fun h0 => ⟨fun hk => ⟨fun hm => ?_, fun hm => ?_⟩, fun hk => hbad fun ho => by rw [hk] at ho; cases ho.2⟩, fun h0 => hbad fun ho => h0 (chkF_0.2 ho.1)⟩
  · rw [addF, if_pos ⟨chkF_0.1 h0, hk⟩, if_pos (by unfold MM; omega)]; exact ⟨⟨rfl, rfl⟩, rfl, rfl⟩
  · have ho := chkF_0.1 h0
    have h1 := ho.2.2.1
    have h2 := ho.2.1
    unfold MM at h2
    rw [addF, if_pos ⟨ho, hk⟩, if_neg (by unfold MM; omega)]
    have e : (max (IntKind.i64.wrap ((f.l.length : Int) + 1 - 64)) 0).toNat = f.l.length + 1 - 64 := by rw [i64_in _ (by omega)]; omega
    rw [e, u64_in _ (by omega)]
    refine ⟨by omega, by omega, fun _ => ⟨⟨by omega, by rw [i64_in _ (by omega)]; omega⟩, ⟨by dsimp only; omega, rfl, _, _, _, rfl⟩, rfl, rfl⟩⟩
@[go_sem] def fadd_p (f : Fd) (k : Int) (a : Nat) (n : Nat) : Prop := (f.next ≤ 18446744073709551615)
def sp_fadd : List D → Option (Prop × D × Fr)
  | [.agg [.c (.int .u64 z206), .c (.sl z207)], .c (.int .i64 z208), .c (.int .u64 z209), .c (.int .u64 z210)] => some (z206 = (z206.toNat : Int) ∧ z207 = evs (devs z207) ∧ z209 = (z209.toNat : Int) ∧ z210 = (z210.toNat : Int) ∧ fadd_p (⟨z206.toNat, (devs z207)⟩ : Fd) z208 z209.toNat z210.toNat, fadd_r (⟨z206.toNat, (devs z207)⟩ : Fd) z208 z209.toNat z210.toNat, [])
  | _ => none
attribute [go_sem] sp_fadd
theorem sp_fadd_ok : ∀ rs p r fr, sp_fadd rs = some (p, r, fr) → p → FnOk Tryz.prog 80 rs r fr := by
  intro rs p r fr h hp
  unfold sp_fadd at h
  split at h <;> cases h
  obtain ⟨hc0, hc1, hc2, hc3, hp⟩ := hp
  rename_i z206 z207 z208 z209 z210
  obtain ⟨z206, rfl⟩ : ∃ m : Nat, z206 = m := ⟨_, hc0⟩
  obtain ⟨z207, rfl⟩ : ∃ m, z207 = evs m := ⟨_, hc1⟩
  obtain ⟨z209, rfl⟩ : ∃ m : Nat, z209 = m := ⟨_, hc2⟩
  obtain ⟨z210, rfl⟩ : ∃ m : Nat, z210 = m := ⟨_, hc3⟩
  simp only [Int.toNat_natCast, devs_evs]
  simp only [Int.toNat_natCast, devs_evs, fadd_p] at hp
  exact fadd_ok ⟨z206, z207⟩ z208 z209 z210 hp
end Dm
namespace Dm
open Go Go.Proofs Go.IntWalk
structure Wt where
  id : Nat
  w : Option Nat
deriving DecidableEq
instance : Inhabited Wt := ⟨⟨default, some 0⟩⟩
@[go_sem] def Wt.enc (e : Wt) : List C := [.int .u64 (e.id : Int), .flt .f64 e.w]
def Wt.dec : List C → Wt
  | [.int .u64 z70, .flt .f64 z71] => (⟨z70.toNat, z71⟩ : Wt)
  | _ => default
def wts (l : List Wt) : List (List C) := l.map Wt.enc
def dwts (l : List (List C)) : List Wt := l.map Wt.dec
@[simp, go_sem] theorem wts_length (l : List Wt) : (wts l).length = l.length := by simp [wts]
@[go_sem] theorem wts_get (l : List Wt) (i : Nat) : (wts l).getD i [.int .u64 0, .flt .f64 (some 0)] = (l.getD i default).enc := by
  simp only [wts, List.getD_eq_getElem?_getD, List.getElem?_map]
  cases l[i]? <;> rfl
@[go_sem] theorem wts_wide (l : List Wt) : Wide 2 (wts l) = True := by
  simp [Wide, wts, Wt.enc]
theorem Wt.dec_enc (e : Wt) : Wt.dec e.enc = e := by
  simp [Wt.enc, Wt.dec]
@[go_sem] theorem dwts_wts (l : List Wt) : dwts (wts l) = l := by
  simp only [dwts, wts, List.map_map]
  exact List.map_id'' (fun e => Wt.dec_enc e) l
@[go_sem] theorem wts_app (a b : List Wt) : wts a ++ wts b = wts (a ++ b) := by simp [wts]
@[go_sem] theorem wts_drop (l : List Wt) (k : Nat) : (wts l).drop k = wts (l.drop k) := by simp [wts]
@[go_sem] theorem wts_take (l : List Wt) (k : Nat) : (wts l).take k = wts (l.take k) := by simp [wts]
@[go_sem] theorem wts_one (z72 : Int) (z73 : Option Nat) (hz72 : 0 ≤ z72) : [[C.int .u64 z72, C.flt .f64 z73]] = wts [⟨z72.toNat, z73⟩] := by simp [wts, Wt.enc, Int.toNat_of_nonneg hz72]
@[go_sem] theorem wts_set (l : List Wt) (i : Nat) (z72 : Int) (z73 : Option Nat) (hz72 : 0 ≤ z72) : (wts l).set i [C.int .u64 z72, C.flt .f64 z73] = wts (l.set i ⟨z72.toNat, z73⟩) := by simp [wts, List.map_set, Wt.enc, Int.toNat_of_nonneg hz72]
@[go_sem] theorem wts_cons (l : List Wt) (z72 : Int) (z73 : Option Nat) (hz72 : 0 ≤ z72) : [C.int .u64 z72, C.flt .f64 z73] :: wts l = wts (⟨z72.toNat, z73⟩ :: l) := by simp [wts, Wt.enc, Int.toNat_of_nonneg hz72]
@[go_sem] theorem wts_flat (l : List Wt) : flatE (wts l) = True := eq_true fun x hx c hc => by
  obtain ⟨e, _, rfl⟩ := List.mem_map.1 hx
  simp only [Wt.enc, List.mem_cons, List.not_mem_nil, or_false] at hc
  rcases hc with rfl | rfl <;> rfl
@[go_sem] theorem Wt.eta {e : Wt} : (⟨e.id, e.w⟩ : Wt) = e := rfl
structure Mk where
  id : Nat
  s : Option Nat
deriving DecidableEq
instance : Inhabited Mk := ⟨⟨default, some 0⟩⟩
@[go_sem] def Mk.enc (e : Mk) : List C := [.int .u64 (e.id : Int), .flt .f64 e.s]
def Mk.dec : List C → Mk
  | [.int .u64 z75, .flt .f64 z76] => (⟨z75.toNat, z76⟩ : Mk)
  | _ => default
def mks (l : List Mk) : List (List C) := l.map Mk.enc
def dmks (l : List (List C)) : List Mk := l.map Mk.dec
@[simp, go_sem] theorem mks_length (l : List Mk) : (mks l).length = l.length := by simp [mks]
@[go_sem] theorem mks_get (l : List Mk) (i : Nat) : (mks l).getD i [.int .u64 0, .flt .f64 (some 0)] = (l.getD i default).enc := by
  simp only [mks, List.getD_eq_getElem?_getD, List.getElem?_map]
  cases l[i]? <;> rfl
@[go_sem] theorem mks_wide (l : List Mk) : Wide 2 (mks l) = True := by
  simp [Wide, mks, Mk.enc]
theorem Mk.dec_enc (e : Mk) : Mk.dec e.enc = e := by
  simp [Mk.enc, Mk.dec]
@[go_sem] theorem dmks_mks (l : List Mk) : dmks (mks l) = l := by
  simp only [dmks, mks, List.map_map]
  exact List.map_id'' (fun e => Mk.dec_enc e) l
@[go_sem] theorem mks_app (a b : List Mk) : mks a ++ mks b = mks (a ++ b) := by simp [mks]
@[go_sem] theorem mks_drop (l : List Mk) (k : Nat) : (mks l).drop k = mks (l.drop k) := by simp [mks]
@[go_sem] theorem mks_take (l : List Mk) (k : Nat) : (mks l).take k = mks (l.take k) := by simp [mks]
@[go_sem] theorem mks_one (z77 : Int) (z78 : Option Nat) (hz77 : 0 ≤ z77) : [[C.int .u64 z77, C.flt .f64 z78]] = mks [⟨z77.toNat, z78⟩] := by simp [mks, Mk.enc, Int.toNat_of_nonneg hz77]
@[go_sem] theorem mks_set (l : List Mk) (i : Nat) (z77 : Int) (z78 : Option Nat) (hz77 : 0 ≤ z77) : (mks l).set i [C.int .u64 z77, C.flt .f64 z78] = mks (l.set i ⟨z77.toNat, z78⟩) := by simp [mks, List.map_set, Mk.enc, Int.toNat_of_nonneg hz77]
@[go_sem] theorem mks_cons (l : List Mk) (z77 : Int) (z78 : Option Nat) (hz77 : 0 ≤ z77) : [C.int .u64 z77, C.flt .f64 z78] :: mks l = mks (⟨z77.toNat, z78⟩ :: l) := by simp [mks, Mk.enc, Int.toNat_of_nonneg hz77]
@[go_sem] theorem mks_flat (l : List Mk) : flatE (mks l) = True := eq_true fun x hx c hc => by
  obtain ⟨e, _, rfl⟩ := List.mem_map.1 hx
  simp only [Mk.enc, List.mem_cons, List.not_mem_nil, or_false] at hc
  rcases hc with rfl | rfl <;> rfl
@[go_sem] theorem Mk.eta {e : Mk} : (⟨e.id, e.s⟩ : Mk) = e := rfl
abbrev F1 : Option Nat := some 4607182418800017408
@[go_sem] def isnanf_r (x : Option Nat) : D := .bool (fnan x)
@[go_sem] abbrev n_isnanf : FuncId := 143
@[go_sem] def isnanf_T : Tab := []
theorem isnanf_T_ok : TabOk Tryz.prog isnanf_T := TabOk.nil
set_option maxRecDepth 8000 in
set_option maxHeartbeats 1000000 in
theorem isnanf_ok (x : Option Nat)  : PureFn Tryz.prog 143 [.c (.flt .f64 x)] (isnanf_r x) := by
  refine .of (ac143 isnanf_T_ok (Nat.le_of_ble_eq_true rfl) ?_)
  simp -implicitDefEqProofs only [cdA, go_sem, Go.Proofs.Tryz.f143, reduceIte, List.cons.injEq, cdB]
  rfl
def sp_isnanf : List D → Option (Prop × D × Fr)
  | [.c (.flt .f64 z79)] => some (True, isnanf_r z79, [])
  | _ => none
attribute [go_sem] sp_isnanf
theorem sp_isnanf_ok : ∀ rs p r fr, sp_isnanf rs = some (p, r, fr) → p → FnOk Tryz.prog 143 rs r fr := by
  intro rs p r fr h hp
  unfold sp_isnanf at h
  split at h <;> cases h
  rename_i z79
  exact isnanf_ok z79
@[go_sem] def cmpf_r (x : Option Nat) (y : Option Nat) : D := .int .i64 (cmpS (fkey x) (fkey y))
@[go_sem] abbrev n_cmpf : FuncId := 122
@[go_sem] def cmpf_T : Tab := [(143, sp_isnanf)]
theorem cmpf_T_ok : TabOk Tryz.prog cmpf_T := (TabOk.cons sp_isnanf_ok TabOk.nil)
set_option maxRecDepth 8000 in
set_option maxHeartbeats 1000000 in
theorem cmpf_ok (x : Option Nat) (y : Option Nat)  : PureFn Tryz.prog 122 [.c (.flt .f64 x), .c (.flt .f64 y)] (cmpf_r x y) := by
  refine .of (ac122 cmpf_T_ok (Nat.le_of_ble_eq_true rfl) ?_)
  simp -implicitDefEqProofs only [cdA, go_sem, Go.Proofs.Tryz.f122, reduceIte, List.cons.injEq, cdB]
  have h1 := fkey_ge x
  have h2 := fkey_ge y
  rw [fnan_key, fnan_key, ford_lt, ford_gt]
  generalize fkey x = a at *
  generalize fkey y = b at *
  generalize kNan = k at *
  unfold cmpS
  simp only [decide_eq_true_eq, decide_eq_false_iff_not, Bool.and_eq_true, Bool.and_eq_false_iff, ne_eq, Classical.not_not]
  refine ⟨fun h3 => ⟨fun h4 => ?_, fun h4 => ?_⟩, fun h3 => ⟨fun h4 => ?_, fun h4 => ⟨fun h5 => ?_, fun h5 => ⟨fun h6 => ?_, fun h6 => ?_⟩⟩⟩⟩
  all_goals (repeat' split) <;> first | rfl | (exfalso; omega)
def sp_cmpf : List D → Option (Prop × D × Fr)
  | [.c (.flt .f64 z80), .c (.flt .f64 z81)] => some (True, cmpf_r z80 z81, [])
  | _ => none
attribute [go_sem] sp_cmpf
theorem sp_cmpf_ok : ∀ rs p r fr, sp_cmpf rs = some (p, r, fr) → p → FnOk Tryz.prog 122 rs r fr := by
  intro rs p r fr h hp
  unfold sp_cmpf at h
  split at h <;> cases h
  rename_i z80 z81
  exact cmpf_ok z80 z81
def weighS (l : List Wt) (id : Nat) : Option Nat := match l.find? fun x => decide (x.id = id) with
  | some x => x.w
  | none => F1
@[go_sem] def weigh_r (l : List Wt) (id : Nat) : D := .c (.flt .f64 (weighS l id))
@[go_sem] abbrev n_weigh : FuncId := 116
@[go_sem] def weigh_T : Tab := []
theorem weigh_T_ok : TabOk Tryz.prog weigh_T := TabOk.nil
set_option maxRecDepth 8000 in
set_option maxHeartbeats 1000000 in
theorem weigh_ok (l : List Wt) (id : Nat)  : PureFn Tryz.prog 116 [.sl (wts l), .c (.int .u64 (id : Int))] (weigh_r l id) := by
  refine .of (ac116 weigh_T_ok (Nat.le_of_ble_eq_true rfl) ?_)
  simp -implicitDefEqProofs only [cdA, go_sem, Go.Proofs.Tryz.f116, reduceIte, List.cons.injEq, cdB]
  refine ac138 weigh_T_ok (Nat.le_of_ble_eq_true rfl) ?_
  simp -implicitDefEqProofs only [cdA, go_sem, Go.Proofs.Tryz.f138, reduceIte, List.cons.injEq, cdB]
  refine fun hl => SWp.loop (ι := { i : Nat // i ≤ l.length ∧ ∀ j, j < i → (l.getD j default).id ≠ id }) (fun i => ⟨[(0, .sl (wts l)), (1, .fn (.func 139) [] [.ref 0 0]), (7, .int .i64 l.length), (8, .int .i64 i.1)], [(0, .box [.int .u64 id])], 1⟩) (fun i => l.length - i.1) ⟨0, by simp⟩ ?_ ?_
  · simp [go_sem]
  · rintro ⟨i, hi, hall⟩
    refine awp_sound weigh_T_ok.toS lv138 _ _ _ rfl ?_
    simp -implicitDefEqProofs only [cdA, go_sem, reduceIte, List.cons.injEq, cdB]
    have hno : (∀ j, j < l.length → (l.getD j default).id ≠ id) → weighS l id = F1 := fun h => by
      have : l.find? (fun x => decide (x.id = id)) = none := by
        rw [List.find?_eq_none]
        intro x hx
        obtain ⟨j, hj, rfl⟩ := mem_getD.1 hx
        simpa using h j hj
      rw [weighS, this]
    have hyes : i < l.length → (l.getD i default).id = id → weighS l id = (l.getD i default).w := fun h h' => by
      have : l.find? (fun x => decide (x.id = id)) = some (l.getD i default) := by
        rw [List.find?_eq_some_iff_getElem]
        refine ⟨by simpa using h', i, h, (getD_lt h).symm, fun j hj => ?_⟩
        have := hall j hj
        rw [getD_lt (by omega)] at this
        simpa using this
      rw [weighS, this]
    refine ⟨fun h => ⟨by omega, ?_⟩, fun h => ?_⟩
    · skip
      refine ac139 weigh_T_ok (Nat.le_of_ble_eq_true rfl) ?_
      simp -implicitDefEqProofs only [cdA, go_sem, Go.Proofs.Tryz.f139, reduceIte, List.cons.injEq, cdB]
      refine ⟨fun h1 => ⟨fun h2 => by omega, fun _ => ⟨by omega, ?_⟩⟩, fun h1 => ⟨⟨i + 1, by omega, fun j hj => ?_⟩, by dsimp only; omega, i64_in _ (by omega)⟩⟩
      · rw [hyes (by omega) (by omega)]
      · by_cases hji : j = i
        · subst hji; omega
        · exact hall j (by omega)
    · rw [hno fun j hj => hall j (by omega)]
def sp_weigh : List D → Option (Prop × D × Fr)
  | [.c (.sl z82), .c (.int .u64 z83)] => some (z82 = wts (dwts z82) ∧ z83 = (z83.toNat : Int), weigh_r (dwts z82) z83.toNat, [])
  | _ => none
attribute [go_sem] sp_weigh
theorem sp_weigh_ok : ∀ rs p r fr, sp_weigh rs = some (p, r, fr) → p → FnOk Tryz.prog 116 rs r fr := by
  intro rs p r fr h hp
  unfold sp_weigh at h
  split at h <;> cases h
  obtain ⟨hc0, hc1⟩ := hp
  rename_i z82 z83
  obtain ⟨z82, rfl⟩ : ∃ m, z82 = wts m := ⟨_, hc0⟩
  obtain ⟨z83, rfl⟩ : ∃ m : Nat, z83 = m := ⟨_, hc1⟩
  simp only [Int.toNat_natCast, dwts_wts]
  exact weigh_ok z82 z83
def oneS (c : Ch) (w n : Option Nat) : Option Nat × Int := if okCh c then (far .mul w (far .quo (far .sub (fofi (roomC c).1) n) (fofi (sumsC c).2.1)), 0) else (some 0, 1)
theorem roomC_0 {c : Ch} : (roomC c).2 = 0 ↔ okCh c := by
  unfold roomC
  by_cases h : okCh c
  · rw [if_pos h]
    simp only [h, iff_true]
    split <;> rfl
  · rw [if_neg h]
    simp [h]
@[go_sem] def one_r (c : Ch) (w : Option Nat) (n : Option Nat) : D := .tup [.c (.flt .f64 (oneS c w n).1), .int .i64 (oneS c w n).2]
@[go_sem] abbrev n_one : FuncId := 115
@[go_sem] def one_T : Tab := [(114, sp_croom), (11, sp_call)]
theorem one_T_ok : TabOk Tryz.prog one_T := (TabOk.cons sp_croom_ok (TabOk.cons sp_call_ok TabOk.nil))
set_option maxRecDepth 8000 in
set_option maxHeartbeats 1000000 in
theorem one_ok (c : Ch) (w : Option Nat) (n : Option Nat)  : PureFn Tryz.prog 115 [.agg [.c (.int .u64 (c.id : Int)), .c (.int .u64 (c.loc : Int)), .c (.int .u64 (c.rem : Int)), .c (.int .u64 (c.res : Int)), .c (.int .u64 (c.most : Int)), .sl (hds c.holds), .c (.bool c.op)], .c (.flt .f64 w), .c (.flt .f64 n)] (one_r c w n) := by
  refine .of (ac115 one_T_ok (Nat.le_of_ble_eq_true rfl) ?_)
  simp -implicitDefEqProofs only [cdA, go_sem, Go.Proofs.Tryz.f115, reduceIte, List.cons.injEq, cdB]
  have hr := roomC_0 (c := c)
  rw [hr, sumsC_0, oneS]
  by_cases h : okCh c
  · have e : (sumsC c).2.2 = 0 := sumsC_0.2 h
    simp [h]
  · have e : (roomC c).2 = 1 := by rw [roomC, if_neg h]
    simp [h, e]
def sp_one : List D → Option (Prop × D × Fr)
  | [.agg [.c (.int .u64 z85), .c (.int .u64 z86), .c (.int .u64 z87), .c (.int .u64 z88), .c (.int .u64 z89), .c (.sl z90), .c (.bool z91)], .c (.flt .f64 z92), .c (.flt .f64 z93)] => some (z85 = (z85.toNat : Int) ∧ z86 = (z86.toNat : Int) ∧ z87 = (z87.toNat : Int) ∧ z88 = (z88.toNat : Int) ∧ z89 = (z89.toNat : Int) ∧ z90 = hds (dhds z90), one_r (⟨z85.toNat, z86.toNat, z87.toNat, z88.toNat, z89.toNat, (dhds z90), z91⟩ : Ch) z92 z93, [])
  | _ => none
attribute [go_sem] sp_one
theorem sp_one_ok : ∀ rs p r fr, sp_one rs = some (p, r, fr) → p → FnOk Tryz.prog 115 rs r fr := by
  intro rs p r fr h hp
  unfold sp_one at h
  split at h <;> cases h
  obtain ⟨hc0, hc1, hc2, hc3, hc4, hc5⟩ := hp
  rename_i z85 z86 z87 z88 z89 z90 z91 z92 z93
  obtain ⟨z85, rfl⟩ : ∃ m : Nat, z85 = m := ⟨_, hc0⟩
  obtain ⟨z86, rfl⟩ : ∃ m : Nat, z86 = m := ⟨_, hc1⟩
  obtain ⟨z87, rfl⟩ : ∃ m : Nat, z87 = m := ⟨_, hc2⟩
  obtain ⟨z88, rfl⟩ : ∃ m : Nat, z88 = m := ⟨_, hc3⟩
  obtain ⟨z89, rfl⟩ : ∃ m : Nat, z89 = m := ⟨_, hc4⟩
  obtain ⟨z90, rfl⟩ : ∃ m, z90 = hds m := ⟨_, hc5⟩
  simp only [Int.toNat_natCast, dhds_hds]
  exact one_ok ⟨z85, z86, z87, z88, z89, z90, z91⟩ z92 z93
@[go_sem] def misnan_r (x : Option Nat) : D := .bool (fnan x)
@[go_sem] abbrev n_misnan : FuncId := 117
@[go_sem] def misnan_T : Tab := []
theorem misnan_T_ok : TabOk Tryz.prog misnan_T := TabOk.nil
set_option maxRecDepth 8000 in
set_option maxHeartbeats 1000000 in
theorem misnan_ok (x : Option Nat)  : PureFn Tryz.prog 117 [.c (.flt .f64 x)] (misnan_r x) := by
  refine .of (ac117 misnan_T_ok (Nat.le_of_ble_eq_true rfl) ?_)
  simp -implicitDefEqProofs only [cdA, go_sem, Go.Proofs.Tryz.f117, reduceIte, List.cons.injEq, cdB]
  rfl
def sp_misnan : List D → Option (Prop × D × Fr)
  | [.c (.flt .f64 z94)] => some (True, misnan_r z94, [])
  | _ => none
attribute [go_sem] sp_misnan
theorem sp_misnan_ok : ∀ rs p r fr, sp_misnan rs = some (p, r, fr) → p → FnOk Tryz.prog 117 rs r fr := by
  intro rs p r fr h hp
  unfold sp_misnan at h
  split at h <;> cases h
  rename_i z94
  exact misnan_ok z94
@[go_sem] def mnan_r  : D := .c (.flt .f64 none)
@[go_sem] abbrev n_mnan : FuncId := 118
@[go_sem] def mnan_T : Tab := [ovk 140]
theorem mnan_T_ok : TabOk Tryz.prog mnan_T := (TabOk.cons (ov_ok 140) TabOk.nil)
set_option maxRecDepth 8000 in
set_option maxHeartbeats 1000000 in
theorem mnan_ok   : PureFn Tryz.prog 118 [] (mnan_r ) := by
  refine .of (ac118 mnan_T_ok (Nat.le_of_ble_eq_true rfl) ?_)
  simp -implicitDefEqProofs only [cdA, go_sem, Go.Proofs.Tryz.f118, reduceIte, List.cons.injEq, cdB]
  exact ⟨_, rfl, rfl, rfl, rfl, by kernel_rfl⟩
def sp_mnan : List D → Option (Prop × D × Fr)
  | [] => some (True, mnan_r , [])
  | _ => none
attribute [go_sem] sp_mnan
theorem sp_mnan_ok : ∀ rs p r fr, sp_mnan rs = some (p, r, fr) → p → FnOk Tryz.prog 118 rs r fr := by
  intro rs p r fr h hp
  unfold sp_mnan at h
  split at h <;> cases h
  exact mnan_ok 
def mkO (a b : Mk) : Int := orS [cmpS (fkey b.s) (fkey a.s), cmpS a.id b.id]
@[go_sem] def mkcmp_r (a : Mk) (b : Mk) : D := .int .i64 (mkO a b)
@[go_sem] abbrev n_mkcmp : FuncId := 120
@[go_sem] def mkcmp_T : Tab := [(122, sp_cmpf), (107, sp_cmp), (121, sp_cmpor)]
theorem mkcmp_T_ok : TabOk Tryz.prog mkcmp_T := (TabOk.cons sp_cmpf_ok (TabOk.cons sp_cmp_ok (TabOk.cons sp_cmpor_ok TabOk.nil)))
set_option maxRecDepth 8000 in
set_option maxHeartbeats 1000000 in
theorem mkcmp_ok (a : Mk) (b : Mk)  : PureFn Tryz.prog 120 [.agg [.c (.int .u64 (a.id : Int)), .c (.flt .f64 a.s)], .agg [.c (.int .u64 (b.id : Int)), .c (.flt .f64 b.s)]] (mkcmp_r a b) := by
  refine .of (ac120 mkcmp_T_ok (Nat.le_of_ble_eq_true rfl) ?_)
  simp -implicitDefEqProofs only [cdA, go_sem, Go.Proofs.Tryz.f120, reduceIte, List.cons.injEq, cdB]
  refine ADraw.run us120_1 mkcmp_T_ok follows_mixed (by kernel_rfl) (by kernel_rfl) ?_
  simp -implicitDefEqProofs only [cdA, go_sem, reduceIte, List.cons.injEq, cdB]
  rfl
def sp_mkcmp : List D → Option (Prop × D × Fr)
  | [.agg [.c (.int .u64 z96), .c (.flt .f64 z97)], .agg [.c (.int .u64 z99), .c (.flt .f64 z100)]] => some (z96 = (z96.toNat : Int) ∧ z99 = (z99.toNat : Int), mkcmp_r (⟨z96.toNat, z97⟩ : Mk) (⟨z99.toNat, z100⟩ : Mk), [])
  | _ => none
attribute [go_sem] sp_mkcmp
end Dm
namespace Go.Proofs
open Go.Shelf Go.RowKit Go.Lib Go.Sort
shelf_lay_g SlLaysF0.n6 Slsf 6 at Tryz 119 as Tryz.sortMk
end Go.Proofs
namespace Dm
open Go Go.Proofs Go.IntWalk
abbrev ltM (a b : Int × Nat) : Prop := b.1 < a.1 ∨ (a.1 = b.1 ∧ a.2 < b.2)
instance : DecidableRel ltM := fun a b => by unfold ltM; infer_instance
theorem totM : Srt.Tot ltM := ⟨fun a => by unfold ltM; omega, fun h h' => by unfold ltM at *; omega, fun a b => by
  unfold ltM
  have : a = b ↔ a.1 = b.1 ∧ a.2 = b.2 := Prod.ext_iff
  rw [this]; omega⟩
def Mk.key (m : Mk) : Int × Nat := (fkey m.s, m.id)
theorem mkO_neg {a b : Mk} : mkO a b < 0 ↔ ltM a.key b.key := by
  unfold mkO orS ltM Mk.key cmpS
  by_cases h1 : fkey b.s < fkey a.s
  · simp [h1]
  · by_cases h2 : fkey a.s < fkey b.s
    · simp [h1, h2]; omega
    · by_cases h3 : (a.id : Int) < b.id
      · simp [h1, h2, h3]; omega
      · by_cases h4 : (b.id : Int) < a.id
        · simp [h1, h2, h3, h4]; omega
        · simp [h1, h2, h3, h4]; omega
def ordM (l : List Mk) : List Mk := l.foldl (Srt.put Mk.key ltM) []
def elig (n : Nat) (c : Ch) : Bool := c.op && decide (max n 1 ≤ (roomC c).1)
def mkOf (w : List Wt) (n : Nat) (c : Ch) : Mk := ⟨c.id, (oneS c (weighS w c.id) (fofi n)).1⟩
def mksOf (l : List Ch) (w : List Wt) (n : Nat) : List Mk := (l.filter (elig n)).map (mkOf w n)
def ordL (l : List Ch) (w : List Wt) (n : Nat) : List Nat × Int := if okLd l then ((ordM (mksOf l w n)).map Mk.id, 0) else ([], 1)
theorem mksOf_succ {l : List Ch} {w : List Wt} {n i : Nat} (h : i < l.length) : mksOf (l.take (i + 1)) w n = mksOf (l.take i) w n ++ (if elig n (l.getD i default) = true then [mkOf w n (l.getD i default)] else []) := by
  rw [take_succ h, mksOf, List.filter_append, List.map_append]
  congr 1
  generalize l.getD i default = x
  by_cases h : elig n x = true <;> simp [h]
theorem mksOf_len {l : List Ch} {w : List Wt} {n : Nat} : (mksOf l w n).length ≤ l.length := by
  rw [mksOf, List.length_map]; exact List.length_filter_le _ _
theorem flo_canon {n : Nat} (h : fnan (flo .f64 n) = true) : flo .f64 n = none := by
  rw [fnan_key, decide_eq_true_iff, flo_key, dkey_nan (read_dbl n)] at h
  exact flo_nan h
theorem far_canon {op : BinOp} {a b : Option Nat} (h : fnan (far op a b) = true) : far op a b = none := by
  unfold far at *
  cases a with
  | none => rfl
  | some x => cases b with
    | none => rfl
    | some y =>
      simp only at *
      have key : ∀ o : Option Nat, fnan (o.bind (flo .f64)) = true → o.bind (flo .f64) = none := fun o ho => by
        cases o with
        | none => rfl
        | some z => exact flo_canon ho
      split at h <;> exact key _ h
theorem ordM_put {l : List Mk} : ∀ {m : List Mk}, Srt.Up Mk.key ltM m → Srt.Up Mk.key ltM (l.foldl (Srt.put Mk.key ltM) m) := by
  induction l with
  | nil => exact fun h => h
  | cons x l ih => exact fun h => ih (Srt.put_up totM h)
theorem ordM_up {l : List Mk} : Srt.Up Mk.key ltM (ordM l) := ordM_put .nil
theorem ordM_mem {l : List Mk} (hd : (l.map Mk.id).Nodup) {x : Mk} : x ∈ ordM l ↔ x ∈ l := by
  have key : ∀ (l m : List Mk), Srt.Up Mk.key ltM m → ((m ++ l).map Mk.id).Nodup → ∀ x, x ∈ l.foldl (Srt.put Mk.key ltM) m ↔ x ∈ m ∨ x ∈ l := by
    intro l
    induction l with
    | nil => intro m _ _ x; simp
    | cons y l ih =>
      intro m hu hn x
      rw [List.foldl_cons, ih _ (Srt.put_up totM hu) ?_]
      · rw [Srt.mem_put totM hu]
        simp only [List.mem_cons]
        constructor
        · rintro ((h | h) | h)
          · exact .inr (.inl h)
          · exact .inl h.1
          · exact .inr (.inr h)
        · rintro (h | h | h)
          · refine .inl (.inr ⟨h, fun he => ?_⟩)
            have : x.id = y.id := congrArg Prod.snd he
            rw [List.map_append, List.nodup_append] at hn
            exact hn.2.2 _ (List.mem_map.2 ⟨x, h, rfl⟩) _ (by simp) this
          · exact .inl (.inl h)
          · exact .inr h
      · have hp : (Srt.put Mk.key ltM m y).Perm (m ++ [y]) := by
          have ht : ¬ Srt.thr Mk.key ltM m y.key = true := fun h => by
            obtain ⟨z, hz, he⟩ := (Srt.thr_iff totM hu).1 h
            have : z.id = y.id := congrArg Prod.snd he
            rw [List.map_append, List.nodup_append] at hn
            exact hn.2.2 _ (List.mem_map.2 ⟨z, hz, rfl⟩) _ (by simp) this
          rw [Srt.put, if_neg ht]
          exact Srt.ins_perm.trans (List.perm_append_comm (l₁ := [y]))
        have := (hp.append_right l).map Mk.id
        rw [List.append_assoc] at this
        exact this.nodup_iff.2 hn
  have := key l [] .nil (by simpa using hd) x
  simpa [ordM] using this
theorem ordM_eq {l m : List Mk} (hd : (l.map Mk.id).Nodup) (hu : Srt.Up Mk.key ltM m) (hm : ∀ x, x ∈ m ↔ x ∈ l) : m = ordM l :=
  Srt.ext totM hu ordM_up fun x => by rw [hm, ordM_mem hd]
theorem mksOf_ids {l : List Ch} {w : List Wt} {n : Nat} (h : okLd l) : ((mksOf l w n).map Mk.id).Nodup := by
  have h1 := (Srt.chn_up (lt := ltN) Srt.totNat).1 h.2.2.1
  unfold Srt.Up at h1
  rw [mksOf, List.map_map, List.Nodup, List.pairwise_map]
  exact (h1.sublist List.filter_sublist).imp fun hlt he => by
    change _ < _ at hlt
    change Ch.id _ = Ch.id _ at he
    omega
theorem sorted_ord {l : List Mk} {els : List (List C)} (hd : (l.map Mk.id).Nodup) (hp : els.Perm (mks l)) (hs : els.Pairwise fun x y => ¬ mkO (Mk.dec y) (Mk.dec x) < 0) : els = mks (ordM l) := by
  have h1 : mks (els.map Mk.dec) = els := by
    simp only [mks, List.map_map]
    refine (List.map_congr_left fun x hx => ?_).trans (List.map_id _)
    obtain ⟨a, _, rfl⟩ := List.mem_map.1 (hp.mem_iff.1 hx)
    show (Mk.dec a.enc).enc = a.enc
    rw [Mk.dec_enc]
  have h2 : (els.map Mk.dec).Perm l := by
    have := hp.map Mk.dec
    rwa [show (mks l).map Mk.dec = l from dmks_mks l] at this
  have h3 : els.map Mk.dec = ordM l := by
    refine ordM_eq hd ?_ fun x => h2.mem_iff
    have hd2 : ((els.map Mk.dec).map Mk.id).Nodup := ((h2.map Mk.id).nodup_iff).2 hd
    unfold Srt.Up
    rw [List.Nodup, List.pairwise_map] at hd2
    have hs2 : (els.map Mk.dec).Pairwise fun x y => ¬ mkO y x < 0 := by rw [List.pairwise_map]; exact hs
    refine hd2.imp₂ ?_ hs2
    intro a b hne hno
    rw [mkO_neg] at hno
    unfold ltM Mk.key at *
    simp only at *
    omega
  rw [← h3, h1]
@[go_sem] def order_r (l : List Ch) (w : List Wt) (n : Nat) : D := .tup [.sl (u64s (ordL l w n).1), .int .i64 (ordL l w n).2]
@[go_sem] abbrev n_order : FuncId := 83
@[go_sem] def order_T : Tab := [(26, sp_lcheck), (114, sp_croom), (115, sp_one), (116, sp_weigh), (117, sp_misnan), (118, sp_mnan)]
theorem order_T_ok : TabOk Tryz.prog order_T := (TabOk.cons sp_lcheck_ok (TabOk.cons sp_croom_ok (TabOk.cons sp_one_ok (TabOk.cons sp_weigh_ok (TabOk.cons sp_misnan_ok (TabOk.cons sp_mnan_ok TabOk.nil))))))
set_option maxRecDepth 8000 in
set_option maxHeartbeats 1000000 in
theorem order_ok (l : List Ch) (w : List Wt) (n : Nat)  : PureFn Tryz.prog 83 [.sl (chs l), .sl (wts w), .c (.int .u64 (n : Int))] (order_r l w n) := by
  refine .of (ac83 order_T_ok (Nat.le_of_ble_eq_true rfl) ?_)
  simp -implicitDefEqProofs only [cdA, go_sem, Go.Proofs.Tryz.f83, reduceIte, List.cons.injEq, cdB]
  have hcz : chkL l = 0 ↔ okLd l := by unfold chkL; split <;> simp_all
  rw [hcz]
  refine ⟨fun hok hl => ?_, fun hno => by rw [ordL, chkL, if_neg hno, if_neg hno]; exact ⟨rfl, rfl⟩⟩
  have hl32 := hok.1
  refine SWp.nilvec 9 2 180 rfl (Nat.zero_le _) ?_
  refine SWp.loop (ι := { i : Nat // i ≤ l.length }) (fun i => ⟨[(1, .sl (wts w)), (2, .int .u64 n), (9, .vec 0 (mksOf (l.take i.1) w n).length), (23, .sl (chs l)), (24, .int .i64 l.length), (25, .int .i64 i.1)], [(0, .vec true 2 180 (mks (mksOf (l.take i.1) w n)))], 1⟩) (fun i => l.length - i.1) ⟨0, by omega⟩ ?_ ?_
  · simp [go_sem, mksOf, mks]
  · rintro ⟨i, hi⟩
    refine awp_sound order_T_ok.toS lv83 _ _ _ rfl ?_
    simp -implicitDefEqProofs only [cdA, go_sem, reduceIte, List.cons.injEq, cdB]
    refine ⟨fun h => ⟨by omega, ?_⟩, fun h => ?_⟩
    · have hi' : i < l.length := by omega
      have hc0 : okCh (l.getD i default) := hok.2.1 _ (mem_getD.2 ⟨i, hi', rfl⟩)
      have hst := mksOf_succ (w := w) (n := n) hi'
      have hr0 := roomC_0.2 hc0
      have hone : (oneS (l.getD i default) (weighS w (l.getD i default).id) (fofi n)).2 = 0 := by rw [oneS, if_pos hc0]
      have hlen := mksOf_len (l := l.take i) (w := w) (n := n)
      rw [List.length_take] at hlen
      generalize hc : l.getD i default = c at *
      have hskip : elig n c ≠ true → mksOf (l.take (i + 1)) w n = mksOf (l.take i) w n := fun he => by rw [hst, if_neg he, List.append_nil]
      refine ⟨fun _ => ⟨fun hop => ⟨fun hr => ?_, fun hr => ?_⟩, fun hop => ?_⟩, fun hr => absurd hr0 hr⟩
      · exact ⟨⟨i + 1, hi'⟩, by dsimp only; omega, by dsimp only; rw [hskip (by rw [elig]; simp; intro _; omega)]; exact ⟨⟨rfl, i64_in _ (by omega)⟩, rfl⟩⟩
      · refine ADraw.run us83_10 order_T_ok follows_mixed (by kernel_rfl) (by kernel_rfl) ?_
        simp -implicitDefEqProofs only [cdA, go_sem, reduceIte, List.cons.injEq, cdB]
        have hwm : ∀ a b, wts [⟨a, b⟩] = mks [⟨a, b⟩] := fun _ _ => rfl
        have hel : elig n c = true := by
          simp at hop
          rw [elig, hop]; simp; omega
        rw [if_pos hel] at hst
        have hfin : mks (mksOf (l.take i) w n) ++ wts [⟨c.id, (oneS c (weighS w c.id) (fofi n)).1⟩] = mks (mksOf (l.take (i + 1)) w n) := by rw [hwm, mks_app, hst]; rfl
        have hnext : ∀ s, s = (oneS c (weighS w c.id) (fofi n)).1 → ((mksOf (l.take i) w n).length + 1) * 16 ≤ 140737488355328 ∧ ∃ i_1 : { i : Nat // i ≤ l.length }, l.length - i_1.val < l.length - i ∧ (D.vec 0 ((mksOf (l.take i) w n).length + 1) = D.vec 0 (mksOf (l.take i_1.val) w n).length ∧ IntKind.i64.wrap ((i : Int) + 1) = i_1.val) ∧ Ob.vec true 2 180 (mks (mksOf (l.take i) w n) ++ wts [⟨c.id, s⟩]) = Ob.vec true 2 180 (mks (mksOf (l.take i_1.val) w n)) := fun s hs => by
          refine ⟨by omega, ⟨i + 1, hi'⟩, by dsimp only; omega, ⟨by dsimp only; rw [hst]; simp, i64_in _ (by omega)⟩, ?_⟩
          rw [hs, hfin]
        refine ⟨fun _ => ⟨fun hnan => hnext _ ?_, fun _ => hnext _ rfl⟩, fun h => absurd hone h⟩
        have e1 : (oneS c (weighS w c.id) (fofi n)).1 = far .mul (weighS w c.id) (far .quo (far .sub (fofi (roomC c).1) (fofi n)) (fofi (sumsC c).2.1)) := by rw [oneS, if_pos hc0]
        rw [e1] at hnan ⊢
        exact (far_canon hnan).symm
      · exact ⟨⟨i + 1, hi'⟩, by dsimp only; omega, by dsimp only; rw [hskip (by rw [elig]; simp at hop; simp [hop])]; exact ⟨⟨rfl, i64_in _ (by omega)⟩, rfl⟩⟩
    · have hi' : i = l.length := by omega
      subst hi'
      rw [List.take_length]
      have hlen := mksOf_len (l := l) (w := w) (n := n)
      have hdec : ∀ a : Mk, Mk.dec a.enc = a := Mk.dec_enc
      have hin : ∀ x ∈ mks (mksOf l w n), ∃ a : Mk, x = a.enc := fun x hx => by
        obtain ⟨a, _, rfl⟩ := List.mem_map.1 hx
        exact ⟨a, rfl⟩
      refine ACall.sort Tryz.sortMk (k := 2) (by decide) Tryz.isAgg180 Tryz.sizeOf180 rfl (cf := fun x y => mkO (Mk.dec x) (Mk.dec y)) rfl (by simp) (by omega) ?_ ?_ ?_ ?_ ?_
      · intro x hx y hy
        obtain ⟨a, rfl⟩ := hin x hx
        obtain ⟨b, rfl⟩ := hin y hy
        rw [hdec, hdec]
        exact mkcmp_ok a b
      · intro x hx
        rw [mkO_neg]; exact totM.irr _
      · intro x _ y _ z _
        rw [mkO_neg, mkO_neg, mkO_neg]; exact totM.tr
      · intro x _ y _ z _
        rw [mkO_neg, mkO_neg, mkO_neg]
        unfold ltM; omega
      · intro els' hp hs
        have he := sorted_ord (mksOf_ids hok) hp hs
        subst he
        have hol : (ordM (mksOf l w n)).length = (mksOf l w n).length := by
          have := hp.length_eq
          rwa [mks_length, mks_length] at this
        clear hp hs
        generalize hM : ordM (mksOf l w n) = M at *
        rw [← hol]
        have hml : M.length ≤ 32 := by omega
        simp -implicitDefEqProofs only [cdA, go_sem, reduceIte, List.cons.injEq, cdB]
        refine fun _ => ⟨⟨by omega, by omega⟩, fun _ => ?_⟩
        have hz : List.replicate M.length [C.int .u64 0] = u64s (List.replicate M.length 0) := by simp [u64s]
        rw [hz]
        refine SWp.loop (ι := { x : Nat × List Nat // x.1 ≤ M.length ∧ x.2.length = M.length ∧ ∀ j, j < x.1 → x.2.getD j default = (M.getD j default).id }) (fun x => ⟨[(15, .vec 1 M.length), (77, .vec 0 M.length), (78, .int .i64 M.length), (79, .int .i64 x.1.1)],
          [(1, .vec true 1 28 (u64s x.1.2)), (0, .vec true 2 180 (mks M))], 2⟩) (fun x => M.length - x.1.1) ⟨(0, List.replicate M.length 0), by simp⟩ ?_ ?_
        · simp [go_sem]
        · rintro ⟨⟨j, X⟩, hj, hX, hall⟩
          dsimp only at hj hX hall
          refine awp_sound order_T_ok.toS lv83 _ _ _ rfl ?_
          simp -implicitDefEqProofs only [cdA, go_sem, reduceIte, List.cons.injEq, cdB]
          refine ⟨fun h2 => ⟨by omega, by omega, by omega, ⟨hX.symm, by omega⟩, ⟨(j + 1, X.set j (M.getD j default).id), by dsimp only; omega, by dsimp only; rw [List.length_set]; exact hX, fun q hq => ?_⟩, by dsimp only; omega, i64_in _ (by omega), rfl⟩, fun h2 => ?_⟩
          · dsimp only at hq ⊢
            rw [Srt.set_getD (by omega)]
            by_cases hqj : q = j
            · rw [if_pos hqj, hqj]
            · rw [if_neg hqj]; exact hall q (by omega)
          · have hXm : X = M.map Mk.id := by
              apply List.ext_getElem (by simpa using hX)
              intro q h3 h4
              have := hall q (by omega)
              rw [getD_lt h3, getD_lt (by omega)] at this
              simpa using this
            rw [ordL, if_pos hok, hM, hXm]
            exact ⟨⟨by simp, _, _, _, rfl⟩, rfl⟩
def sp_order : List D → Option (Prop × D × Fr)
  | [.c (.sl z101), .c (.sl z102), .c (.int .u64 z103)] => some (z101 = chs (dchs z101) ∧ z102 = wts (dwts z102) ∧ z103 = (z103.toNat : Int), order_r (dchs z101) (dwts z102) z103.toNat, [])
  | _ => none
attribute [go_sem] sp_order
theorem sp_order_ok : ∀ rs p r fr, sp_order rs = some (p, r, fr) → p → FnOk Tryz.prog 83 rs r fr := by
  intro rs p r fr h hp
  unfold sp_order at h
  split at h <;> cases h
  obtain ⟨hc0, hc1, hc2⟩ := hp
  rename_i z101 z102 z103
  obtain ⟨z101, rfl⟩ : ∃ m, z101 = chs m := ⟨_, hc0⟩
  obtain ⟨z102, rfl⟩ : ∃ m, z102 = wts m := ⟨_, hc1⟩
  obtain ⟨z103, rfl⟩ : ∃ m : Nat, z103 = m := ⟨_, hc2⟩
  simp only [Int.toNat_natCast, dchs_chs, dwts_wts]
  exact order_ok z101 z102 z103
def firstL (l : List Ch) (w : List Wt) (n : Nat) : Nat × Int := if (ordL l w n).2 = 0 then (match (ordL l w n).1 with
  | [] => (0, 5)
  | x :: _ => (x, 0)) else (0, (ordL l w n).2)
@[go_sem] def first_r (l : List Ch) (w : List Wt) (n : Nat) : D := .tup [.int .u64 ((firstL l w n).1 : Int), .int .i64 (firstL l w n).2]
@[go_sem] abbrev n_first : FuncId := 41
@[go_sem] def first_T : Tab := [(83, sp_order)]
theorem first_T_ok : TabOk Tryz.prog first_T := (TabOk.cons sp_order_ok TabOk.nil)
set_option maxRecDepth 8000 in
set_option maxHeartbeats 1000000 in
theorem first_ok (l : List Ch) (w : List Wt) (n : Nat)  : PureFn Tryz.prog 41 [.sl (chs l), .sl (wts w), .c (.int .u64 (n : Int))] (first_r l w n) := by
  refine .of (ac41 first_T_ok (Nat.le_of_ble_eq_true rfl) ?_)
  simp -implicitDefEqProofs only [cdA, go_sem, Go.Proofs.Tryz.f41, reduceIte, List.cons.injEq, cdB]
  unfold firstL
  refine ⟨fun h hl => ?_, fun h => by rw [if_neg h]; exact ⟨rfl, rfl⟩⟩
  rw [if_pos h]
  cases (ordL l w n).1 with
  | nil => exact ⟨fun _ => ⟨rfl, rfl⟩, fun h => absurd rfl h⟩
  | cons x t => exact ⟨fun h => absurd h (by rw [List.length_cons]; omega), fun _ => ⟨by rw [List.length_cons]; omega, rfl, rfl⟩⟩
def sp_first : List D → Option (Prop × D × Fr)
  | [.c (.sl z104), .c (.sl z105), .c (.int .u64 z106)] => some (z104 = chs (dchs z104) ∧ z105 = wts (dwts z105) ∧ z106 = (z106.toNat : Int), first_r (dchs z104) (dwts z105) z106.toNat, [])
  | _ => none
attribute [go_sem] sp_first
theorem sp_first_ok : ∀ rs p r fr, sp_first rs = some (p, r, fr) → p → FnOk Tryz.prog 41 rs r fr := by
  intro rs p r fr h hp
  unfold sp_first at h
  split at h <;> cases h
  obtain ⟨hc0, hc1, hc2⟩ := hp
  rename_i z104 z105 z106
  obtain ⟨z104, rfl⟩ : ∃ m, z104 = chs m := ⟨_, hc0⟩
  obtain ⟨z105, rfl⟩ : ∃ m, z105 = wts m := ⟨_, hc1⟩
  obtain ⟨z106, rfl⟩ : ∃ m : Nat, z106 = m := ⟨_, hc2⟩
  simp only [Int.toNat_natCast, dchs_chs, dwts_wts]
  exact first_ok z104 z105 z106
end Dm
namespace Dm
open Go Go.Proofs Go.IntWalk
structure Wl where
  c : List Ch
  w : List Wt
  i : List Iv
  p : List Py
  f : Fd
  next : Nat
  tick : Nat
deriving DecidableEq, Inhabited
@[go_sem] def Wl.enc (e : Wl) : List C := [.sl (chs e.c), .sl (wts e.w), .sl (ivs e.i), .sl (pys e.p), .int .u64 (e.f.next : Int), .sl (evs e.f.l), .int .u64 (e.next : Int), .int .u64 (e.tick : Int)]
def Wl.dec : List C → Wl
  | [.sl z220, .sl z221, .sl z222, .sl z223, .int .u64 z225, .sl z226, .int .u64 z227, .int .u64 z228] => (⟨(dchs z220), (dwts z221), (divs z222), (dpys z223), (⟨z225.toNat, (devs z226)⟩ : Fd), z227.toNat, z228.toNat⟩ : Wl)
  | _ => default
def wls (l : List Wl) : List (List C) := l.map Wl.enc
def dwls (l : List (List C)) : List Wl := l.map Wl.dec
@[simp, go_sem] theorem wls_length (l : List Wl) : (wls l).length = l.length := by simp [wls]
@[go_sem] theorem wls_get (l : List Wl) (i : Nat) : (wls l).getD i [.sl [], .sl [], .sl [], .sl [], .int .u64 0, .sl [], .int .u64 0, .int .u64 0] = (l.getD i default).enc := by
  simp only [wls, List.getD_eq_getElem?_getD, List.getElem?_map]
  cases l[i]? <;> rfl
@[go_sem] theorem wls_wide (l : List Wl) : Wide 8 (wls l) = True := by
  simp [Wide, wls, Wl.enc]
theorem Wl.dec_enc (e : Wl) : Wl.dec e.enc = e := by
  simp [Wl.enc, Wl.dec, dchs_chs, devs_evs, divs_ivs, dpys_pys, dwts_wts]
@[go_sem] theorem dwls_wls (l : List Wl) : dwls (wls l) = l := by
  simp only [dwls, wls, List.map_map]
  exact List.map_id'' (fun e => Wl.dec_enc e) l
@[go_sem] theorem wls_app (a b : List Wl) : wls a ++ wls b = wls (a ++ b) := by simp [wls]
@[go_sem] theorem wls_drop (l : List Wl) (k : Nat) : (wls l).drop k = wls (l.drop k) := by simp [wls]
@[go_sem] theorem wls_take (l : List Wl) (k : Nat) : (wls l).take k = wls (l.take k) := by simp [wls]
@[go_sem] theorem wls_one (z229 : List Ch) (z230 : List Wt) (z231 : List Iv) (z232 : List Py) (z233 : Int) (z234 : List Ev) (z235 : Int) (z236 : Int) (hz233 : 0 ≤ z233) (hz235 : 0 ≤ z235) (hz236 : 0 ≤ z236) : [[C.sl (chs z229), C.sl (wts z230), C.sl (ivs z231), C.sl (pys z232), C.int .u64 z233, C.sl (evs z234), C.int .u64 z235, C.int .u64 z236]] = wls [⟨z229, z230, z231, z232, ⟨z233.toNat, z234⟩, z235.toNat, z236.toNat⟩] := by simp [wls, Wl.enc, Int.toNat_of_nonneg hz233, Int.toNat_of_nonneg hz235, Int.toNat_of_nonneg hz236]
@[go_sem] theorem wls_set (l : List Wl) (i : Nat) (z229 : List Ch) (z230 : List Wt) (z231 : List Iv) (z232 : List Py) (z233 : Int) (z234 : List Ev) (z235 : Int) (z236 : Int) (hz233 : 0 ≤ z233) (hz235 : 0 ≤ z235) (hz236 : 0 ≤ z236) : (wls l).set i [C.sl (chs z229), C.sl (wts z230), C.sl (ivs z231), C.sl (pys z232), C.int .u64 z233, C.sl (evs z234), C.int .u64 z235, C.int .u64 z236] = wls (l.set i ⟨z229, z230, z231, z232, ⟨z233.toNat, z234⟩, z235.toNat, z236.toNat⟩) := by simp [wls, List.map_set, Wl.enc, Int.toNat_of_nonneg hz233, Int.toNat_of_nonneg hz235, Int.toNat_of_nonneg hz236]
@[go_sem] theorem wls_cons (l : List Wl) (z229 : List Ch) (z230 : List Wt) (z231 : List Iv) (z232 : List Py) (z233 : Int) (z234 : List Ev) (z235 : Int) (z236 : Int) (hz233 : 0 ≤ z233) (hz235 : 0 ≤ z235) (hz236 : 0 ≤ z236) : [C.sl (chs z229), C.sl (wts z230), C.sl (ivs z231), C.sl (pys z232), C.int .u64 z233, C.sl (evs z234), C.int .u64 z235, C.int .u64 z236] :: wls l = wls (⟨z229, z230, z231, z232, ⟨z233.toNat, z234⟩, z235.toNat, z236.toNat⟩ :: l) := by simp [wls, Wl.enc, Int.toNat_of_nonneg hz233, Int.toNat_of_nonneg hz235, Int.toNat_of_nonneg hz236]
@[go_sem] theorem Wl.eta {e : Wl} : (⟨e.c, e.w, e.i, e.p, e.f, e.next, e.tick⟩ : Wl) = e := rfl
def okW (w : Wl) : Prop := okLd w.c ∧ okIv w.i ∧ okFd w.f ∧ w.w.length ≤ 32 ∧ w.next ≠ 0 ∧ w.next ≤ MM ∧ (0 < w.p.length → (w.p.getD (w.p.length - 1) default).id < w.next) ∧ agrL w.p w.c = (true, 0)
instance (w : Wl) : Decidable (okW w) := by unfold okW; infer_instance
def chkW (w : Wl) : Int := if okW w then 0 else 1
theorem chkW_0 {w : Wl} : chkW w = 0 ↔ okW w := by unfold chkW; split <;> rename_i h <;> simp only [h] <;> decide
@[go_sem] def wnew_r  : D := .agg [.sl (chs []), .sl (wts []), .sl (ivs []), .sl (pys []), .int .u64 1, .sl (evs []), .int .u64 1, .int .u64 0]
@[go_sem] abbrev n_wnew : FuncId := 5
@[go_sem] def wnew_T : Tab := [(18, sp_fnew)]
theorem wnew_T_ok : TabOk Tryz.prog wnew_T := (TabOk.cons sp_fnew_ok TabOk.nil)
set_option maxRecDepth 8000 in
set_option maxHeartbeats 1000000 in
theorem wnew_ok   : PureFn Tryz.prog 5 [] (wnew_r ) := by
  refine .of (ac5 wnew_T_ok (Nat.le_of_ble_eq_true rfl) ?_)
  simp -implicitDefEqProofs only [cdA, go_sem, Go.Proofs.Tryz.f5, reduceIte, List.cons.injEq, cdB]
  exact ⟨rfl, rfl, rfl, rfl⟩
def sp_wnew : List D → Option (Prop × D × Fr)
  | [] => some (True, wnew_r , [])
  | _ => none
attribute [go_sem] sp_wnew
theorem sp_wnew_ok : ∀ rs p r fr, sp_wnew rs = some (p, r, fr) → p → FnOk Tryz.prog 5 rs r fr := by
  intro rs p r fr h hp
  unfold sp_wnew at h
  split at h <;> cases h
  exact wnew_ok 
@[go_sem] def wcheck_r (w : Wl) : D := .int .i64 (chkW w)
@[go_sem] abbrev n_wcheck : FuncId := 9
@[go_sem] def wcheck_T : Tab := [(26, sp_lcheck), (27, sp_icheck), (28, sp_fcheck), (8, sp_pagree)]
theorem wcheck_T_ok : TabOk Tryz.prog wcheck_T := (TabOk.cons sp_lcheck_ok (TabOk.cons sp_icheck_ok (TabOk.cons sp_fcheck_ok (TabOk.cons sp_pagree_ok TabOk.nil))))
set_option maxRecDepth 8000 in
set_option maxHeartbeats 1000000 in
theorem wcheck_ok (w : Wl) (h : w.f.next ≤ 18446744073709551615) : PureFn Tryz.prog 9 [.agg [.sl (chs w.c), .sl (wts w.w), .sl (ivs w.i), .sl (pys w.p), .c (.int .u64 (w.f.next : Int)), .sl (evs w.f.l), .c (.int .u64 (w.next : Int)), .c (.int .u64 (w.tick : Int))]] (wcheck_r w) := by
  refine .of (ac9 wcheck_T_ok (Nat.le_of_ble_eq_true rfl) ?_)
  simp -implicitDefEqProofs only [cdA, go_sem, Go.Proofs.Tryz.f9, reduceIte, List.cons.injEq, cdB]
  have hbad : ¬ okW w → 1 = chkW w := fun h => by rw [chkW, if_neg h]
  have hl0 : chkL w.c = 0 ↔ okLd w.c := by unfold chkL; split <;> rename_i h <;> simp only [h] <;> decide
  have hi0 : chkI w.i = 0 ↔ okIv w.i := by unfold chkI; split <;> rename_i h <;> simp only [h] <;> decide
  refine ⟨fun h1 => ⟨fun h2 => ⟨h, fun h3 _ => ⟨fun h4 => ⟨fun h5 => ⟨fun h6 => hbad fun ho => ?_, fun h6 _ => ?_⟩, fun h5 => hbad fun ho => ?_⟩, fun h4 => hbad fun ho => ?_⟩, fun h3 => hbad fun ho => h3 (chkF_0.2 ho.2.2.1)⟩, fun h2 => hbad fun ho => h2 (hi0.2 ho.2.1)⟩, fun h1 => hbad fun ho => h1 (hl0.2 ho.1)⟩
  rotate_left 1
  · refine ADraw.run us9_4 wcheck_T_ok follows_mixed (by kernel_rfl) (by kernel_rfl) ?_
    simp -implicitDefEqProofs only [cdA, go_sem, reduceIte, List.cons.injEq, cdB]
    have hL := hl0.1 h1
    have hh : ∀ c ∈ w.c, c.holds.length ≤ 1000000 := fun c hc => by have := (hL.2.1 c hc).2.2.1; omega
    have hfin : (0 < w.p.length → (w.p.getD (w.p.length - 1) default).id < w.next) → ((agrL w.p w.c).2 = 0 → ((agrL w.p w.c).1 = true → 0 = chkW w) ∧ ((agrL w.p w.c).1 = false → 1 = chkW w)) ∧ (¬(agrL w.p w.c).2 = 0 → 1 = chkW w) := fun h7 =>
      ⟨fun h8 => ⟨fun h9 => by
        rw [chkW, if_pos (show okW w from ⟨hL, hi0.1 h2, chkF_0.1 h3, by omega, by omega, by unfold MM; omega, h7, Prod.ext h9 h8⟩)], fun h9 => hbad fun ho => by have := ho.2.2.2.2.2.2.2; rw [this] at h9; cases h9⟩,
        fun h8 => hbad fun ho => by have := ho.2.2.2.2.2.2.2; rw [this] at h8; exact h8 rfl⟩
    refine ⟨fun h7 => ?_, fun h7 => ⟨hh, hfin fun h => absurd h (by omega)⟩⟩
    rw [i64_in _ (by omega), show ((w.p.length : Int) - 1).toNat = w.p.length - 1 by omega]
    refine ⟨by omega, fun h8 => hbad fun ho => ?_, fun h8 => ⟨hh, hfin fun _ => by omega⟩⟩
    have := ho.2.2.2.2.2.2.1 (by omega); omega
  · have := ho.2.2.2.2.1; omega
  · have := ho.2.2.2.1; omega
  · have := ho.2.2.2.2.2.1; unfold MM at this; omega
@[go_sem] def wcheck_p (w : Wl) : Prop := (w.f.next ≤ 18446744073709551615)
def sp_wcheck : List D → Option (Prop × D × Fr)
  | [.agg [.c (.sl z238), .c (.sl z239), .c (.sl z240), .c (.sl z241), .c (.int .u64 z243), .c (.sl z244), .c (.int .u64 z245), .c (.int .u64 z246)]] => some (z238 = chs (dchs z238) ∧ z239 = wts (dwts z239) ∧ z240 = ivs (divs z240) ∧ z241 = pys (dpys z241) ∧ z243 = (z243.toNat : Int) ∧ z244 = evs (devs z244) ∧ z245 = (z245.toNat : Int) ∧ z246 = (z246.toNat : Int) ∧ wcheck_p (⟨(dchs z238), (dwts z239), (divs z240), (dpys z241), (⟨z243.toNat, (devs z244)⟩ : Fd), z245.toNat, z246.toNat⟩ : Wl), wcheck_r (⟨(dchs z238), (dwts z239), (divs z240), (dpys z241), (⟨z243.toNat, (devs z244)⟩ : Fd), z245.toNat, z246.toNat⟩ : Wl), [])
  | _ => none
attribute [go_sem] sp_wcheck
theorem sp_wcheck_ok : ∀ rs p r fr, sp_wcheck rs = some (p, r, fr) → p → FnOk Tryz.prog 9 rs r fr := by
  intro rs p r fr h hp
  unfold sp_wcheck at h
  split at h <;> cases h
  obtain ⟨hc0, hc1, hc2, hc3, hc4, hc5, hc6, hc7, hp⟩ := hp
  rename_i z238 z239 z240 z241 z243 z244 z245 z246
  obtain ⟨z238, rfl⟩ : ∃ m, z238 = chs m := ⟨_, hc0⟩
  obtain ⟨z239, rfl⟩ : ∃ m, z239 = wts m := ⟨_, hc1⟩
  obtain ⟨z240, rfl⟩ : ∃ m, z240 = ivs m := ⟨_, hc2⟩
  obtain ⟨z241, rfl⟩ : ∃ m, z241 = pys m := ⟨_, hc3⟩
  obtain ⟨z243, rfl⟩ : ∃ m : Nat, z243 = m := ⟨_, hc4⟩
  obtain ⟨z244, rfl⟩ : ∃ m, z244 = evs m := ⟨_, hc5⟩
  obtain ⟨z245, rfl⟩ : ∃ m : Nat, z245 = m := ⟨_, hc6⟩
  obtain ⟨z246, rfl⟩ : ∃ m : Nat, z246 = m := ⟨_, hc7⟩
  simp only [Int.toNat_natCast, dchs_chs, devs_evs, divs_ivs, dpys_pys, dwts_wts]
  simp only [Int.toNat_natCast, dchs_chs, devs_evs, divs_ivs, dpys_pys, dwts_wts, wcheck_p] at hp
  exact wcheck_ok ⟨z238, z239, z240, z241, ⟨z243, z244⟩, z245, z246⟩ hp
end Dm
namespace Dm
open Go Go.Proofs Go.IntWalk
@[go_sem] def hclone_r (l : List Hd) : D := .sl (hds l)
@[go_sem] abbrev n_hclone : FuncId := 73
@[go_sem] def hclone_T : Tab := []
theorem hclone_T_ok : TabOk Tryz.prog hclone_T := TabOk.nil
set_option maxRecDepth 8000 in
set_option maxHeartbeats 1000000 in
theorem hclone_ok (l : List Hd) (h : l.length ≤ 1000000) : PureFn Tryz.prog 73 [.sl (hds l)] (hclone_r l) := by
  refine .of (ac73 hclone_T_ok (Nat.le_of_ble_eq_true rfl) ?_)
  simp -implicitDefEqProofs only [cdA, go_sem, Go.Proofs.Tryz.f73, reduceIte, List.cons.injEq, cdB]
  exact fun b hb => ⟨hb, fun _ => ⟨by omega, _, _, _, rfl⟩⟩
@[go_sem] def hclone_p (l : List Hd) : Prop := (l.length ≤ 1000000)
def sp_hclone : List D → Option (Prop × D × Fr)
  | [.c (.sl z107)] => some (z107 = hds (dhds z107) ∧ hclone_p (dhds z107), hclone_r (dhds z107), [])
  | _ => none
attribute [go_sem] sp_hclone
theorem sp_hclone_ok : ∀ rs p r fr, sp_hclone rs = some (p, r, fr) → p → FnOk Tryz.prog 73 rs r fr := by
  intro rs p r fr h hp
  unfold sp_hclone at h
  split at h <;> cases h
  obtain ⟨hc0, hp⟩ := hp
  rename_i z107
  obtain ⟨z107, rfl⟩ : ∃ m, z107 = hds m := ⟨_, hc0⟩
  simp only [dhds_hds]
  simp only [dhds_hds, hclone_p] at hp
  exact hclone_ok z107 hp
@[go_sem] def own_r (c : Ch) : D := .agg [.int .u64 c.id, .int .u64 c.loc, .int .u64 c.rem, .int .u64 c.res, .int .u64 c.most, .sl (hds c.holds), .bool c.op]
@[go_sem] abbrev n_own : FuncId := 30
@[go_sem] def own_T : Tab := [(73, sp_hclone)]
theorem own_T_ok : TabOk Tryz.prog own_T := (TabOk.cons sp_hclone_ok TabOk.nil)
set_option maxRecDepth 8000 in
set_option maxHeartbeats 1000000 in
theorem own_ok (c : Ch) (h : c.holds.length ≤ 1000000) : PureFn Tryz.prog 30 [.agg [.c (.int .u64 (c.id : Int)), .c (.int .u64 (c.loc : Int)), .c (.int .u64 (c.rem : Int)), .c (.int .u64 (c.res : Int)), .c (.int .u64 (c.most : Int)), .sl (hds c.holds), .c (.bool c.op)]] (own_r c) := by
  refine .of (ac30 own_T_ok (Nat.le_of_ble_eq_true rfl) ?_)
  simp -implicitDefEqProofs only [cdA, go_sem, Go.Proofs.Tryz.f30, reduceIte, List.cons.injEq, cdB]
  exact h
@[go_sem] def own_p (c : Ch) : Prop := (c.holds.length ≤ 1000000)
def sp_own : List D → Option (Prop × D × Fr)
  | [.agg [.c (.int .u64 z109), .c (.int .u64 z110), .c (.int .u64 z111), .c (.int .u64 z112), .c (.int .u64 z113), .c (.sl z114), .c (.bool z115)]] => some (z109 = (z109.toNat : Int) ∧ z110 = (z110.toNat : Int) ∧ z111 = (z111.toNat : Int) ∧ z112 = (z112.toNat : Int) ∧ z113 = (z113.toNat : Int) ∧ z114 = hds (dhds z114) ∧ own_p (⟨z109.toNat, z110.toNat, z111.toNat, z112.toNat, z113.toNat, (dhds z114), z115⟩ : Ch), own_r (⟨z109.toNat, z110.toNat, z111.toNat, z112.toNat, z113.toNat, (dhds z114), z115⟩ : Ch), [])
  | _ => none
attribute [go_sem] sp_own
theorem sp_own_ok : ∀ rs p r fr, sp_own rs = some (p, r, fr) → p → FnOk Tryz.prog 30 rs r fr := by
  intro rs p r fr h hp
  unfold sp_own at h
  split at h <;> cases h
  obtain ⟨hc0, hc1, hc2, hc3, hc4, hc5, hp⟩ := hp
  rename_i z109 z110 z111 z112 z113 z114 z115
  obtain ⟨z109, rfl⟩ : ∃ m : Nat, z109 = m := ⟨_, hc0⟩
  obtain ⟨z110, rfl⟩ : ∃ m : Nat, z110 = m := ⟨_, hc1⟩
  obtain ⟨z111, rfl⟩ : ∃ m : Nat, z111 = m := ⟨_, hc2⟩
  obtain ⟨z112, rfl⟩ : ∃ m : Nat, z112 = m := ⟨_, hc3⟩
  obtain ⟨z113, rfl⟩ : ∃ m : Nat, z113 = m := ⟨_, hc4⟩
  obtain ⟨z114, rfl⟩ : ∃ m, z114 = hds m := ⟨_, hc5⟩
  simp only [Int.toNat_natCast, dhds_hds]
  simp only [Int.toNat_natCast, dhds_hds, own_p] at hp
  exact own_ok ⟨z109, z110, z111, z112, z113, z114, z115⟩ hp
def placeL (l : List Ch) (id : Nat) : Int × Int := if okLd l then (if Srt.thr Ch.id ltN l id = true then ((Srt.pos Ch.id ltN l id : Nat), 0) else (0, 5)) else (0, 1)
@[go_sem] def place_r (l : List Ch) (id : Nat) : D := .tup [.int .i64 (placeL l id).1, .int .i64 (placeL l id).2]
@[go_sem] abbrev n_place : FuncId := 29
@[go_sem] def place_T : Tab := [(26, sp_lcheck), (72, sp_lorder)]
theorem place_T_ok : TabOk Tryz.prog place_T := (TabOk.cons sp_lcheck_ok (TabOk.cons sp_lorder_ok TabOk.nil))
set_option maxRecDepth 8000 in
set_option maxHeartbeats 1000000 in
theorem place_ok (l : List Ch) (id : Nat)  : PureFn Tryz.prog 29 [.sl (chs l), .c (.int .u64 (id : Int))] (place_r l id) := by
  refine .of (ac29 place_T_ok (Nat.le_of_ble_eq_true rfl) ?_)
  simp -implicitDefEqProofs only [cdA, go_sem, Go.Proofs.Tryz.f29, reduceIte, List.cons.injEq, cdB]
  have hcz : chkL l = 0 ↔ okLd l := by unfold chkL; split <;> simp_all
  refine ⟨fun hok0 => ?_, fun hno0 => by
    have hno : ¬ okLd l := fun h => hno0 (hcz.2 h)
    rw [placeL, chkL, if_neg hno, if_neg hno]; exact ⟨rfl, rfl⟩⟩
  have hok := hcz.1 hok0
  have hu : Srt.Up Ch.id ltN l := (Srt.chn_up (lt := ltN) Srt.totNat).1 hok.2.2.1
  have hl32 := hok.1
  refine ac71 place_T_ok (Nat.le_of_ble_eq_true rfl) ?_
  simp -implicitDefEqProofs only [cdA, go_sem, Go.Proofs.Tryz.f71, reduceIte, List.cons.injEq, cdB]
  refine fun _ => SWp.loop (ι := { x : Nat × Nat // x.1 ≤ x.2 ∧ x.2 ≤ l.length ∧ (∀ k, k < x.1 → (l.getD k default).id < id) ∧ ∀ k, x.2 ≤ k → k < l.length → ¬ (l.getD k default).id < id }) (fun x => ⟨[(0, .sl (chs l)), (1, .int .u64 id), (2, .fn (.func 72) [] []), (8, .int .i64 l.length), (9, .int .i64 x.1.1), (10, .int .i64 x.1.2)], [], 0⟩) (fun x => x.1.2 - x.1.1) ⟨(0, l.length), by simp, by simp, fun k hk => absurd hk (by simp), fun k h1 h2 => absurd h1 (by simpa using h2)⟩ ?_ ?_
  · simp [go_sem]
  · rintro ⟨⟨i, j⟩, hij, hj, hlo, hup⟩
    dsimp only at hij hj hlo hup
    refine awp_sound place_T_ok.toS lv71 _ _ _ rfl ?_
    simp -implicitDefEqProofs only [cdA, go_sem, reduceIte, List.cons.injEq, cdB]
    rw [mid_eq hij hj ‹_›]
    refine ⟨fun h4 => ?_, fun h4 => ?_⟩
    · have hm : (i + j) / 2 < l.length := by omega
      rw [cmpS_neg, Int.toNat_natCast]
      refine ⟨by omega, fun h5 => ⟨⟨((i + j) / 2 + 1, j), by dsimp only; omega, hj, fun k hk => ?_, hup⟩, by dsimp only; omega, i64_in _ (by omega), rfl⟩, fun h5 => ⟨⟨(i, (i + j) / 2), by dsimp only; omega, by dsimp only; omega, hlo, fun k hk1 hk2 => ?_⟩, by dsimp only; omega, rfl, rfl⟩⟩
      · dsimp only at hk
        by_cases hkm : k = (i + j) / 2
        · rw [hkm]; omega
        · have := Srt.up_get.1 hu k _ (by omega) hm
          simp only [ltN] at this; omega
      · dsimp only at hk1
        by_cases hkm : k = (i + j) / 2
        · rw [hkm]; omega
        · have := Srt.up_get.1 hu ((i + j) / 2) k (by omega) hk2
          simp only [ltN] at this; omega
    · have hp : Srt.pos Ch.id ltN l id = i := Srt.pos_eq (by omega) hlo (fun h => hup i (by omega) h)
      rw [placeL, if_pos hok, Srt.thr, hp, cmpS_0]
      refine ⟨fun h5 => ⟨by omega, fun h6 => ?_, fun h6 => ?_⟩, fun h5 => ?_⟩
      · rw [if_pos (decide_eq_true ⟨by omega, by omega⟩)]; exact ⟨rfl, rfl⟩
      · rw [if_neg (by rw [decide_eq_true_iff]; omega)]; exact ⟨rfl, rfl⟩
      · rw [if_neg (by rw [decide_eq_true_iff]; omega)]; exact ⟨rfl, rfl⟩
def sp_place : List D → Option (Prop × D × Fr)
  | [.c (.sl z116), .c (.int .u64 z117)] => some (z116 = chs (dchs z116) ∧ z117 = (z117.toNat : Int), place_r (dchs z116) z117.toNat, [])
  | _ => none
attribute [go_sem] sp_place
theorem sp_place_ok : ∀ rs p r fr, sp_place rs = some (p, r, fr) → p → FnOk Tryz.prog 29 rs r fr := by
  intro rs p r fr h hp
  unfold sp_place at h
  split at h <;> cases h
  obtain ⟨hc0, hc1⟩ := hp
  rename_i z116 z117
  obtain ⟨z116, rfl⟩ : ∃ m, z116 = chs m := ⟨_, hc0⟩
  obtain ⟨z117, rfl⟩ : ∃ m : Nat, z117 = m := ⟨_, hc1⟩
  simp only [Int.toNat_natCast, dchs_chs]
  exact place_ok z116 z117
def getL (l : List Ch) (id : Nat) : Ch × Int := if okLd l then (if Srt.thr Ch.id ltN l id = true then (l.getD (Srt.pos Ch.id ltN l id) default, 0) else (default, 5)) else (default, 1)
@[go_sem] def lget_r (l : List Ch) (id : Nat) : D := .tup [.agg [.int .u64 (getL l id).1.id, .int .u64 (getL l id).1.loc, .int .u64 (getL l id).1.rem, .int .u64 (getL l id).1.res, .int .u64 (getL l id).1.most, .sl (hds (getL l id).1.holds), .bool (getL l id).1.op], .int .i64 (getL l id).2]
@[go_sem] abbrev n_lget : FuncId := 10
@[go_sem] def lget_T : Tab := [(29, sp_place), (30, sp_own)]
theorem lget_T_ok : TabOk Tryz.prog lget_T := (TabOk.cons sp_place_ok (TabOk.cons sp_own_ok TabOk.nil))
set_option maxRecDepth 8000 in
set_option maxHeartbeats 1000000 in
theorem lget_ok (l : List Ch) (id : Nat)  : PureFn Tryz.prog 10 [.sl (chs l), .c (.int .u64 (id : Int))] (lget_r l id) := by
  refine .of (ac10 lget_T_ok (Nat.le_of_ble_eq_true rfl) ?_)
  simp -implicitDefEqProofs only [cdA, go_sem, Go.Proofs.Tryz.f10, reduceIte, List.cons.injEq, cdB]
  by_cases hok : okLd l
  · by_cases ht : Srt.thr Ch.id ltN l id = true
    · have e1 : placeL l id = (((Srt.pos Ch.id ltN l id : Nat) : Int), 0) := by rw [placeL, if_pos hok, if_pos ht]
      have e2 : getL l id = (l.getD (Srt.pos Ch.id ltN l id) default, 0) := by rw [getL, if_pos hok, if_pos ht]
      have hp : Srt.pos Ch.id ltN l id < l.length := by
        unfold Srt.thr at ht
        exact (of_decide_eq_true ht).1
      rw [e1, e2, Int.toNat_natCast]
      have := (hok.2.1 _ (mem_getD.2 ⟨_, hp, rfl⟩)).2.2.1
      exact ⟨fun _ => ⟨⟨by omega, by omega⟩, by omega, ⟨rfl, rfl, rfl, rfl, rfl, rfl, rfl⟩, rfl⟩, fun h => absurd rfl h⟩
    · have e1 : placeL l id = (0, 5) := by rw [placeL, if_pos hok, if_neg ht]
      have e2 : getL l id = (default, 5) := by rw [getL, if_pos hok, if_neg ht]
      rw [e1, e2]
      exact ⟨fun h => absurd h (by decide), fun _ => ⟨⟨rfl, rfl, rfl, rfl, rfl, rfl, rfl⟩, rfl⟩⟩
  · have e1 : placeL l id = (0, 1) := by rw [placeL, if_neg hok]
    have e2 : getL l id = (default, 1) := by rw [getL, if_neg hok]
    rw [e1, e2]
    exact ⟨fun h => absurd h (by decide), fun _ => ⟨⟨rfl, rfl, rfl, rfl, rfl, rfl, rfl⟩, rfl⟩⟩
def sp_lget : List D → Option (Prop × D × Fr)
  | [.c (.sl z118), .c (.int .u64 z119)] => some (z118 = chs (dchs z118) ∧ z119 = (z119.toNat : Int), lget_r (dchs z118) z119.toNat, [])
  | _ => none
attribute [go_sem] sp_lget
theorem sp_lget_ok : ∀ rs p r fr, sp_lget rs = some (p, r, fr) → p → FnOk Tryz.prog 10 rs r fr := by
  intro rs p r fr h hp
  unfold sp_lget at h
  split at h <;> cases h
  obtain ⟨hc0, hc1⟩ := hp
  rename_i z118 z119
  obtain ⟨z118, rfl⟩ : ∃ m, z118 = chs m := ⟨_, hc0⟩
  obtain ⟨z119, rfl⟩ : ∃ m : Nat, z119 = m := ⟨_, hc1⟩
  simp only [Int.toNat_natCast, dchs_chs]
  exact lget_ok z118 z119
end Dm
namespace Dm
open Go Go.Proofs Go.IntWalk
@[go_sem] def cclone_r (l : List Ch) : D := .vec 0 l.length
@[go_sem] def cclone_fr (l : List Ch) : Fr := [(7, 37, true, chs l)]
@[go_sem] abbrev n_cclone : FuncId := 111
@[go_sem] def cclone_T : Tab := []
theorem cclone_T_ok : TabOk Tryz.prog cclone_T := TabOk.nil
set_option maxRecDepth 8000 in
set_option maxHeartbeats 1000000 in
theorem cclone_ok (l : List Ch) (h : l.length ≤ 1000000) : FreshFn Tryz.prog 111 [.sl (chs l)] (cclone_r l) (cclone_fr l) := by
  refine .of (ac111 cclone_T_ok (Nat.le_of_ble_eq_true rfl) ?_)
  simp -implicitDefEqProofs only [cdA, go_sem, Go.Proofs.Tryz.f111, reduceIte, List.cons.injEq, cdB]
  refine fun b hb => ⟨fun h => ?_, fun h => ?_⟩
  · exact ⟨[none], by simp [go_sem, hb h], by cases l <;> simp_all [go_sem, chs]⟩
  · exact ⟨by omega, [some 0], by simp [go_sem]⟩
@[go_sem] def cclone_p (l : List Ch) : Prop := (l.length ≤ 1000000)
def sp_cclone : List D → Option (Prop × D × Fr)
  | [.c (.sl z120)] => some (z120 = chs (dchs z120) ∧ cclone_p (dchs z120), cclone_r (dchs z120), cclone_fr (dchs z120))
  | _ => none
attribute [go_sem] sp_cclone
theorem sp_cclone_ok : ∀ rs p r fr, sp_cclone rs = some (p, r, fr) → p → FnOk Tryz.prog 111 rs r fr := by
  intro rs p r fr h hp
  unfold sp_cclone at h
  split at h <;> cases h
  obtain ⟨hc0, hp⟩ := hp
  rename_i z120
  obtain ⟨z120, rfl⟩ : ∃ m, z120 = chs m := ⟨_, hc0⟩
  simp only [dchs_chs]
  simp only [dchs_chs, cclone_p] at hp
  exact (show FnOk _ _ _ _ _ from And.intro rfl (cclone_ok z120 hp))
def whereI (l : List Ch) (h : Nat) : Nat × Int := if okLd l then (match nlk h (hm 0 l) with
  | some i => ((l.getD i.toNat default).id, 0)
  | none => (0, 5)) else (0, 1)
theorem hm_range : ∀ {l : List Ch} {s : Int} {k : Nat} {a : Int}, (k, a) ∈ hm s l → s ≤ a ∧ a < s + l.length
  | [], _, _, _, h => by cases h
  | c :: l, s, k, a, h => by
    rw [hm, List.mem_append] at h
    simp only [List.length_cons]
    rcases h with h | h
    · obtain ⟨x, _, hx⟩ := List.mem_map.1 h
      cases hx
      omega
    · have := hm_range h
      omega
@[go_sem] def lwhere_r (l : List Ch) (h : Nat) : D := .tup [.int .u64 ((whereI l h).1 : Int), .int .i64 (whereI l h).2]
@[go_sem] abbrev n_lwhere : FuncId := 92
@[go_sem] def lwhere_T : Tab := [(66, sp_lread)]
theorem lwhere_T_ok : TabOk Tryz.prog lwhere_T := (TabOk.cons sp_lread_ok TabOk.nil)
set_option maxRecDepth 8000 in
set_option maxHeartbeats 1000000 in
theorem lwhere_ok (l : List Ch) (h : Nat)  : PureFn Tryz.prog 92 [.sl (chs l), .c (.int .u64 (h : Int))] (lwhere_r l h) := by
  refine .of (ac92 lwhere_T_ok (Nat.le_of_ble_eq_true rfl) ?_)
  simp -implicitDefEqProofs only [cdA, go_sem, Go.Proofs.Tryz.f92, reduceIte, List.cons.injEq, cdB]
  by_cases hok : okLd l
  · have e1 : readL l = (hm 0 l, 0) := by rw [readL, if_pos hok]
    rw [e1, whereI, if_pos hok]
    refine ⟨fun _ => ⟨fun a ha => ?_, fun hn => ?_⟩, fun h => absurd rfl h⟩
    · have hnd : ((hm 0 l).map (·.1)).Nodup := by rw [hm_keys]; exact hok.2.2.2.1
      have := hm_range ((nlk_some hnd).1 ha)
      rw [ha]
      exact ⟨⟨by omega, by omega⟩, rfl, rfl⟩
    · rw [hn]; exact ⟨rfl, rfl⟩
  · have e1 : readL l = ([], 1) := by rw [readL, if_neg hok]
    rw [e1, whereI, if_neg hok]
    exact ⟨fun h => absurd h (by decide), fun _ => ⟨rfl, rfl⟩⟩
def sp_lwhere : List D → Option (Prop × D × Fr)
  | [.c (.sl z121), .c (.int .u64 z122)] => some (z121 = chs (dchs z121) ∧ z122 = (z122.toNat : Int), lwhere_r (dchs z121) z122.toNat, [])
  | _ => none
attribute [go_sem] sp_lwhere
theorem sp_lwhere_ok : ∀ rs p r fr, sp_lwhere rs = some (p, r, fr) → p → FnOk Tryz.prog 92 rs r fr := by
  intro rs p r fr h hp
  unfold sp_lwhere at h
  split at h <;> cases h
  obtain ⟨hc0, hc1⟩ := hp
  rename_i z121 z122
  obtain ⟨z121, rfl⟩ : ∃ m, z121 = chs m := ⟨_, hc0⟩
  obtain ⟨z122, rfl⟩ : ∃ m : Nat, z122 = m := ⟨_, hc1⟩
  simp only [Int.toNat_natCast, dchs_chs]
  exact lwhere_ok z121 z122
@[go_sem] def owns_r (l : List Ch) : D := .vec 0 l.length
@[go_sem] def owns_fr (l : List Ch) : Fr := [(7, 37, true, chs l)]
@[go_sem] abbrev n_owns : FuncId := 77
@[go_sem] def owns_T : Tab := [(111, sp_cclone), (30, sp_own)]
theorem owns_T_ok : TabOk Tryz.prog owns_T := (TabOk.cons sp_cclone_ok (TabOk.cons sp_own_ok TabOk.nil))
set_option maxRecDepth 8000 in
set_option maxHeartbeats 1000000 in
theorem owns_ok (l : List Ch) (h : l.length ≤ 1000000 ∧ ∀ c ∈ l, c.holds.length ≤ 1000000) : FreshFn Tryz.prog 77 [.sl (chs l)] (owns_r l) (owns_fr l) := by
  refine .of (ac77 owns_T_ok (Nat.le_of_ble_eq_true rfl) ?_)
  simp -implicitDefEqProofs only [cdA, go_sem, Go.Proofs.Tryz.f77, reduceIte, List.cons.injEq, cdB]
  refine ⟨h.1, fun _ => SWp.loop (ι := { i : Nat // i ≤ l.length }) (fun i => ⟨[(0, .vec 0 l.length), (7, .vec 0 l.length), (8, .int .i64 l.length), (9, .int .i64 i.1)], [(0, .vec true 7 37 (chs l))], 1⟩) (fun i => l.length - i.1) ⟨0, by omega⟩ ?_ ?_⟩
  · simp [go_sem]
  · rintro ⟨i, hi⟩
    refine awp_sound owns_T_ok.toS lv77 _ _ _ rfl ?_
    simp -implicitDefEqProofs only [cdA, go_sem, reduceIte, List.cons.injEq, cdB]
    refine ⟨fun h1 => ?_, fun _ => ⟨[some 0], by simp [go_sem]⟩⟩
    have hi' : i < l.length := by omega
    have hself : l.set i (l.getD i default) = l := by
      rw [getD_lt hi']; exact List.set_getElem_self hi'
    exact ⟨by omega, hi', h.2 _ (mem_getD.2 ⟨i, hi', rfl⟩), by omega, hi', ⟨i + 1, hi'⟩, by dsimp only; omega, i64_in _ (by omega), by rw [hself]⟩
@[go_sem] def owns_p (l : List Ch) : Prop := (l.length ≤ 1000000 ∧ ∀ c ∈ l, c.holds.length ≤ 1000000)
def sp_owns : List D → Option (Prop × D × Fr)
  | [.c (.sl z123)] => some (z123 = chs (dchs z123) ∧ owns_p (dchs z123), owns_r (dchs z123), owns_fr (dchs z123))
  | _ => none
attribute [go_sem] sp_owns
theorem sp_owns_ok : ∀ rs p r fr, sp_owns rs = some (p, r, fr) → p → FnOk Tryz.prog 77 rs r fr := by
  intro rs p r fr h hp
  unfold sp_owns at h
  split at h <;> cases h
  obtain ⟨hc0, hp⟩ := hp
  rename_i z123
  obtain ⟨z123, rfl⟩ : ∃ m, z123 = chs m := ⟨_, hc0⟩
  simp only [dchs_chs]
  simp only [dchs_chs, owns_p] at hp
  exact (show FnOk _ _ _ _ _ from And.intro rfl (owns_ok z123 hp))
end Dm
namespace Dm
open Go Go.Proofs Go.IntWalk
@[go_sem] def wtclone_r (l : List Wt) : D := .sl (wts l)
@[go_sem] abbrev n_wtclone : FuncId := 113
@[go_sem] def wtclone_T : Tab := []
theorem wtclone_T_ok : TabOk Tryz.prog wtclone_T := TabOk.nil
set_option maxRecDepth 8000 in
set_option maxHeartbeats 1000000 in
theorem wtclone_ok (l : List Wt) (h : l.length ≤ 1000000) : PureFn Tryz.prog 113 [.sl (wts l)] (wtclone_r l) := by
  refine .of (ac113 wtclone_T_ok (Nat.le_of_ble_eq_true rfl) ?_)
  simp -implicitDefEqProofs only [cdA, go_sem, Go.Proofs.Tryz.f113, reduceIte, List.cons.injEq, cdB]
  exact fun b hb => ⟨hb, fun _ => ⟨by omega, _, _, _, rfl⟩⟩
@[go_sem] def wtclone_p (l : List Wt) : Prop := (l.length ≤ 1000000)
def sp_wtclone : List D → Option (Prop × D × Fr)
  | [.c (.sl z247)] => some (z247 = wts (dwts z247) ∧ wtclone_p (dwts z247), wtclone_r (dwts z247), [])
  | _ => none
attribute [go_sem] sp_wtclone
theorem sp_wtclone_ok : ∀ rs p r fr, sp_wtclone rs = some (p, r, fr) → p → FnOk Tryz.prog 113 rs r fr := by
  intro rs p r fr h hp
  unfold sp_wtclone at h
  split at h <;> cases h
  obtain ⟨hc0, hp⟩ := hp
  rename_i z247
  obtain ⟨z247, rfl⟩ : ∃ m, z247 = wts m := ⟨_, hc0⟩
  simp only [dwts_wts]
  simp only [dwts_wts, wtclone_p] at hp
  exact wtclone_ok z247 hp
@[go_sem] def ivclone_r (l : List Iv) : D := .sl (ivs l)
@[go_sem] abbrev n_ivclone : FuncId := 99
@[go_sem] def ivclone_T : Tab := []
theorem ivclone_T_ok : TabOk Tryz.prog ivclone_T := TabOk.nil
set_option maxRecDepth 8000 in
set_option maxHeartbeats 1000000 in
theorem ivclone_ok (l : List Iv) (h : l.length ≤ 1000000) : PureFn Tryz.prog 99 [.sl (ivs l)] (ivclone_r l) := by
  refine .of (ac99 ivclone_T_ok (Nat.le_of_ble_eq_true rfl) ?_)
  simp -implicitDefEqProofs only [cdA, go_sem, Go.Proofs.Tryz.f99, reduceIte, List.cons.injEq, cdB]
  exact fun b hb => ⟨hb, fun _ => ⟨by omega, _, _, _, rfl⟩⟩
@[go_sem] def ivclone_p (l : List Iv) : Prop := (l.length ≤ 1000000)
def sp_ivclone : List D → Option (Prop × D × Fr)
  | [.c (.sl z248)] => some (z248 = ivs (divs z248) ∧ ivclone_p (divs z248), ivclone_r (divs z248), [])
  | _ => none
attribute [go_sem] sp_ivclone
theorem sp_ivclone_ok : ∀ rs p r fr, sp_ivclone rs = some (p, r, fr) → p → FnOk Tryz.prog 99 rs r fr := by
  intro rs p r fr h hp
  unfold sp_ivclone at h
  split at h <;> cases h
  obtain ⟨hc0, hp⟩ := hp
  rename_i z248
  obtain ⟨z248, rfl⟩ : ∃ m, z248 = ivs m := ⟨_, hc0⟩
  simp only [divs_ivs]
  simp only [divs_ivs, ivclone_p] at hp
  exact ivclone_ok z248 hp
@[go_sem] def pyclone_r (l : List Py) : D := .sl (pys l)
@[go_sem] abbrev n_pyclone : FuncId := 85
@[go_sem] def pyclone_T : Tab := []
theorem pyclone_T_ok : TabOk Tryz.prog pyclone_T := TabOk.nil
set_option maxRecDepth 8000 in
set_option maxHeartbeats 1000000 in
theorem pyclone_ok (l : List Py) (h : l.length ≤ 1000000) : PureFn Tryz.prog 85 [.sl (pys l)] (pyclone_r l) := by
  refine .of (ac85 pyclone_T_ok (Nat.le_of_ble_eq_true rfl) ?_)
  simp -implicitDefEqProofs only [cdA, go_sem, Go.Proofs.Tryz.f85, reduceIte, List.cons.injEq, cdB]
  exact fun b hb => ⟨hb, fun _ => ⟨by omega, _, _, _, rfl⟩⟩
@[go_sem] def pyclone_p (l : List Py) : Prop := (l.length ≤ 1000000)
def sp_pyclone : List D → Option (Prop × D × Fr)
  | [.c (.sl z249)] => some (z249 = pys (dpys z249) ∧ pyclone_p (dpys z249), pyclone_r (dpys z249), [])
  | _ => none
attribute [go_sem] sp_pyclone
theorem sp_pyclone_ok : ∀ rs p r fr, sp_pyclone rs = some (p, r, fr) → p → FnOk Tryz.prog 85 rs r fr := by
  intro rs p r fr h hp
  unfold sp_pyclone at h
  split at h <;> cases h
  obtain ⟨hc0, hp⟩ := hp
  rename_i z249
  obtain ⟨z249, rfl⟩ : ∃ m, z249 = pys m := ⟨_, hc0⟩
  simp only [dpys_pys]
  simp only [dpys_pys, pyclone_p] at hp
  exact pyclone_ok z249 hp
@[go_sem] def evclonep_r (l : List Ev) : D := .sl (evs l)
@[go_sem] abbrev n_evclonep : FuncId := 112
@[go_sem] def evclonep_T : Tab := []
theorem evclonep_T_ok : TabOk Tryz.prog evclonep_T := TabOk.nil
set_option maxRecDepth 8000 in
set_option maxHeartbeats 1000000 in
theorem evclonep_ok (l : List Ev) (h : l.length ≤ 1000000) : PureFn Tryz.prog 112 [.sl (evs l)] (evclonep_r l) := by
  refine .of (ac112 evclonep_T_ok (Nat.le_of_ble_eq_true rfl) ?_)
  simp -implicitDefEqProofs only [cdA, go_sem, Go.Proofs.Tryz.f112, reduceIte, List.cons.injEq, cdB]
  exact fun b hb => ⟨hb, fun _ => ⟨by omega, _, _, _, rfl⟩⟩
@[go_sem] def evclonep_p (l : List Ev) : Prop := (l.length ≤ 1000000)
def sp_evclonep : List D → Option (Prop × D × Fr)
  | [.c (.sl z250)] => some (z250 = evs (devs z250) ∧ evclonep_p (devs z250), evclonep_r (devs z250), [])
  | _ => none
attribute [go_sem] sp_evclonep
theorem sp_evclonep_ok : ∀ rs p r fr, sp_evclonep rs = some (p, r, fr) → p → FnOk Tryz.prog 112 rs r fr := by
  intro rs p r fr h hp
  unfold sp_evclonep at h
  split at h <;> cases h
  obtain ⟨hc0, hp⟩ := hp
  rename_i z250
  obtain ⟨z250, rfl⟩ : ∃ m, z250 = evs m := ⟨_, hc0⟩
  simp only [devs_evs]
  simp only [devs_evs, evclonep_p] at hp
  exact evclonep_ok z250 hp
def smallW (w : Wl) : Prop := w.c.length ≤ 1000000 ∧ (∀ c ∈ w.c, c.holds.length ≤ 1000000) ∧ w.w.length ≤ 1000000 ∧ w.i.length ≤ 1000000 ∧ w.p.length ≤ 1000000 ∧ w.f.l.length ≤ 1000000
@[go_sem] def wown_r (w : Wl) : D := .agg [.sl (chs w.c), .sl (wts w.w), .sl (ivs w.i), .sl (pys w.p), .int .u64 w.f.next, .sl (evs w.f.l), .int .u64 w.next, .int .u64 w.tick]
@[go_sem] abbrev n_wown : FuncId := 81
@[go_sem] def wown_T : Tab := [(111, sp_cclone), (73, sp_hclone), (113, sp_wtclone), (99, sp_ivclone), (85, sp_pyclone), (112, sp_evclonep)]
theorem wown_T_ok : TabOk Tryz.prog wown_T := (TabOk.cons sp_cclone_ok (TabOk.cons sp_hclone_ok (TabOk.cons sp_wtclone_ok (TabOk.cons sp_ivclone_ok (TabOk.cons sp_pyclone_ok (TabOk.cons sp_evclonep_ok TabOk.nil))))))
set_option maxRecDepth 8000 in
set_option maxHeartbeats 1000000 in
theorem wown_ok (w : Wl) (h : smallW w) : PureFn Tryz.prog 81 [.agg [.sl (chs w.c), .sl (wts w.w), .sl (ivs w.i), .sl (pys w.p), .c (.int .u64 (w.f.next : Int)), .sl (evs w.f.l), .c (.int .u64 (w.next : Int)), .c (.int .u64 (w.tick : Int))]] (wown_r w) := by
  refine .of (ac81 wown_T_ok (Nat.le_of_ble_eq_true rfl) ?_)
  simp -implicitDefEqProofs only [cdA, go_sem, Go.Proofs.Tryz.f81, reduceIte, List.cons.injEq, cdB]
  refine ADraw.run us81_1 wown_T_ok follows_mixed (by kernel_rfl) (by kernel_rfl) ?_
  simp -implicitDefEqProofs only [cdA, go_sem, reduceIte, List.cons.injEq, cdB]
  obtain ⟨h1, h2, h3, h4, h5, h6⟩ := h
  refine ⟨h1, h3, h4, h5, h6, fun _ => SWp.loop (ι := { i : Nat // i ≤ w.c.length }) (fun i => ⟨[(1, .ref 0 0), (2, .ref 1 0), (28, .vec 2 w.c.length), (29, .int .i64 w.c.length), (30, .int .i64 i.1)],
    [(2, .vec true 7 37 (chs w.c)), (0, .box [.vec 2 w.c.length, .sl (wts w.w), .sl (ivs w.i), .sl (pys w.p), .c (.int .u64 w.f.next), .sl (evs w.f.l), .c (.int .u64 w.next), .c (.int .u64 w.tick)]),
      (1, .box [.nil, .nil, .nil, .nil, .c (.int .u64 0), .nil, .c (.int .u64 0), .c (.int .u64 0)])], 3⟩) (fun i => w.c.length - i.1) ⟨0, by omega⟩ ?_ ?_⟩
  · simp [go_sem]
  · rintro ⟨i, hi⟩
    refine awp_sound wown_T_ok.toS lv81 _ _ _ rfl ?_
    simp -implicitDefEqProofs only [cdA, go_sem, reduceIte, List.cons.injEq, cdB]
    refine ⟨fun h7 => ⟨by omega, by omega, ?_⟩, fun _ => ⟨_, _, _, rfl⟩⟩
    have hi' : i < w.c.length := by omega
    have hself : w.c.set i (w.c.getD i default) = w.c := by
      rw [getD_lt hi']; exact List.set_getElem_self hi'
    have hhl := h2 _ (mem_getD.2 ⟨i, hi', rfl⟩)
    refine ADraw.run us81_5 wown_T_ok follows_mixed (by kernel_rfl) (by kernel_rfl) ?_
    simp -implicitDefEqProofs only [cdA, go_sem, reduceIte, List.cons.injEq, cdB]
    exact ⟨hhl, by omega, hi', ⟨i + 1, hi'⟩, by dsimp only; omega, i64_in _ (by omega), by rw [hself]⟩
@[go_sem] def wown_p (w : Wl) : Prop := (smallW w)
def sp_wown : List D → Option (Prop × D × Fr)
  | [.agg [.c (.sl z252), .c (.sl z253), .c (.sl z254), .c (.sl z255), .c (.int .u64 z257), .c (.sl z258), .c (.int .u64 z259), .c (.int .u64 z260)]] => some (z252 = chs (dchs z252) ∧ z253 = wts (dwts z253) ∧ z254 = ivs (divs z254) ∧ z255 = pys (dpys z255) ∧ z257 = (z257.toNat : Int) ∧ z258 = evs (devs z258) ∧ z259 = (z259.toNat : Int) ∧ z260 = (z260.toNat : Int) ∧ wown_p (⟨(dchs z252), (dwts z253), (divs z254), (dpys z255), (⟨z257.toNat, (devs z258)⟩ : Fd), z259.toNat, z260.toNat⟩ : Wl), wown_r (⟨(dchs z252), (dwts z253), (divs z254), (dpys z255), (⟨z257.toNat, (devs z258)⟩ : Fd), z259.toNat, z260.toNat⟩ : Wl), [])
  | _ => none
attribute [go_sem] sp_wown
theorem sp_wown_ok : ∀ rs p r fr, sp_wown rs = some (p, r, fr) → p → FnOk Tryz.prog 81 rs r fr := by
  intro rs p r fr h hp
  unfold sp_wown at h
  split at h <;> cases h
  obtain ⟨hc0, hc1, hc2, hc3, hc4, hc5, hc6, hc7, hp⟩ := hp
  rename_i z252 z253 z254 z255 z257 z258 z259 z260
  obtain ⟨z252, rfl⟩ : ∃ m, z252 = chs m := ⟨_, hc0⟩
  obtain ⟨z253, rfl⟩ : ∃ m, z253 = wts m := ⟨_, hc1⟩
  obtain ⟨z254, rfl⟩ : ∃ m, z254 = ivs m := ⟨_, hc2⟩
  obtain ⟨z255, rfl⟩ : ∃ m, z255 = pys m := ⟨_, hc3⟩
  obtain ⟨z257, rfl⟩ : ∃ m : Nat, z257 = m := ⟨_, hc4⟩
  obtain ⟨z258, rfl⟩ : ∃ m, z258 = evs m := ⟨_, hc5⟩
  obtain ⟨z259, rfl⟩ : ∃ m : Nat, z259 = m := ⟨_, hc6⟩
  obtain ⟨z260, rfl⟩ : ∃ m : Nat, z260 = m := ⟨_, hc7⟩
  simp only [Int.toNat_natCast, dchs_chs, devs_evs, divs_ivs, dpys_pys, dwts_wts]
  simp only [Int.toNat_natCast, dchs_chs, devs_evs, divs_ivs, dpys_pys, dwts_wts, wown_p] at hp
  exact wown_ok ⟨z252, z253, z254, z255, ⟨z257, z258⟩, z259, z260⟩ hp
end Dm
namespace Dm
open Go Go.Proofs Go.IntWalk
@[go_sem] def hins_T2 : Tab := [ovk 145]
theorem hins_T2_ok : TabOk Tryz.prog hins_T2 := .cons (ov_ok 145) .nil
@[go_sem] def hins_T3 : Tab := [fg 12]
theorem hins_T3_ok : TabOk Tryz.prog hins_T3 := .cons (fg_ok 12) .nil
theorem hins_wide (l : List Hd) : Wide 2 (hds l) := of_eq_true (hds_wide l)
set_option maxRecDepth 8000 in
set_option maxHeartbeats 1000000 in
theorem hins_ok (l : List Hd) (x : Hd) (i : Nat) (hi : i ≤ l.length) (hl : l.length ≤ 1000000) :
    ACall Tryz.prog 127 [.vec 0 l.length, .int .i64 i, .vec 1 1] [(1, .vec true 2 67 (hds [x])), (0, .vec true 2 67 (hds l))] 2 fun d os _ => Grown 2 67 (hds (Srt.ins l i x)) d os := by
  have hil : (Srt.ins l i x).length = l.length + 1 := Srt.ins_len
  have hq : ∀ j os, lk j os = some (.vec true 2 67 (hds (Srt.ins l i x))) → Grown 2 67 (hds (Srt.ins l i x)) (.vec j (l.length + 1)) os := fun j os h => ⟨j, by rw [hds_length, hil], h⟩
  by_cases hin : i = l.length
  · refine ac127 hins_T3_ok (Nat.le_of_ble_eq_true rfl) ?_
    have e4 : ((1 : Int) = 0) = False := eq_false (by decide)
    subst hin
    simp -implicitDefEqProofs only [cdA, go_sem, Go.Proofs.Tryz.f127, e4, decide_true, reduceIte, List.cons.injEq, cdB]
    refine ⟨Int.le_refl _, fun h => h.elim, fun _ => ⟨by omega, hq _ _ ?_⟩⟩
    rw [lk_cons, if_neg (by decide), lk_hd]
    simp [Srt.ins]
  · have hlt : i < l.length := by omega
    refine ACall.opn 0 rfl (by rw [hds_length]; omega) fun c hc hcm => ?_
    refine ACall.seal ?_
    rw [hds_length] at hc
    refine ac127 hins_T2_ok (Nat.le_of_ble_eq_true rfl) ?_
    have e1 : IntKind.i64.wrap ((l.length : Int) + 1) = ((l.length + 1 : Nat) : Int) := by rw [i64_in _ (by omega)]; omega
    have e2 : IntKind.i64.wrap ((i : Int) + 1) = ((i + 1 : Nat) : Int) := by rw [i64_in _ (by omega)]; omega
    have e3 : ((i : Int) = (l.length : Int)) = False := eq_false (by omega)
    have e4 : ((1 : Int) = 0) = False := eq_false (by decide)
    have e5 : IntKind.i64.wrap ((l.length : Int) + 1 - (i : Int)) = ((l.length + 1 - i : Nat) : Int) := by rw [i64_in _ (by omega)]; omega
    have e6 : ((l.length : Int) + 1).toNat = l.length + 1 := by omega
    have e7 : ((i : Int) + 1).toNat = i + 1 := by omega
    have e8 : i + (l.length + 1 - i) = l.length + 1 := by omega
    simp -implicitDefEqProofs only [cdA, go_sem, Go.Proofs.Tryz.f127, e3, e4, e1, e2, e5, e6, e7, e8, decide_false, reduceIte, List.cons.injEq, cdB]
    refine ⟨by omega, fun _ => ⟨fun h1 => ⟨by omega, by omega, fun c1 h2 h3 => ⟨by omega, ?_⟩⟩, fun h1 => ⟨by omega, by omega, ?_, ?_⟩⟩⟩
    · refine ADraw.run us127_11 hins_T2_ok follows_mixed (by kernel_rfl) (by kernel_rfl) ?_
      simp -implicitDefEqProofs only [cdA, go_sem, e1, e2, e5, e6, e7, e8, reduceIte, List.cons.injEq, cdB]
      refine ⟨by omega, by omega, fun y hy => fit_wide (hins_wide l) y (List.mem_of_mem_take (List.mem_of_mem_drop hy)), ?_⟩
      have := ins_new (sz := 2) (c := c) (c1 := c1) (i := i) (E := hds l) (x := x.enc) (z := [C.int .u64 0, C.int .u64 0]) (by rw [hds_length]; exact hlt) (by rw [hds_length]; exact hc) (by rw [hds_length]; exact h2)
      rw [hds_length] at this
      refine hq _ _ ?_
      rw [lk_hd]
      congr 2
      rw [show hds (List.take (l.length + 1 - i) [x]) = List.take (l.length + 1 - i) [x.enc] by simp [hds], this]
      simp [hds, Srt.ins]
    · exact ⟨_, 35, 4, _, rfl, rfl, rfl, rfl, by kernel_rfl, elOf_35⟩
    · refine ADraw.run us127_15 hins_T2_ok follows_mixed (by kernel_rfl) (by kernel_rfl) ?_
      simp -implicitDefEqProofs only [cdA, go_sem, e1, e2, e5, e6, e7, e8, reduceIte, List.cons.injEq, cdB]
      refine ⟨by omega, by omega, fun y hy => fit_wide (hins_wide l) y (List.mem_of_mem_take (List.mem_of_mem_drop hy)), by omega, ?_⟩
      have := ins_old (sz := 2) (c := c) (i := i) (E := hds l) (x := x.enc) (by rw [hds_length]; exact hlt) (by rw [hds_length]; omega)
      rw [hds_length] at this
      refine hq _ _ ?_
      rw [lk_hd]
      congr 2
      rw [show hds (List.take (l.length + 1 - i) [x]) = List.take (l.length + 1 - i) [x.enc] by simp [hds], this]
      simp [hds, Srt.ins]

@[go_sem] def hclonef_r (l : List Hd) : D := .vec 0 l.length
@[go_sem] def hclonef_fr (l : List Hd) : Fr := [(2, 67, true, hds l)]
@[go_sem] abbrev n_hclonef : FuncId := 73
@[go_sem] def hclonef_T : Tab := []
theorem hclonef_T_ok : TabOk Tryz.prog hclonef_T := TabOk.nil
set_option maxRecDepth 8000 in
set_option maxHeartbeats 1000000 in
theorem hclonef_ok (l : List Hd) (hl : l.length ≤ 1000000) : FreshFn Tryz.prog 73 [.sl (hds l)] (hclonef_r l) (hclonef_fr l) := by
  refine .of (ac73 hclonef_T_ok (Nat.le_of_ble_eq_true rfl) ?_)
  simp -implicitDefEqProofs only [cdA, go_sem, Go.Proofs.Tryz.f73, reduceIte, List.cons.injEq, cdB]
  refine fun b hb => ⟨fun h => ?_, fun h => ?_⟩
  · exact ⟨[none], by simp [go_sem, hb h], by cases l <;> simp_all [go_sem, hds]⟩
  · exact ⟨by omega, [some 0], by simp [go_sem]⟩
@[go_sem] def hclonef_p (l : List Hd) : Prop := (l.length ≤ 1000000)
def sp_hclonef : List D → Option (Prop × D × Fr)
  | [.c (.sl z124)] => some (z124 = hds (dhds z124) ∧ hclonef_p (dhds z124), hclonef_r (dhds z124), hclonef_fr (dhds z124))
  | _ => none
attribute [go_sem] sp_hclonef
theorem sp_hclonef_ok : ∀ rs p r fr, sp_hclonef rs = some (p, r, fr) → p → FnOk Tryz.prog 73 rs r fr := by
  intro rs p r fr h hp
  unfold sp_hclonef at h
  split at h <;> cases h
  obtain ⟨hc0, hp⟩ := hp
  rename_i z124
  obtain ⟨z124, rfl⟩ : ∃ m, z124 = hds m := ⟨_, hc0⟩
  simp only [dhds_hds]
  simp only [dhds_hds, hclonef_p] at hp
  exact (show FnOk _ _ _ _ _ from And.intro rfl (hclonef_ok z124 hp))
def bsH (l : List Hd) (id : Nat) (i j : Nat) : Nat :=
  if h : i < j then (if (l.getD ((i + j) / 2) default).id < id then bsH l id ((i + j) / 2 + 1) j else bsH l id i ((i + j) / 2)) else i
termination_by j - i
decreasing_by all_goals omega
theorem bsH_pos {l : List Hd} {id : Nat} (hu : Srt.Up Hd.key ltN l) : ∀ (m i j : Nat), j - i ≤ m → i ≤ j → j ≤ l.length → (∀ k, k < i → (l.getD k default).id < id) → (∀ k, j ≤ k → k < l.length → ¬ (l.getD k default).id < id) → bsH l id i j = Srt.pos Hd.key ltN l id := by
  intro m
  induction m with
  | zero =>
    intro i j hm hij hj hlo hup
    rw [bsH, dif_neg (by omega)]
    exact (Srt.pos_eq (by omega) hlo (fun h => hup i (by omega) h)).symm
  | succ m ih =>
    intro i j hm hij hj hlo hup
    rw [bsH]
    split
    · rename_i hlt
      have hup2 := Srt.up_get.1 hu
      split
      · rename_i h5
        refine ih _ _ (by omega) (by omega) hj (fun k hk => ?_) hup
        by_cases hkm : k = (i + j) / 2
        · rw [hkm]; exact h5
        · have := hup2 k ((i + j) / 2) (by omega) (by omega)
          simp only [ltN, Hd.key] at this; omega
      · rename_i h5
        refine ih _ _ (by omega) (by omega) (by omega) hlo (fun k hk1 hk2 => ?_)
        by_cases hkm : k = (i + j) / 2
        · rw [hkm]; exact h5
        · have := hup2 ((i + j) / 2) k (by omega) (by omega)
          simp only [ltN, Hd.key] at this; omega
    · exact (Srt.pos_eq (by omega) hlo (fun h => hup i (by omega) h)).symm
def holdE (c : Ch) (id n : Nat) : Int :=
  if ¬ okCh c ∨ n = 0 ∨ ¬ n ≤ MM then 1 else if c.op = false then 14 else if Srt.thr Hd.key ltN c.holds id = true then 6 else if c.holds.length = 64 then 7 else if c.loc < c.res ∨ c.loc - c.res < n then 9 else if c.most - held c.holds < n then 8 else 0
def holdC (c : Ch) (id n : Nat) : Ch × Int := if holdE c id n = 0 then (⟨c.id, c.loc - n, c.rem, c.res, c.most, Srt.ins c.holds (Srt.pos Hd.key ltN c.holds id) ⟨id, n⟩, c.op⟩, 0) else (default, holdE c id n)
@[go_sem] def chold_r (c : Ch) (id : Nat) (n : Nat) : D := .tup [.agg [.int .u64 (holdC c id n).1.id, .int .u64 (holdC c id n).1.loc, .int .u64 (holdC c id n).1.rem, .int .u64 (holdC c id n).1.res, .int .u64 (holdC c id n).1.most, .sl (hds (holdC c id n).1.holds), .bool (holdC c id n).1.op], .int .i64 (holdC c id n).2]
@[go_sem] abbrev n_chold : FuncId := 93
@[go_sem] def chold_T : Tab := [(31, sp_csums), (40, sp_moncheck), (73, sp_hclonef), (74, sp_horder)]
theorem chold_T_ok : TabOk Tryz.prog chold_T := (TabOk.cons sp_csums_ok (TabOk.cons sp_moncheck_ok (TabOk.cons sp_hclonef_ok (TabOk.cons sp_horder_ok TabOk.nil))))
set_option maxRecDepth 8000 in
set_option maxHeartbeats 1000000 in
theorem chold_ok (c : Ch) (id : Nat) (n : Nat)  : PureFn Tryz.prog 93 [.agg [.c (.int .u64 (c.id : Int)), .c (.int .u64 (c.loc : Int)), .c (.int .u64 (c.rem : Int)), .c (.int .u64 (c.res : Int)), .c (.int .u64 (c.most : Int)), .sl (hds c.holds), .c (.bool c.op)], .c (.int .u64 (id : Int)), .c (.int .u64 (n : Int))] (chold_r c id n) := by
  refine .of (ac93 chold_T_ok (Nat.le_of_ble_eq_true rfl) ?_)
  simp -implicitDefEqProofs only [cdA, go_sem, Go.Proofs.Tryz.f93, reduceIte, List.cons.injEq, cdB]
  refine ac126 chold_T_ok (Nat.le_of_ble_eq_true rfl) ?_
  simp -implicitDefEqProofs only [cdA, go_sem, Go.Proofs.Tryz.f126, reduceIte, List.cons.injEq, cdB]
  refine fun _ => SWp.loop (ι := { x : Nat × Nat // x.1 ≤ x.2 ∧ x.2 ≤ c.holds.length ∧ bsH c.holds id x.1 x.2 = bsH c.holds id 0 c.holds.length }) (fun x => ⟨[(0, .sl (hds c.holds)), (1, .int .u64 id), (2, .fn (.func 74) [] []), (8, .int .i64 c.holds.length), (9, .int .i64 x.1.1), (10, .int .i64 x.1.2)], [(0, .box [.int .u64 c.id, .int .u64 c.loc, .int .u64 c.rem, .int .u64 c.res, .int .u64 c.most, .sl (hds c.holds), .bool c.op]), (1, .box [.int .u64 0, .int .u64 0, .int .u64 0, .int .u64 0, .int .u64 0, .nil, .bool false])], 2⟩) (fun x => x.1.2 - x.1.1) ⟨(0, c.holds.length), by simp⟩ ?_ ?_
  · simp [go_sem]
  · rintro ⟨⟨i, j⟩, hij, hj, hb⟩
    dsimp only at hij hj hb
    refine awp_sound chold_T_ok.toS lv126 _ _ _ rfl ?_
    simp -implicitDefEqProofs only [cdA, go_sem, reduceIte, List.cons.injEq, cdB]
    rw [mid_eq hij hj ‹_›]
    have hbad : ∀ k, holdE c id n = k → ¬ k = 0 → (0 = ((holdC c id n).1.id : Int) ∧ 0 = ((holdC c id n).1.loc : Int) ∧ 0 = ((holdC c id n).1.rem : Int) ∧ 0 = ((holdC c id n).1.res : Int) ∧ 0 = ((holdC c id n).1.most : Int) ∧ hds (holdC c id n).1.holds = [] ∧ false = (holdC c id n).1.op) ∧ k = (holdC c id n).2 := fun k hk h0 => by
      have : holdC c id n = (default, k) := by rw [holdC, if_neg (by rw [hk]; exact h0), hk]
      rw [this]; exact ⟨⟨rfl, rfl, rfl, rfl, rfl, rfl, rfl⟩, rfl⟩
    refine ⟨fun h4 => ?_, fun h4 => ?_⟩
    · have hm : (i + j) / 2 < c.holds.length := by omega
      rw [bsH, dif_pos (by omega)] at hb
      rw [cmpS_neg, Int.toNat_natCast]
      refine ⟨⟨by omega, by omega⟩, fun h5 => ?_, fun h5 => ?_⟩
      · rw [if_pos (by omega)] at hb
        exact ⟨⟨((i + j) / 2 + 1, j), by dsimp only; omega, hj, hb⟩, by dsimp only; omega, i64_in _ (by omega), rfl⟩
      · rw [if_neg (by omega)] at hb
        exact ⟨⟨(i, (i + j) / 2), by dsimp only; omega, by dsimp only; omega, hb⟩, by dsimp only; omega, rfl, rfl⟩
    · rw [bsH, dif_neg (by omega)] at hb
      have hok : (sumsC c).2.2 = 0 ↔ okCh c := sumsC_0
      have hpos : okCh c → Srt.pos Hd.key ltN c.holds id = i := fun h => by
        rw [hb]
        exact (bsH_pos ((Srt.chn_up (lt := ltN) Srt.totNat).1 h.2.2.2.2.2.1) _ 0 c.holds.length (Nat.le_refl _) (by omega) (Nat.le_refl _) (fun k hk => absurd hk (by omega)) (fun k h1 h2 => by omega)).symm
      rw [hok]
      have hthr : okCh c → Srt.thr Hd.key ltN c.holds id = decide (i < c.holds.length ∧ (c.holds.getD i default).id = id) := fun h => by rw [Srt.thr, hpos h]; rfl
      have hmon : monS [n] = 0 ↔ n ≤ MM := mon1_0
      have e1 : ∀ h : okCh c, (sumsC c).1 = held c.holds := fun h => by rw [sumsC, if_pos h]
      refine ⟨fun h6 => ⟨h6, fun ho => ⟨fun hn => ⟨fun hm => ⟨fun hop => ⟨fun ht => hbad 6 ?_ (by decide), fun ht _ => ⟨fun h64 => hbad 7 ?_ (by decide), fun h64 => ⟨fun hl => ⟨fun hx => hbad 9 ?_ (by decide), fun hx => ⟨fun hy => hbad 8 ?_ (by decide), fun hy => ⟨by have := ho.2.2.1; omega, ?_⟩⟩⟩, fun hl => hbad 9 ?_ (by decide)⟩⟩⟩, fun hop => hbad 14 ?_ (by decide)⟩, fun hm => hbad 1 ?_ (by decide)⟩, fun hn => hbad 1 ?_ (by decide)⟩, fun ho => hbad 1 ?_ (by decide)⟩,
        fun h6 => ⟨fun ho => ⟨fun hn => ⟨fun hm => ⟨fun hop _ => ⟨fun h64 => hbad 7 ?_ (by decide), fun h64 => ⟨fun hl => ⟨fun hx => hbad 9 ?_ (by decide), fun hx => ⟨fun hy => hbad 8 ?_ (by decide), fun hy => ⟨by have := ho.2.2.1; omega, ?_⟩⟩⟩, fun hl => hbad 9 ?_ (by decide)⟩⟩, fun hop => hbad 14 ?_ (by decide)⟩, fun hm => hbad 1 ?_ (by decide)⟩, fun hn => hbad 1 ?_ (by decide)⟩, fun ho => hbad 1 ?_ (by decide)⟩⟩
      all_goals first | (unfold holdE; rw [if_pos (.inl ho)]; done) | skip
      all_goals first | (unfold holdE; rw [if_pos (.inr (.inl (by omega)))]; done) | skip
      all_goals first | (unfold holdE; rw [if_pos (.inr (.inr fun h => hm (hmon.2 h)))]; done) | skip
      all_goals
        have hA : ¬ (¬ okCh c ∨ n = 0 ∨ ¬ n ≤ MM) := by
          rintro (h | h | h)
          · exact h ho
          · exact hn (by omega)
          · exact h (hmon.1 hm)
        have q4 : held c.holds ≤ c.most := ho.2.2.2.2.2.2.1
        have q2 : c.most ≤ MM := ho.2.1
        have q3 : c.loc ≤ MM := ho.2.2.2.2.2.2.2.1
        have e2 := e1 ho
        unfold MM at q2 q3
      all_goals first | (unfold holdE; rw [if_neg hA, if_pos (by simpa using hop)]; done) | skip
      all_goals have hop' : ¬ c.op = false := by rw [hop]; decide
      all_goals first
        | (unfold holdE; rw [if_neg hA, if_neg hop', if_pos (by rw [hthr ho]; exact decide_eq_true ⟨by omega, by have := cmpS_0.1 ht; omega⟩)]; done)
        | skip
      all_goals
        have ht' : ¬ Srt.thr Hd.key ltN c.holds id = true := by
          rw [hthr ho, decide_eq_true_eq]
          rintro ⟨h1, h2⟩
          first | exact ht (cmpS_0.2 (by omega)) | omega
      all_goals first
        | (unfold holdE; rw [if_neg hA, if_neg hop', if_neg ht', if_pos (by omega)]; done)
        | skip
      all_goals have h64' : ¬ c.holds.length = 64 := by omega
      all_goals first
        | (unfold holdE; rw [if_neg hA, if_neg hop', if_neg ht', if_neg h64', if_pos (.inl (by omega))]; done)
        | (rw [u64_in ((c.loc : Int) - _) (by omega)] at hx; unfold holdE; rw [if_neg hA, if_neg hop', if_neg ht', if_neg h64', if_pos (by omega)]; done)
        | skip
      all_goals
        rw [u64_in ((c.loc : Int) - _) (by omega)] at hx
        have h9' : ¬ (c.loc < c.res ∨ c.loc - c.res < n) := by omega
        rw [e2, u64_in ((c.most : Int) - _) (by omega)] at hy
      all_goals first
        | (unfold holdE; rw [if_neg hA, if_neg hop', if_neg ht', if_neg h64', if_neg h9', if_pos (by omega)]; done)
        | skip
      all_goals
        have h0 : holdE c id n = 0 := by unfold holdE; rw [if_neg hA, if_neg hop', if_neg ht', if_neg h64', if_neg h9', if_neg (by omega)]
        have h20 := ho.2.2.1
        refine ACall.grow (mid := [.int .i64 _]) (hins_ok c.holds ⟨id, n⟩ i (by omega) (by omega)) rfl rfl (by decide) (by simp [Srt.ins_len]) (fun d hd g g' w v hv => ?_) ?_
      all_goals first
        | (simp at hd; subst hd
           cases hv with
           | c _ _ h => cases h; exact .c _ _ (.int _ _))
        | skip
      all_goals
        simp -implicitDefEqProofs only [cdA, go_sem, reduceIte, List.cons.injEq, cdB]
        rw [holdC, if_pos h0, hpos ho, u64_in ((c.loc : Int) - _) (by omega)]
        exact ⟨⟨rfl, by dsimp only; omega, rfl, rfl, rfl, ⟨rfl, _, _, _, rfl⟩, rfl⟩, rfl⟩
def sp_chold : List D → Option (Prop × D × Fr)
  | [.agg [.c (.int .u64 z126), .c (.int .u64 z127), .c (.int .u64 z128), .c (.int .u64 z129), .c (.int .u64 z130), .c (.sl z131), .c (.bool z132)], .c (.int .u64 z133), .c (.int .u64 z134)] => some (z126 = (z126.toNat : Int) ∧ z127 = (z127.toNat : Int) ∧ z128 = (z128.toNat : Int) ∧ z129 = (z129.toNat : Int) ∧ z130 = (z130.toNat : Int) ∧ z131 = hds (dhds z131) ∧ z133 = (z133.toNat : Int) ∧ z134 = (z134.toNat : Int), chold_r (⟨z126.toNat, z127.toNat, z128.toNat, z129.toNat, z130.toNat, (dhds z131), z132⟩ : Ch) z133.toNat z134.toNat, [])
  | _ => none
attribute [go_sem] sp_chold
theorem sp_chold_ok : ∀ rs p r fr, sp_chold rs = some (p, r, fr) → p → FnOk Tryz.prog 93 rs r fr := by
  intro rs p r fr h hp
  unfold sp_chold at h
  split at h <;> cases h
  obtain ⟨hc0, hc1, hc2, hc3, hc4, hc5, hc6, hc7⟩ := hp
  rename_i z126 z127 z128 z129 z130 z131 z132 z133 z134
  obtain ⟨z126, rfl⟩ : ∃ m : Nat, z126 = m := ⟨_, hc0⟩
  obtain ⟨z127, rfl⟩ : ∃ m : Nat, z127 = m := ⟨_, hc1⟩
  obtain ⟨z128, rfl⟩ : ∃ m : Nat, z128 = m := ⟨_, hc2⟩
  obtain ⟨z129, rfl⟩ : ∃ m : Nat, z129 = m := ⟨_, hc3⟩
  obtain ⟨z130, rfl⟩ : ∃ m : Nat, z130 = m := ⟨_, hc4⟩
  obtain ⟨z131, rfl⟩ : ∃ m, z131 = hds m := ⟨_, hc5⟩
  obtain ⟨z133, rfl⟩ : ∃ m : Nat, z133 = m := ⟨_, hc6⟩
  obtain ⟨z134, rfl⟩ : ∃ m : Nat, z134 = m := ⟨_, hc7⟩
  simp only [Int.toNat_natCast, dhds_hds]
  exact chold_ok ⟨z126, z127, z128, z129, z130, z131, z132⟩ z133 z134
end Dm
namespace Dm
open Go Go.Proofs Go.IntWalk
def lholdL (l : List Ch) (id h n : Nat) : List Ch × Int :=
  if okLd l then (if Srt.thr Ch.id ltN l id = true then (if (whereI l h).2 = 0 then ([], 6) else if holdE (l.getD (Srt.pos Ch.id ltN l id) default) h n = 0 then (l.set (Srt.pos Ch.id ltN l id) (holdC (l.getD (Srt.pos Ch.id ltN l id) default) h n).1, 0) else ([], holdE (l.getD (Srt.pos Ch.id ltN l id) default) h n)) else ([], 5)) else ([], 1)
theorem holdC_2 {c : Ch} {id n : Nat} : (holdC c id n).2 = holdE c id n := by
  unfold holdC
  split
  · rename_i h; exact h.symm
  · rfl
@[go_sem] def lhold_r (l : List Ch) (id : Nat) (h : Nat) (n : Nat) : D := .tup [.sl (chs (lholdL l id h n).1), .int .i64 (lholdL l id h n).2]
@[go_sem] abbrev n_lhold : FuncId := 46
@[go_sem] def lhold_T : Tab := [(29, sp_place), (92, sp_lwhere), (93, sp_chold), (77, sp_owns)]
theorem lhold_T_ok : TabOk Tryz.prog lhold_T := (TabOk.cons sp_place_ok (TabOk.cons sp_lwhere_ok (TabOk.cons sp_chold_ok (TabOk.cons sp_owns_ok TabOk.nil))))
set_option maxRecDepth 8000 in
set_option maxHeartbeats 1000000 in
theorem lhold_ok (l : List Ch) (id : Nat) (h : Nat) (n : Nat)  : PureFn Tryz.prog 46 [.sl (chs l), .c (.int .u64 (id : Int)), .c (.int .u64 (h : Int)), .c (.int .u64 (n : Int))] (lhold_r l id h n) := by
  refine .of (ac46 lhold_T_ok (Nat.le_of_ble_eq_true rfl) ?_)
  simp -implicitDefEqProofs only [cdA, go_sem, Go.Proofs.Tryz.f46, reduceIte, List.cons.injEq, cdB]
  refine ac90 lhold_T_ok (Nat.le_of_ble_eq_true rfl) ?_
  simp -implicitDefEqProofs only [cdA, go_sem, Go.Proofs.Tryz.f90, reduceIte, List.cons.injEq, cdB]
  by_cases hok : okLd l
  · by_cases ht : Srt.thr Ch.id ltN l id = true
    · have e1 : placeL l id = (((Srt.pos Ch.id ltN l id : Nat) : Int), 0) := by rw [placeL, if_pos hok, if_pos ht]
      have hp : Srt.pos Ch.id ltN l id < l.length := by
        unfold Srt.thr at ht
        exact (of_decide_eq_true ht).1
      rw [e1, Int.toNat_natCast, lholdL, if_pos hok, if_pos ht]
      refine ⟨fun _ => ⟨⟨by omega, by omega⟩, ?_⟩, fun h => absurd rfl h⟩
      refine ac91 lhold_T_ok (Nat.le_of_ble_eq_true rfl) ?_
      simp -implicitDefEqProofs only [cdA, go_sem, Go.Proofs.Tryz.f91, reduceIte, List.cons.injEq, cdB]
      have h32 : l.length ≤ 1000000 ∧ ∀ c ∈ l, c.holds.length ≤ 1000000 := ⟨by have := hok.1; omega, fun c hc => by have := (hok.2.1 c hc).2.2.1; omega⟩
      refine ⟨fun hw => ⟨fun h6 => absurd h6 (by decide), fun _ => ?_⟩, fun hw => ⟨fun h0 => ?_, fun h0 => ?_⟩⟩
      · rw [if_pos hw]; exact ⟨rfl, rfl⟩
      · rw [holdC_2] at h0
        rw [if_neg hw, if_pos h0]
        exact ⟨h32, by omega, hp, ⟨by simp, _, _, _, rfl⟩, rfl⟩
      · rw [holdC_2] at h0 ⊢
        rw [if_neg hw, if_neg h0]
        exact ⟨rfl, rfl⟩
    · have e1 : placeL l id = (0, 5) := by rw [placeL, if_pos hok, if_neg ht]
      have e2 : lholdL l id h n = ([], 5) := by rw [lholdL, if_pos hok, if_neg ht]
      rw [e1, e2]
      exact ⟨fun h => absurd h (by decide), fun _ => ⟨rfl, rfl⟩⟩
  · have e1 : placeL l id = (0, 1) := by rw [placeL, if_neg hok]
    have e2 : lholdL l id h n = ([], 1) := by rw [lholdL, if_neg hok]
    rw [e1, e2]
    exact ⟨fun h => absurd h (by decide), fun _ => ⟨rfl, rfl⟩⟩
def sp_lhold : List D → Option (Prop × D × Fr)
  | [.c (.sl z135), .c (.int .u64 z136), .c (.int .u64 z137), .c (.int .u64 z138)] => some (z135 = chs (dchs z135) ∧ z136 = (z136.toNat : Int) ∧ z137 = (z137.toNat : Int) ∧ z138 = (z138.toNat : Int), lhold_r (dchs z135) z136.toNat z137.toNat z138.toNat, [])
  | _ => none
attribute [go_sem] sp_lhold
theorem sp_lhold_ok : ∀ rs p r fr, sp_lhold rs = some (p, r, fr) → p → FnOk Tryz.prog 46 rs r fr := by
  intro rs p r fr h hp
  unfold sp_lhold at h
  split at h <;> cases h
  obtain ⟨hc0, hc1, hc2, hc3⟩ := hp
  rename_i z135 z136 z137 z138
  obtain ⟨z135, rfl⟩ : ∃ m, z135 = chs m := ⟨_, hc0⟩
  obtain ⟨z136, rfl⟩ : ∃ m : Nat, z136 = m := ⟨_, hc1⟩
  obtain ⟨z137, rfl⟩ : ∃ m : Nat, z137 = m := ⟨_, hc2⟩
  obtain ⟨z138, rfl⟩ : ∃ m : Nat, z138 = m := ⟨_, hc3⟩
  simp only [Int.toNat_natCast, dchs_chs]
  exact lhold_ok z135 z136 z137 z138
end Dm
namespace Dm
open Go Go.Proofs Go.IntWalk
theorem hold_perm {l : List Hd} {i : Nat} {x : Hd} : List.Perm (Srt.ins l i x) (x :: l) := Srt.ins_perm
theorem split_at {l : List Ch} {p : Nat} (hp : p < l.length) : l = l.take p ++ l.getD p default :: l.drop (p + 1) := by
  rw [getD_lt hp, List.getElem_cons_drop, List.take_append_drop]
theorem split_set {l : List Ch} {p : Nat} {d : Ch} (hp : p < l.length) : l.set p d = l.take p ++ d :: l.drop (p + 1) := by
  rw [List.set_eq_take_append_cons_drop, if_pos hp]
theorem hidL_set {l : List Ch} {p : Nat} {d : Ch} {x : Hd} (hp : p < l.length) (hd : d.holds.Perm (x :: (l.getD p default).holds)) : (hidL (l.set p d)).Perm (x.id :: hidL l) := by
  conv => rhs; rw [split_at hp]
  rw [split_set hp]
  simp only [hidL, List.flatMap_append, List.flatMap_cons]
  have h1 := hd.map Hd.id
  rw [List.map_cons] at h1
  refine (List.Perm.append_left _ (h1.append_right _)).trans ?_
  exact List.perm_middle
theorem held_ins {l : List Hd} {i : Nat} {x : Hd} : held (Srt.ins l i x) = x.n + held l := by
  unfold held
  rw [((hold_perm (l := l) (i := i) (x := x)).map Hd.n).sum_nat, List.map_cons, List.sum_cons]
theorem totL_set {l : List Ch} {p : Nat} {d : Ch} (hp : p < l.length) (hd : allC d = allC (l.getD p default)) : totL (l.set p d) = totL l := by
  conv => rhs; rw [split_at hp]
  rw [split_set hp]
  simp only [totL, List.map_append, List.map_cons, List.sum_append, List.sum_cons, hd]
theorem hold_okCh {c : Ch} {h n : Nat} (he : holdE c h n = 0) (hok : okCh c) : okCh (holdC c h n).1 ∧ allC (holdC c h n).1 = allC c := by
  have e : holdC c h n = (⟨c.id, c.loc - n, c.rem, c.res, c.most, Srt.ins c.holds (Srt.pos Hd.key ltN c.holds h) ⟨h, n⟩, c.op⟩, 0) := by rw [holdC, if_pos he]
  obtain ⟨o1, o2, o3, o4, o5, o6, o7, o8, o9, o10⟩ := hok
  have hok : okCh c := ⟨o1, o2, o3, o4, o5, o6, o7, o8, o9, o10⟩
  unfold holdE at he
  split at he
  · cases he
  split at he
  · cases he
  split at he
  · cases he
  split at he
  · cases he
  split at he
  · cases he
  split at he
  · cases he
  rename_i h1 h2 h3 h4 h5 h6
  have hn0 : n ≠ 0 := fun h => h1 (.inr (.inl h))
  have h7 := held_ins (l := c.holds) (i := Srt.pos Hd.key ltN c.holds h) (x := ⟨h, n⟩)
  have hu : Srt.Up Hd.key ltN c.holds := (Srt.chn_up (lt := ltN) Srt.totNat).1 o6
  have hle : n ≤ c.loc := by omega
  have hnew : okCh (holdC c h n).1 := by
    rw [e]
    refine ⟨o1, o2, ?_, fun hop => absurd hop h2, fun y hy => ?_, ?_, ?_, ?_, o9, ?_⟩
    · dsimp only; rw [Srt.ins_len]; omega
    · rcases List.mem_cons.1 (hold_perm.mem_iff.1 hy) with rfl | hy
      · exact hn0
      · exact o5 y hy
    · exact (Srt.chn_up (lt := ltN) Srt.totNat).2 (Srt.ins_up (x := (⟨h, n⟩ : Hd)) (Srt.totNat) hu h3)
    · dsimp only; rw [h7]; dsimp only; omega
    · dsimp only; omega
    · dsimp only; rw [h7]; dsimp only; omega
  refine ⟨hnew, ?_⟩
  have a1 : allC c = held c.holds + c.loc + c.rem := by unfold allC sumsC; rw [if_pos hok]
  have a2 : allC (holdC c h n).1 = held (holdC c h n).1.holds + (holdC c h n).1.loc + (holdC c h n).1.rem := by unfold allC sumsC; rw [if_pos hnew]
  rw [a1, a2, e]
  dsimp only
  rw [h7]; dsimp only; omega
theorem where_0 {l : List Ch} {h : Nat} (hok : okLd l) : (whereI l h).2 = 0 ↔ h ∈ hidL l := by
  have hnd : ((hm 0 l).map (·.1)).Nodup := by rw [hm_keys]; exact hok.2.2.2.1
  rw [whereI, if_pos hok]
  constructor
  · cases hx : nlk h (hm 0 l) with
    | none => intro h; cases h
    | some i =>
      intro _
      have := (nlk_some hnd).1 hx
      rw [← hm_keys (s := 0)]
      exact List.mem_map.2 ⟨_, this, rfl⟩
  · intro hh
    rw [← hm_keys (s := 0)] at hh
    obtain ⟨⟨k, a⟩, h1, h2⟩ := List.mem_map.1 hh
    dsimp only at h2
    subst h2
    rw [(nlk_some hnd).2 h1]
end Dm
namespace Dm
open Go Go.Proofs Go.IntWalk
theorem lhold_at {l : List Ch} {id h n : Nat} (h0 : (lholdL l id h n).2 = 0) : okLd l ∧ ∃ c ∈ l, c.id = id ∧ Srt.pos Ch.id ltN l id < l.length ∧ l.getD (Srt.pos Ch.id ltN l id) default = c ∧ h ∉ hidL l ∧ holdE c h n = 0 ∧ lholdL l id h n = (l.set (Srt.pos Ch.id ltN l id) (holdC c h n).1, 0) := by
  by_cases hok : okLd l
  · by_cases ht : Srt.thr Ch.id ltN l id = true
    · by_cases hw : (whereI l h).2 = 0
      · rw [lholdL, if_pos hok, if_pos ht, if_pos hw] at h0; cases h0
      · by_cases he : holdE (l.getD (Srt.pos Ch.id ltN l id) default) h n = 0
        · have h2 := ht
          unfold Srt.thr at h2
          obtain ⟨hp, hpi⟩ := of_decide_eq_true h2
          refine ⟨hok, _, mem_getD.2 ⟨_, hp, rfl⟩, hpi, hp, rfl, fun h => hw ((where_0 hok).2 h), he, ?_⟩
          rw [lholdL, if_pos hok, if_pos ht, if_neg hw, if_pos he]
        · rw [lholdL, if_pos hok, if_pos ht, if_neg hw, if_neg he] at h0; exact absurd h0 he
    · rw [lholdL, if_pos hok, if_neg ht] at h0; cases h0
  · rw [lholdL, if_neg hok] at h0; cases h0
theorem lhold_fine {l : List Ch} {id h n : Nat} (h0 : (lholdL l id h n).2 = 0) : okLd (lholdL l id h n).1 := by
  obtain ⟨hok, c, hc, hid, hp, hcp, hw, he, e⟩ := lhold_at h0
  have hu : Srt.Up Ch.id ltN l := (Srt.chn_up (lt := ltN) Srt.totNat).1 hok.2.2.1
  obtain ⟨hok', hall⟩ := hold_okCh he (hok.2.1 c hc)
  have eid : (holdC c h n).1.id = c.id := by rw [holdC, if_pos he]
  have ehl : (holdC c h n).1.holds.Perm (⟨h, n⟩ :: c.holds) := by rw [holdC, if_pos he]; exact hold_perm
  generalize Srt.pos Ch.id ltN l id = p at *
  have hpm := hidL_set (l := l) (p := p) (d := (holdC c h n).1) (x := ⟨h, n⟩) hp (by rw [hcp]; exact ehl)
  rw [e]
  refine ⟨by rw [List.length_set]; exact hok.1, fun d hd => ?_, ?_, ?_, ?_⟩
  · rcases List.mem_or_eq_of_mem_set hd with h | rfl
    · exact hok.2.1 d h
    · exact hok'
  · exact (Srt.chn_up (lt := ltN) Srt.totNat).2 (Srt.set_up hu hp (by rw [hcp]; exact eid))
  · rw [hpm.nodup_iff, List.nodup_cons]; exact ⟨hw, hok.2.2.2.1⟩
  · rw [totL_set hp (by rw [hcp]; exact hall)]; exact hok.2.2.2.2
theorem start_len {l : List Py} {p : Py} : (startP l p).1.length ≤ 257 := by
  unfold startP
  split
  · simp
  · rename_i hA
    have hok : okPy l := Decidable.byContradiction fun h => hA (.inl h)
    have := hok.1
    split
    · simp
    · split
      · split
        · simp
        · rename_i k hk
          dsimp only
          have hkl : k < l.length := by
            unfold idle at hk
            exact (List.findIdx?_eq_some_iff_getElem.1 hk).1
          rw [Srt.ins_len, List.length_eraseIdx_of_lt hkl]; omega
      · dsimp only
        rw [Srt.ins_len]; omega
theorem add_len {f : Fd} {k : Int} {a n : Nat} : (addF f k a n).1.l.length ≤ 64 := by
  unfold addF
  split
  · rename_i h
    have := h.1.2.2.1
    split
    · simp
    · dsimp only
      rw [List.length_drop, List.length_append, List.length_singleton]; omega
  · simp
theorem small_ok {w : Wl} (h : okW w) : smallW w := by
  obtain ⟨h1, h2, h3, h4, _⟩ := h
  have h7 := h3.2.2.1
  refine ⟨by have := h1.1; omega, fun c hc => by have := (h1.2.1 c hc).2.2.1; omega, by omega, by have := h2.1; omega, ?_, by omega⟩
  rename_i h8
  have h9 := h8.2.2.2
  have : okPy w.p := by
    unfold agrL at h9
    split at h9
    · rename_i h; exact h.1
    · cases h9
  have := this.1; omega
end Dm
