import Derived.Test.YtpaojpjhppgoeaaS15
import Derived.RangeFuncNested
import Derived.RangeFuncLeaves
import Derived.TacticsIn
set_option linter.unusedSimpArgs false
set_option linter.unusedVariables false
/-! Code in a round of a range over a function. -/
namespace Dm
open Go
section
variable {δ : List Deferred} {P : Program} {T : Tab} {g g' g'' : G} {s s' s'' : St} {a : Act} {w w' w'' : World} {n N : Nat}

theorem callsIn_round {l m : Nat} {f : FuncId} {args : Array Value} {R : Ending → World → Prop} (h : Calls P f args w R) : CallsIn (Fence.wide.inRound l) m P f args w R :=
  CallsIn.inRound l (callsIn_wide.2 h)

/-- An operation that is no defer, in a round. -/
theorem op_in {l m : Nat} {o : Oper} {K : Act → World → Prop} {Q : Exit → Act → World → Prop} (hd : ∀ c, o.op ≠ .defer c) (h : o.wp P a w K Q) : o.wpIn (Fence.wide.inRound l) m P a w K Q := by
  refine ⟨fun f _ => trivial, ?_⟩
  rw [Fence.inRound_round, Oper.semAt_some l _ _ hd]
  unfold Oper.wp at h
  generalize (execOp a.eval o).run P w = r at h ⊢
  cases r with
  | ok nx w' =>
    cases nx with
    | value v => exact h
    | skip => exact h
    | defer d => exact h
    | enter f args => exact ⟨fun hh => by simp [Fence.inRound, Fence.wide] at hh, callsIn_round h⟩
    | row r args => exact ⟨fun hh => by simp [Fence.inRound, Fence.wide] at hh, fun c cs hr => by
        obtain ⟨v, w'', h1, h2⟩ := h c cs
        exact ⟨v, w'', h1, stepsIn_wide.2 h2⟩⟩
    | _ => exact h.elim
  | halt x w' => cases x <;> exact h

theorem aop_noDefer {o : Oper} {K : St → Prop} (h : aop P T o s K) : ∀ c, o.op ≠ .defer c := by
  intro c hc
  unfold aop at h
  rw [hc] at h
  exact h

theorem aops_in (hT : TabS P T) (all : Array Oper) {l m : Nat} : ∀ (ops : List Oper) {g : G} {s : St} {a : Act} {w : World} {K : St → Prop} {Q : Exit → Act → World → Prop}, (∀ o ∈ ops, dstOk1 n o = true) → aops P T all ops s K → Rel δ g s a w → a.tmps.size = n →
    (∀ a' w', Aft δ n g s w K a' w' → Q .normal a' w') → wpListIn (Fence.wide.inRound l) m P all Q ops a w
  | [], g, s, a, w, K, Q, _, h, hr, hn, hQ => hQ _ _ ⟨g, s, h, hr, hn, .refl _ _ _⟩
  | o :: rest, g, s, a, w, K, Q, hd, h, hr, hn, hQ => by
    have hdo : ∀ x, o.dst = some x → x < n := fun x hx => by
      have := hd o (by simp)
      unfold dstOk1 at this
      rw [hx] at this
      simpa using this
    have hrest : ∀ o ∈ rest, dstOk1 n o = true := fun o ho => hd o (by simp [ho])
    have go : ∀ {s1 : St}, Rel δ g s1 a w → Step g s w g s1 w → Region.wanted o (yielded all a.tmps) = true → aop P T o s1 (fun s' => aops P T all rest s' K) → wpListIn (Fence.wide.inRound l) m P all Q (o :: rest) a w := by
      intro s1 hr1 hst hw hop
      have := aop_sound hT o hdo hop hr1 hn Q
      simp only [wpListIn, hw, if_true]
      refine op_in (aop_noDefer hop) (Go.Oper.wp_mono (fun a' w' haft => ?_) this)
      obtain ⟨g', s', hK, hr', hn', hst'⟩ := haft
      exact aops_in hT all rest hrest hK hr' hn' fun a'' w'' ⟨g'', s'', h1, h2, h3, h4⟩ => hQ _ _ ⟨g'', s'', h1, h2, h3, (hst.trans hst').trans h4⟩
    have past : ∀ {s1 : St}, Rel δ g s1 a w → Step g s w g s1 w → Region.wanted o (yielded all a.tmps) = false → aops P T all rest (s1.put o.dst .skip) K → wpListIn (Fence.wide.inRound l) m P all Q (o :: rest) a w := by
      intro s1 hr1 hst hw hop
      simp only [wpListIn, hw, Bool.false_eq_true, if_false]
      refine ⟨fun f _ => trivial, aops_in hT all rest hrest hop (hr1.put o.dst .skip (fun x hx => by rw [hn]; exact hdo x hx)) (by rw [put_size, hn]) fun a'' w'' ⟨g'', s'', h1, h2, h3, h4⟩ => hQ _ _ ⟨g'', s'', h1, h2, h3, (hst.trans (Step.put _)).trans h4⟩⟩
    have hrep : ∀ (t : Option Nat) (d : D), Step g s w g (s.rep t d) w := fun t d => by cases t <;> exact ⟨.refl g, Nat.le_refl _, fun _ _ _ => rfl, fun _ _ h => h, fun _ _ _ h => h, .refl w⟩
    simp only [aops] at h
    split at h
    · rename_i hg
      exact go hr (.refl _ _ _) (by simp [Region.wanted, hg]) h
    · rename_i j want hg
      have hwant : Region.wanted o (yielded all a.tmps) = (yielded all a.tmps j == some want) := by simp [Region.wanted, hg]
      unfold grd at h
      split at h
      · rename_i b hb
        cases ht : gtmp all j with
        | none => rw [ht] at hb; cases hb
        | some t =>
          rw [ht] at hb h
          have hv := hr.bool_at hb
          have hy : yielded all a.tmps j = some b := by rw [yielded_gtmp, ht]; simp [hv]
          rw [hy] at hwant
          by_cases hbw : b = want
          · subst hbw
            exact go (hr.rep hv) (hrep _ _) (by rw [hwant]; simp) (h.1 rfl)
          · have hbw' : b = !want := by cases b <;> cases want <;> simp_all
            have h2 := h.2 hbw'
            rw [← hbw'] at h2
            exact past (hr.rep hv) (hrep _ _) (by rw [hwant]; simp [hbw]) h2
      · rename_i hb
        cases ht : gtmp all j with
        | none => rw [ht] at hb; cases hb
        | some t =>
          rw [ht] at hb
          have hv := hr.skip_at hb
          have hy : yielded all a.tmps j = none := by rw [yielded_gtmp, ht]; simp [hv, Go.undef]
          rw [hy] at hwant
          exact past hr (.refl _ _ _) (by rw [hwant]; rfl) h
      · cases h

/-- Code without loops and without regions that draw. -/
def plainC : Code → Bool
  | .skip => true
  | .label _ => true
  | .region _ _ b => !b
  | .seq a b => plainC a && plainC b
  | .cond _ a b => plainC a && plainC b
  | .block _ c => plainC c
  | .exit _ => true
  | .ret => true
  | _ => false

theorem awp_in (hT : TabS P T) {l m : Nat} (lv : Nat → Option (List Nat)) : ∀ (c : Code) (Q : Exit → St → Prop) (s : St), plainC c = true → dstOk n c = true → awp P T n N lv c Q s → ∀ (g : G) (a : Act) (w : World), Rel δ g s a w → a.tmps.size = n →
    c.wpIn (Fence.wide.inRound l) m P (fun e a' w' => ∃ g' s', Q e s' ∧ Rel δ g' s' a' w' ∧ a'.tmps.size = n ∧ StepN N g s w g' s' w') a w
  | .skip, Q, s, _, _, h => fun g a w hr hn => wpIn_skip ⟨g, s, h, hr, hn, .refl _ _ _ _⟩
  | .label l, Q, s, _, _, h => fun g a w hr hn => wpIn_label ⟨g, s, h, hr, hn, .refl _ _ _ _⟩
  | .exit id, Q, s, _, _, h => fun g a w hr hn => wpIn_exit ⟨g, s, h, hr, hn, .refl _ _ _ _⟩
  | .ret, Q, s, _, _, h => fun g a w hr hn => wpIn_ret ⟨g, s, h, hr, hn, .refl _ _ _ _⟩
  | .region i ops false, Q, s, _, hd, h => fun g a w hr hn => by
    refine wpIn_region_list (aops_in hT ops ops.toList (fun o ho => List.all_eq_true.1 hd o ho) h hr hn fun a' w' ⟨g', s', h1, h2, h3, h4⟩ => ?_)
    exact ⟨g', _, h1, h2.prune _, h3, (h4.trans (Step.prune _)).toN⟩
  | .region i ops true, Q, s, hp, hd, h => by cases hp
  | .seq x y, Q, s, hp, hd, h => fun g a w hr hn => by
    simp only [dstOk, plainC, Bool.and_eq_true] at hd hp
    refine wpIn_seq (wpIn_mono (awp_in hT lv x _ s hp.1 hd.1 h g a w hr hn) fun e a' w' ⟨g', s', h1, h2, h3, h4⟩ => ?_)
    cases e with
    | normal => exact wpIn_mono (awp_in hT lv y Q s' hp.2 hd.2 h1 g' a' w' h2 h3) fun e a'' w'' ⟨g'', s'', h5, h6, h7, h8⟩ => ⟨g'', s'', h5, h6, h7, h4.trans h8⟩
    | _ => exact ⟨g', s', h1, h2, h3, h4⟩
  | .cond c x y, Q, s, hp, hd, h => fun g a w hr hn => by
    simp only [dstOk, plainC, Bool.and_eq_true] at hd hp
    unfold awp cd at h
    split at h
    · rename_i b hb
      have hc := hr.ev c
      rw [hb] at hc
      refine wpIn_cond hc.bool_inv ?_
      cases b with
      | true => exact awp_in hT lv x Q s hp.1 hd.1 (h.1 rfl) g a w hr hn
      | false => exact awp_in hT lv y Q s hp.2 hd.2 (h.2 rfl) g a w hr hn
    · cases h
  | .block id c, Q, s, hp, hd, h => fun g a w hr hn => by
    refine wpIn_block (wpIn_mono (awp_in hT lv c _ s hp hd h g a w hr hn) fun e a' w' ⟨g', s', h1, h2, h3, h4⟩ => ?_)
    cases e with
    | exit i =>
      simp only [bl] at h1
      simp only [Exit.inBlock]
      split
      · rename_i hi
        rw [if_pos hi] at h1
        exact ⟨g', s', h1, h2, h3, h4⟩
      · rename_i hi
        rw [if_neg hi] at h1
        exact ⟨g', s', h1, h2, h3, h4⟩
    | _ => exact ⟨g', s', h1, h2, h3, h4⟩
  | .loop c, Q, s, hp, _, h => by cases hp
  | .rangeFunc .., Q, s, hp, _, h => by cases hp
  | .scope c, Q, s, hp, _, h => by cases hp
  | .goto l, Q, s, hp, _, h => by cases hp
  | .refuse w, Q, s, hp, _, h => by cases hp
end
end Dm
