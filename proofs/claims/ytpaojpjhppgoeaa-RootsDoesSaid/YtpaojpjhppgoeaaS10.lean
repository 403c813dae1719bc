import Derived.Test.YtpaojpjhppgoeaaS9
set_option linter.unusedSimpArgs false
set_option linter.unusedVariables false
/-! Soundness, tenth part: a region; code; a function. -/
namespace Dm
open Go
section
variable {δ : List Deferred} {P : Program} {T : Tab} {g g' g'' : G} {s s' s'' : St} {a : Act} {w w' w'' : World} {n N : Nat}

theorem Step.toN (h : Step g s w g' s' w') : StepN N g s w g' s' w' := ⟨fun id b _ => h.le.ρ id b, fun id a l c _ => h.le.κ id a l c, h.le.I, h.size, h.same, h.own, h.imm, h.env⟩
theorem StepN.refl (N : Nat) (g : G) (s : St) (w : World) : StepN N g s w g s w := (Step.refl g s w).toN
theorem StepN.trans (h : StepN N g s w g' s' w') (h' : StepN N g' s' w' g'' s'' w'') : StepN N g s w g'' s'' w'' where
  ρ id b hid hb := h'.ρ id b hid (h.ρ id b hid hb)
  κ id x l c hid hk := by
    obtain ⟨a', l', c', h1, h2, h3⟩ := h.κ id x l c hid hk
    obtain ⟨a'', l'', c'', h4, h5, h6⟩ := h'.κ id a' l' c' hid h1
    refine ⟨a'', l'', c'', h4, Nat.le_trans h2 h5, fun e => ?_⟩
    have e1 : l = l' := by omega
    have e2 : l' = l'' := by omega
    exact ⟨(h3 e1).1.trans (h6 e2).1, (h3 e1).2.trans (h6 e2).2⟩
  I b hb := h'.I b (h.I b hb)
  size := Nat.le_trans h.size h'.size
  same b hb ho := (h'.same b (Nat.lt_of_lt_of_le hb h.size) (h.own b hb ho)).trans (h.same b hb ho)
  own b hb ho := h'.own b (Nat.lt_of_lt_of_le hb h.size) (h.own b hb ho)
  imm b hb ho hi := h.imm b hb ho (h'.imm b (Nat.lt_of_lt_of_le hb h.size) (h.own b hb ho) hi)
  env := h.env.trans h'.env
/-- Of a state that has no objects from N on, all are looked at. -/
theorem StepN.step (h : StepN N g s w g' s' w') (ho : RelO g s w) (hN : s.nx ≤ N) : Step g s w g' s' w' where
  le := by
    refine ⟨fun id b hb => h.ρ id b ?_ hb, fun id a l c hk => h.κ id a l c ?_ hk, h.I⟩
    · rcases Nat.lt_or_ge id N with h1 | h1
      · exact h1
      · rw [(ho.fresh id (by omega)).1] at hb; cases hb
    · rcases Nat.lt_or_ge id N with h1 | h1
      · exact h1
      · rw [(ho.fresh id (by omega)).2] at hk; cases hk
  size := h.size
  same := h.same
  own := h.own
  imm := h.imm
  env := h.env
theorem StepN.tm {tm tm' : List (Nat × D)} (h : StepN N g s w g' s' w') : StepN N g ⟨tm, s.os, s.nx⟩ w g' ⟨tm', s'.os, s'.nx⟩ w' := ⟨h.ρ, h.κ, h.I, h.size, h.same, h.own, h.imm, h.env⟩

theorem Rel.rep (hr : Rel δ g s a w) {t : Nat} {b : Bool} (hv : a.tmps[t]? = some (.bool b)) : Rel δ g (s.rep (some t) (.bool b)) a w := by
  refine ⟨fun u d hu => ?_, hr.defers, hr.o.tm⟩
  simp only [St.rep, lk_upd] at hu
  split at hu
  · rename_i hc
    cases hu
    rw [hc.1]
    exact ⟨_, hv, .c _ _ (.bool _)⟩
  · exact hr.tm u d hu

theorem Rel.bool_at (hr : Rel δ g s a w) {t : Nat} {b : Bool} (h : s.get t = .bool b) : a.tmps[t]? = some (.bool b) := by
  unfold St.get at h
  cases hl : lk t s.tm with
  | none => rw [hl] at h; cases h
  | some d =>
    rw [hl] at h
    obtain ⟨v, h1, h2⟩ := hr.tm t d hl
    have e : d = .bool b := h
    rw [e] at h2
    rw [h1, h2.bool_inv]
theorem Rel.skip_at (hr : Rel δ g s a w) {t : Nat} (h : s.get t = .skip) : a.tmps[t]? = some Go.undef := by
  unfold St.get at h
  cases hl : lk t s.tm with
  | none => rw [hl] at h; cases h
  | some d =>
    rw [hl] at h
    obtain ⟨v, h1, h2⟩ := hr.tm t d hl
    have e : d = .skip := h
    rw [e] at h2
    cases h2
    exact h1

theorem yielded_gtmp (all : Array Oper) (tmps : Array Value) (j : Nat) : yielded all tmps j = match (gtmp all j).bind (tmps[·]?) with | some (.bool b) => some b | _ => none := by
  unfold yielded gtmp
  cases all[j]? with
  | none => rfl
  | some o => rfl

theorem aops_sound (hT : TabS P T) (all : Array Oper) : ∀ (l : List Oper) {g : G} {s : St} {a : Act} {w : World} {K : St → Prop} {Q : Exit → Act → World → Prop}, (∀ o ∈ l, dstOk1 n o = true) → aops P T all l s K → Rel δ g s a w → a.tmps.size = n →
    (∀ a' w', Aft δ n g s w K a' w' → Q .normal a' w') → wpList P all Q l a w
  | [], g, s, a, w, K, Q, _, h, hr, hn, hQ => hQ _ _ ⟨g, s, h, hr, hn, .refl _ _ _⟩
  | o :: rest, g, s, a, w, K, Q, hd, h, hr, hn, hQ => by
    have hdo : ∀ x, o.dst = some x → x < n := fun x hx => by
      have := hd o (by simp)
      unfold dstOk1 at this
      rw [hx] at this
      simpa using this
    have hrest : ∀ o ∈ rest, dstOk1 n o = true := fun o ho => hd o (by simp [ho])
    -- the operation is carried out
    have go : ∀ {s1 : St}, Rel δ g s1 a w → Step g s w g s1 w → Region.wanted o (yielded all a.tmps) = true → aop P T o s1 (fun s' => aops P T all rest s' K) → wpList P all Q (o :: rest) a w := by
      intro s1 hr1 hst hw hop
      have := aop_sound hT o hdo hop hr1 hn Q
      simp only [wpList, hw, if_true]
      refine .inl (Go.Oper.wp_mono (fun a' w' haft => ?_) this)
      obtain ⟨g', s', hK, hr', hn', hst'⟩ := haft
      exact aops_sound hT all rest hrest hK hr' hn' fun a'' w'' ⟨g'', s'', h1, h2, h3, h4⟩ => hQ _ _ ⟨g'', s'', h1, h2, h3, (hst.trans hst').trans h4⟩
    -- it is passed over
    have past : ∀ {s1 : St}, Rel δ g s1 a w → Step g s w g s1 w → Region.wanted o (yielded all a.tmps) = false → aops P T all rest (s1.put o.dst .skip) K → wpList P all Q (o :: rest) a w := by
      intro s1 hr1 hst hw hop
      simp only [wpList, hw, Bool.false_eq_true, if_false]
      refine aops_sound hT all rest hrest hop (hr1.put o.dst .skip (fun x hx => by rw [hn]; exact hdo x hx)) (by rw [put_size, hn]) fun a'' w'' ⟨g'', s'', h1, h2, h3, h4⟩ => hQ _ _ ⟨g'', s'', h1, h2, h3, (hst.trans (Step.put _)).trans h4⟩
    have hrep : ∀ (t : Option Nat) (d : D), Step g s w g (s.rep t d) w := fun t d => by cases t <;> exact ⟨.refl g, Nat.le_refl _, fun _ _ _ => rfl, fun _ _ h => h, fun _ _ _ h => h, .refl w⟩
    simp only [aops] at h
    split at h
    · rename_i hg
      exact go hr (.refl _ _ _) (by simp [Region.wanted, hg]) h
    · rename_i j want hg
      have hwant : Region.wanted o (yielded all a.tmps) = (yielded all a.tmps j == some want) := by simp [Region.wanted, hg]
      unfold grd at h
      split at h
      · rename_i b hb
        cases ht : gtmp all j with
        | none => rw [ht] at hb; cases hb
        | some t =>
          rw [ht] at hb h
          have hv := hr.bool_at hb
          have hy : yielded all a.tmps j = some b := by rw [yielded_gtmp, ht]; simp [hv]
          rw [hy] at hwant
          by_cases hbw : b = want
          · subst hbw
            exact go (hr.rep hv) (hrep _ _) (by rw [hwant]; simp) (h.1 rfl)
          · have hbw' : b = !want := by cases b <;> cases want <;> simp_all
            have h2 := h.2 hbw'
            rw [← hbw'] at h2
            exact past (hr.rep hv) (hrep _ _) (by rw [hwant]; simp [hbw]) h2
      · rename_i hb
        cases ht : gtmp all j with
        | none => rw [ht] at hb; cases hb
        | some t =>
          rw [ht] at hb
          have hv := hr.skip_at hb
          have hy : yielded all a.tmps j = none := by rw [yielded_gtmp, ht]; simp [hv, Go.undef]
          rw [hy] at hwant
          exact past hr (.refl _ _ _) (by rw [hwant]; rfl) h
      · cases h

theorem lk_prune (l : List Nat) (tm : List (Nat × D)) (t : Nat) (d : D) (h : lk t (l.filterMap fun t => match lk t tm with | some d => some (t, d) | none => none) = some d) : lk t tm = some d := by
  induction l with
  | nil => cases h
  | cons u l ih =>
    simp only [List.filterMap_cons] at h
    split at h
    · exact ih h
    · rename_i x hx
      split at hx
      · rename_i e he
        cases hx
        simp only [lk_cons] at h
        split at h
        · rename_i htu; subst htu; cases h; exact he
        · exact ih h
      · cases hx

theorem Rel.prune (hr : Rel δ g s a w) (l : Option (List Nat)) : Rel δ g (s.prune l) a w := by
  cases l with
  | none => exact hr
  | some l => exact ⟨fun t d h => hr.tm t d (lk_prune l _ t d h), hr.defers, hr.o.tm⟩
theorem Step.prune (l : Option (List Nat)) : Step g s w g (s.prune l) w := by
  cases l <;> exact ⟨.refl g, Nat.le_refl _, fun _ _ _ => rfl, fun _ _ h => h, fun _ _ _ h => h, .refl w⟩

theorem awp_sound (hT : TabS P T) (lv : Nat → Option (List Nat)) : ∀ (c : Code) (Q : Exit → St → Prop) (s : St), dstOk n c = true → awp P T n N lv c Q s → SWp P n N c Q s
  | .skip, Q, s, _, h => fun δ g a w hr hn => wp_skip ⟨g, s, h, hr, hn, .refl _ _ _ _⟩
  | .label l, Q, s, _, h => fun δ g a w hr hn => wp_label ⟨g, s, h, hr, hn, .refl _ _ _ _⟩
  | .exit id, Q, s, _, h => fun δ g a w hr hn => wp_exit ⟨g, s, h, hr, hn, .refl _ _ _ _⟩
  | .ret, Q, s, _, h => fun δ g a w hr hn => wp_ret ⟨g, s, h, hr, hn, .refl _ _ _ _⟩
  | .region i ops false, Q, s, hd, h => fun δ g a w hr hn => by
    refine wp_region_list (aops_sound hT ops ops.toList (fun o ho => List.all_eq_true.1 hd o ho) h hr hn fun a' w' ⟨g', s', h1, h2, h3, h4⟩ => ?_)
    exact ⟨g', _, h1, h2.prune _, h3, (h4.trans (Step.prune _)).toN⟩
  | .region i ops true, Q, s, hd, h => fun δ g a w hr hn => by
    refine wp_mono (h δ g a w hr hn) fun e a' w' ⟨g', s', h1, h2, h3, h4⟩ => ?_
    cases e with
    | normal => exact ⟨g', _, h1, h2.prune _, h3, h4.trans (Step.prune _).toN⟩
    | _ => exact ⟨g', s', h1, h2, h3, h4⟩
  | .seq x y, Q, s, hd, h => fun δ g a w hr hn => by
    simp only [dstOk, Bool.and_eq_true] at hd
    refine wp_seq (wp_mono (awp_sound hT lv x _ s hd.1 h δ g a w hr hn) fun e a' w' ⟨g', s', h1, h2, h3, h4⟩ => ?_)
    cases e with
    | normal => exact wp_mono (awp_sound hT lv y Q s' hd.2 h1 δ g' a' w' h2 h3) fun e a'' w'' ⟨g'', s'', h5, h6, h7, h8⟩ => ⟨g'', s'', h5, h6, h7, h4.trans h8⟩
    | _ => exact ⟨g', s', h1, h2, h3, h4⟩
  | .cond c x y, Q, s, hd, h => fun δ g a w hr hn => by
    simp only [dstOk, Bool.and_eq_true] at hd
    unfold awp cd at h
    split at h
    · rename_i b hb
      have hc := hr.ev c
      rw [hb] at hc
      refine wp_cond hc.bool_inv ?_
      cases b with
      | true => exact awp_sound hT lv x Q s hd.1 (h.1 rfl) δ g a w hr hn
      | false => exact awp_sound hT lv y Q s hd.2 (h.2 rfl) δ g a w hr hn
    · cases h
  | .block id c, Q, s, hd, h => fun δ g a w hr hn => by
    refine wp_block (wp_mono (awp_sound hT lv c _ s hd h δ g a w hr hn) fun e a' w' ⟨g', s', h1, h2, h3, h4⟩ => ?_)
    cases e with
    | exit i =>
      simp only [bl] at h1
      simp only [Exit.inBlock]
      split
      · rename_i hi
        rw [if_pos hi] at h1
        exact ⟨g', s', h1, h2, h3, h4⟩
      · rename_i hi
        rw [if_neg hi] at h1
        exact ⟨g', s', h1, h2, h3, h4⟩
    | _ => exact ⟨g', s', h1, h2, h3, h4⟩
  | .loop c, Q, s, _, h => h
  | .rangeFunc .., Q, s, _, h => h
  | .scope c, Q, s, _, h => h
  | .goto l, Q, s, _, h => h
  | .refuse w, Q, s, _, h => h
end
end Dm
