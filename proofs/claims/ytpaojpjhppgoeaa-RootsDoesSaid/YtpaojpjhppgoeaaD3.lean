import Derived.Test.YtpaojpjhppgoeaaD2
set_option linter.unusedSimpArgs false
set_option linter.unusedVariables false
/-! A region whose order is drawn, by any order. -/
namespace Dm
open Go
section
variable {δ : List Deferred} {P : Program} {T : Tab} {all : Array Oper} {g g' : G} {s s' s'' e : St} {a a' : Act} {w w' : World} {n N : Nat} {F F' : Nat → Prop}

theorem own_eqv (h : Eqv s s') {b : Nat} : Own g s b ↔ Own g s' b := ⟨fun ⟨i, o, h1, h2⟩ => ⟨i, o, by rw [← h.2]; exact h1, h2⟩, fun ⟨i, o, h1, h2⟩ => ⟨i, o, by rw [h.2]; exact h1, h2⟩⟩
theorem RelP.eqv (hr : RelP F δ g s a w) (h : Eqv s s') : RelP F δ g s' a w :=
  ⟨fun t d ht => hr.tm t d (by rw [h.1]; exact ht), hr.defers, ⟨fun i o hi => hr.o.ok i o (by rw [h.2]; exact hi), fun i o i' o' b h1 h2 => hr.o.apart i o i' o' b (by rw [h.2]; exact h1) (by rw [h.2]; exact h2), hr.o.fresh,
    fun b hb => ⟨(hr.o.imm b hb).1, fun ho => (hr.o.imm b hb).2 ((own_eqv h).2 ho)⟩, hr.o.cel⟩⟩
theorem Step.eqv (h : ∀ id, lk id s.os = lk id s'.os) : Step g s w g s' w := by
  have h' : ∀ b, Own g s b ↔ Own g s' b := fun b => ⟨fun ⟨i, o, h1, h2⟩ => ⟨i, o, by rw [← h]; exact h1, h2⟩, fun ⟨i, o, h1, h2⟩ => ⟨i, o, by rw [h]; exact h1, h2⟩⟩
  exact ⟨.refl g, Nat.le_refl _, fun _ _ _ => rfl, fun b _ ho hh => ho ((h' b).2 hh), fun _ _ _ h => h, .refl w⟩
theorem RelP.skip (hr : RelP F δ g s a w) (d : Option Nat) (hd : ∀ x, d = some x → x < a.tmps.size) : RelP F δ g (s.put d .skip) (a.put d undef) w := by
  cases d with
  | none => exact hr
  | some u =>
    refine ⟨fun t x ht => ?_, hr.defers, ⟨hr.o.ok, hr.o.apart, hr.o.fresh, hr.o.imm, hr.o.cel⟩⟩
    simp only [St.put, lk_cons] at ht
    split at ht
    · rename_i htu
      cases ht
      subst htu
      exact ⟨undef, by simp [Act.put, hd t rfl], .skip⟩
    · rename_i htu
      obtain ⟨v, h1, h2⟩ := hr.tm t x ht
      exact ⟨v, by rw [put_tmps_ne (by simpa using fun h => htu h.symm)]; exact h1, h2⟩
theorem Sk.eqv {x : Ent} (h : Sk x) : Eqv (s.put x.o.dst .skip) (x.app s) := by
  obtain ⟨h1, h2⟩ := h
  refine ⟨fun t => ?_, fun i => ?_⟩
  · rw [mrg_tm, h2]
    cases hd : x.o.dst with
    | none => simp [St.put]
    | some u =>
      simp only [St.put, lk_cons, Option.some.injEq, St.get]
      by_cases h : t = u
      · subst h; simp [lk]
      · have h' : ¬ u = t := fun e => h e.symm
        simp [h, h']
  · rw [mrg_os, h1, h2]
    cases x.o.dst <;> simp [St.put, lk]

/-- One waits for the other, or for one that waits for it. -/
inductive Anc (all : Array Oper) : Nat → Nat → Prop where
  | one {i : Nat} {o : Oper} {ed : Edge} (ho : all[i]? = some o) (he : ed ∈ o.after) (hb : Region.binds .any ed = true) : Anc all ed.on i
  | more {i j : Nat} {o : Oper} {ed : Edge} (ho : all[i]? = some o) (he : ed ∈ o.after) (hb : Region.binds .any ed = true) (h : Anc all j ed.on) : Anc all j i
theorem Anc.inv {all : Array Oper} {j i : Nat} (h : Anc all j i) : ∃ o ed, all[i]? = some o ∧ ed ∈ o.after ∧ Region.binds .any ed = true ∧ (ed.on = j ∨ Anc all j ed.on) := by
  cases h with
  | one ho he hb => exact ⟨_, _, ho, he, hb, .inl rfl⟩
  | more ho he hb h => exact ⟨_, _, ho, he, hb, .inr h⟩
/-- What was listed waited for none that was not. -/
def Down (all : Array Oper) (listed : Array Bool) : Prop := ∀ (i : Nat) o, listed.getD i false = true → all[i]? = some o → ∀ ed ∈ o.after, Region.binds .any ed = true → listed.getD ed.on false = true
theorem Anc.listed {all : Array Oper} {listed : Array Bool} (hd : Down all listed) {j i : Nat} (h : Anc all j i) : listed.getD i false = true → listed.getD j false = true := by
  induction h with
  | one ho he hb => exact fun h => hd _ _ h ho _ he hb
  | more ho he hb _ ih => exact fun h => ih (hd _ _ h ho _ he hb)
/-- What holds of an operation and a later one. -/
def Two (all : Array Oper) (y x : Ent) : Prop := y.i < x.i ∧ y.r.nx ≤ x.B ∧ y.B ≤ y.r.nx ∧ (Anc all y.i x.i ∨ Ind all y x)
def Free (l : List Ent) (e : St) (id : Nat) : Prop := (∃ x ∈ l, x.B ≤ id ∧ id < x.r.nx) ∨ e.nx ≤ id

theorem RelP.bool_at (hr : RelP F δ g s a w) {t : Nat} {b : Bool} (h : s.get t = .bool b) : a.tmps[t]? = some (.bool b) := by
  unfold St.get at h
  cases hl : lk t s.tm with
  | none => rw [hl] at h; cases h
  | some d =>
    rw [hl] at h
    obtain ⟨v, h1, h2⟩ := hr.tm t d hl
    have e : d = .bool b := h
    rw [e] at h2
    rw [h1, h2.bool_inv]
theorem RelP.skip_at (hr : RelP F δ g s a w) {t : Nat} (h : s.get t = .skip) : a.tmps[t]? = some Go.undef := by
  unfold St.get at h
  cases hl : lk t s.tm with
  | none => rw [hl] at h; cases h
  | some d =>
    rw [hl] at h
    obtain ⟨v, h1, h2⟩ := hr.tm t d hl
    have e : d = .skip := h
    rw [e] at h2
    cases h2
    exact h1

/-- One operation of them, at the machine. -/
theorem ent_sound (hT : TabS P T) {x : Ent} (hg : Good P T all x s) (hd : dstOk1 n x.o = true) (hr : RelP F δ g s a w) (hn : a.tmps.size = n)
    (hF : ∀ id, x.B ≤ id → id < x.r.nx → F id) (hF' : ∀ id, F' id → F id ∧ (id < x.B ∨ x.r.nx ≤ id) ∧ id ∉ x.T) {K : Act → World → Prop} {Q : Exit → Act → World → Prop}
    (hK : ∀ g' a' w', RelP F' δ g' (x.app s) a' w' → a'.tmps.size = n → Step g s w g' (x.app s) w' → K a' w') :
    if Region.wanted x.o (yielded all a.tmps) then x.o.wp P a w K Q ∨ (x.o.asks P a w ∧ LetsOut Q) else K (a.put x.o.dst undef) w := by
  have hdo : ∀ t, x.o.dst = some t → t < n := fun t ht => by
    unfold dstOk1 at hd
    rw [ht] at hd
    simpa using hd
  have hE : Ex P T x s → x.o.wp P a w K Q := fun ⟨h1, h2, h3, h4⟩ => by
    have h5 := aop_sound hT x.o hdo h1 (loc_rel hr h2) hn Q
    refine Go.Oper.wp_mono (fun a' w' h6 => ?_) (Oper.wp_put h5)
    obtain ⟨⟨g', s', rfl, h7, h8, h9⟩, h10⟩ := h6
    obtain ⟨h11, h12⟩ := mrg_rel (F' := F') hr h2 hF hF' h7 h9 h10 h4
    exact hK _ _ _ h11 h8 h12
  have hS : Sk x → K (a.put x.o.dst undef) w := fun h => by
    have h1 := (hr.skip x.o.dst (fun t ht => by rw [hn]; exact hdo t ht)).eqv h.eqv
    refine hK g _ _ (h1.less fun id hid => (hF' id hid).1) (by rw [put_size, hn]) (Step.eqv fun id => ?_)
    rw [← h.eqv.2]
    cases x.o.dst <;> rfl
  unfold Good at hg
  cases hgd : x.o.guard with
  | none =>
    rw [hgd] at hg
    rw [if_pos (by simp [Region.wanted, hgd])]
    exact .inl (hE hg)
  | some jw =>
    obtain ⟨j, wt⟩ := jw
    rw [hgd] at hg
    simp only at hg
    have hwant : Region.wanted x.o (yielded all a.tmps) = (yielded all a.tmps j == some wt) := by simp [Region.wanted, hgd]
    split at hg
    · rename_i b hb
      cases ht : gtmp all j with
      | none => rw [ht] at hb; cases hb
      | some t =>
        rw [ht] at hb
        have hv := hr.bool_at hb
        have hy : yielded all a.tmps j = some b := by rw [yielded_gtmp, ht]; simp [hv]
        rw [hwant, hy]
        by_cases hbw : b = wt
        · subst hbw
          rw [if_pos (by simp)]
          exact .inl (hE (hg.1 rfl))
        · rw [if_neg (by simpa using hbw)]
          exact hS (hg.2 (by cases b <;> cases wt <;> simp_all))
    · rename_i hb
      cases ht : gtmp all j with
      | none => rw [ht] at hb; cases hb
      | some t =>
        rw [ht] at hb
        have hv := hr.skip_at hb
        have hy : yielded all a.tmps j = none := by rw [yielded_gtmp, ht]; simp [hv, Go.undef]
        rw [hwant, hy, if_neg (by simp)]
        exact hS hg
    · cases hg

theorem drawn_sound (hT : TabS P T) (hd : all.toList.all (dstOk1 n) = true) (hE : ∀ (i : Nat) o, all[i]? = some o → ∀ ed ∈ o.after, Region.binds .any ed = true → ed.on < i) {Q : Exit → Act → World → Prop} : ∀ (fuel : Nat) (listed : Array Bool) (l : List Ent) (g : G) (s : St) (a : Act) (w : World),
    l.length = fuel → listed.size = all.size → Down all listed → (∀ i, i < all.size → (listed.getD i true = false ↔ ∃ x ∈ l, x.i = i)) → (∀ x ∈ l, all[x.i]? = some x.o) → l.Pairwise (Two all) → (∀ x ∈ l, x.r.nx ≤ e.nx ∧ x.B ≤ x.r.nx) →
    Tr P T all l s e → RelP (Free l e) δ g s a w → a.tmps.size = n → (∀ g' a' w', RelP (fun id => e.nx ≤ id) δ g' e a' w' → a'.tmps.size = n → Step g s w g' e w' → Q .normal a' w') →
    wpAny P .any all Q fuel listed a w
  | 0, listed, l, g, s, a, w, hl, hsz, hdn, hli, ho, hp, hnx, htr, hr, hn, hQ => by
    have : l = [] := List.eq_nil_of_length_eq_zero hl
    subst this
    refine ⟨?_, hQ g a w ((hr.eqv htr).less fun id hid => .inr hid) hn (Step.eqv htr.2)⟩
    rw [Region.ready, List.filter_eq_nil_iff]
    intro i hi
    have hi' := List.mem_range.1 hi
    have : listed.getD i true ≠ false := fun h => by
      obtain ⟨x, hx, _⟩ := (hli i hi').1 h
      cases hx
    have : listed.getD i true = true := by simpa using this
    simp [this]
  | fuel + 1, listed, l, g, s, a, w, hl, hsz, hdn, hli, ho, hp, hnx, htr, hr, hn, hQ => by
    have hlt : ∀ x ∈ l, x.i < all.size := fun x hx => (Array.getElem?_eq_some_iff.1 (ho x hx)).1
    refine ⟨fun h0 => ?_, fun i hi => ?_⟩
    · -- there is always one that may come up
      cases l with
      | nil => simp at hl
      | cons y l =>
        exfalso
        have hy := ho y (by simp)
        have hyl := hlt y (by simp)
        have : y.i ∈ Region.ready .any all listed := by
          rw [Region.ready, List.mem_filter]
          refine ⟨List.mem_range.2 hyl, ?_⟩
          have h1 : listed.getD y.i true = false := (hli y.i hyl).2 ⟨y, by simp, rfl⟩
          rw [h1, hy]
          simp only [Bool.not_false, Option.map_some, Option.getD_some, Bool.true_and, Array.all_eq_true_iff_forall_mem]
          intro ed hed
          by_cases hb : Region.binds .any ed = true
          · have h2 := hE y.i y.o hy ed hed hb
            have h3 : listed.getD ed.on true ≠ false := fun h => by
              obtain ⟨z, hz, hzi⟩ := (hli ed.on (by omega)).1 h
              rcases List.mem_cons.1 hz with rfl | hz
              · omega
              · have := (List.rel_of_pairwise_cons hp hz).1
                omega
            have h4 : ed.on < listed.size := by omega
            have h5 : listed.getD ed.on true = true := by simpa using h3
            have h6 : listed.getD ed.on false = true := by
              simp only [Array.getD, h4, dif_pos] at h5 ⊢
              exact h5
            simp [hb, h6]
          · simp [hb]
        rw [h0] at this
        cases this
    · rw [Region.ready, List.mem_filter] at hi
      obtain ⟨hi1, hi2⟩ := hi
      have hi1' := List.mem_range.1 hi1
      simp only [Bool.and_eq_true, Bool.not_eq_true'] at hi2
      obtain ⟨hi3, hi4⟩ := hi2
      obtain ⟨x, hx, rfl⟩ := (hli i hi1').1 hi3
      have hxo := ho x hx
      rw [hxo] at hi4
      simp only [Option.map_some, Option.getD_some, Array.all_eq_true_iff_forall_mem] at hi4
      obtain ⟨pre, post, rfl⟩ := List.append_of_mem hx
      have hpp := List.pairwise_append.1 hp
      have hind : ∀ y ∈ pre, Ind all y x := fun y hy => by
        obtain ⟨h1, _, _, h2⟩ := hpp.2.2 y hy x (by simp)
        refine h2.resolve_left fun he => ?_
        have hgo : ∀ ed ∈ x.o.after, Region.binds .any ed = true → listed.getD ed.on false = true := fun ed hed hb => by
          have := hi4 ed hed
          rw [hb] at this
          simpa using this
        have h5 : listed.getD y.i false = true := by
          obtain ⟨o, ed, ho', he', hb, h⟩ := he.inv
          rw [hxo] at ho'; cases ho'
          rcases h with h | h
          · rw [← h]; exact hgo _ he' hb
          · exact h.listed hdn (hgo _ he' hb)
        have h6 : listed.getD y.i true = false := (hli y.i (hlt y (by simp [hy]))).2 ⟨y, by simp [hy], rfl⟩
        have h7 : y.i < listed.size := by rw [hsz]; exact hlt y (by simp [hy])
        simp only [Array.getD, h7, dif_pos] at h5 h6
        rw [h5] at h6
        cases h6
      obtain ⟨hgx, htr'⟩ := Tr.front hind htr
      have hpost : ∀ y ∈ post, x.r.nx ≤ y.B := fun y hy => (List.rel_of_pairwise_cons hpp.2.1 hy).2.1
      have hpre : ∀ y ∈ pre, y.r.nx ≤ x.B := fun y hy => (hpp.2.2 y hy x (by simp)).2.1
      have hxnx := hnx x (by simp)
      have hlow := hgx.facts.2.2
      unfold wpOp
      rw [hxo]
      refine ent_sound (F' := Free (pre ++ post) e) hT hgx (List.all_eq_true.1 hd x.o (by simpa using Array.mem_of_getElem? hxo)) hr hn (fun id h1 h2 => .inl ⟨x, by simp, h1, h2⟩) (fun id hid => ?_) fun g' a' w' hr' hn' hst => ?_
      · rcases hid with ⟨y, hy, h1, h2⟩ | h1
        · rcases List.mem_append.1 hy with hy | hy
          · have h3 := hpre y hy
            exact ⟨.inl ⟨y, by simp [hy], h1, h2⟩, .inl (by omega), fun hm => (hind y hy).n1 id hm ⟨h1, h2⟩⟩
          · have h3 := hpost y hy
            exact ⟨.inl ⟨y, by simp [hy], h1, h2⟩, .inr (by omega), fun hm => by have := hlow id hm; omega⟩
        · exact ⟨.inr h1, .inr (by omega), fun hm => by have := hlow id hm; omega⟩
      · refine drawn_sound hT hd hE fuel _ (pre ++ post) g' _ a' w' (by simp at hl ⊢; omega) (by simpa using hsz) ?_ (fun i hi => ?_) (fun y hy => ho y (by simp at hy ⊢; rcases hy with h | h <;> simp [h])) ?_ (fun y hy => hnx y (by simp at hy ⊢; rcases hy with h | h <;> simp [h])) htr' hr' hn'
          (fun g'' a'' w'' h1 h2 h3 => hQ g'' a'' w'' h1 h2 (hst.trans h3))
        · intro i o hi ho' ed hed hb
          have hset : ∀ k : Nat, listed.getD k false = true → (listed.setIfInBounds x.i true).getD k false = true := fun k hk => by
            by_cases hkx : k = x.i
            · subst hkx
              simp [Array.getD, hsz, hi1']
            · rw [getD_set_ne false (fun h => hkx h.symm)]; exact hk
          refine hset _ ?_
          by_cases hix : i = x.i
          · subst hix
            rw [hxo] at ho'; cases ho'
            have := hi4 ed hed
            rw [hb] at this
            simpa using this
          · rw [getD_set_ne false (fun h => hix h.symm)] at hi
            exact hdn i o hi ho' ed hed hb
        · have hne : ∀ y ∈ pre ++ post, y.i ≠ x.i := fun y hy => by
            rcases List.mem_append.1 hy with hy | hy
            · have := (hpp.2.2 y hy x (by simp)).1; omega
            · have := (List.rel_of_pairwise_cons hpp.2.1 hy).1; omega
          by_cases hix : i = x.i
          · subst hix
            have h7 : x.i < listed.size := by omega
            constructor
            · intro h
              simp [Array.getD, h7] at h
            · rintro ⟨y, hy, hyi⟩
              exact absurd hyi (hne y hy)
          · have : (listed.setIfInBounds x.i true).getD i true = listed.getD i true := by
              have hix' : x.i ≠ i := fun h => hix h.symm
              simp only [Array.getD, Array.size_setIfInBounds]
              split
              · simp only [Array.getInternal_eq_getElem]
                exact Array.getElem_setIfInBounds_ne _ hix'
              · rfl
            rw [this, hli i hi]
            constructor
            · rintro ⟨y, hy, hyi⟩
              refine ⟨y, ?_, hyi⟩
              simp at hy ⊢
              rcases hy with h | h | h
              · exact .inl h
              · subst h; exact absurd hyi.symm hix
              · exact .inr h
            · rintro ⟨y, hy, hyi⟩
              exact ⟨y, by simp at hy ⊢; rcases hy with h | h <;> simp [h], hyi⟩
        · exact hp.sublist (by simp)
end
end Dm
