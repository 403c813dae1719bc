import Derived.Test.YtceoichdaepegaaGreatP2
import Derived.IntWalk
import Derived.KernelRfl
import Derived.Scope
import Derived.Test.YtceoichdaepegaaGreatProg
set_option linter.unusedSimpArgs false
set_option linter.unusedVariables false
set_option linter.unusedSectionVars false
namespace Dm
open Go
section
variable {δ : List Deferred} {P : Program} {T : Tab} {all : Array Oper} {g g' : G} {s s' s'' e : St} {a a' : Act} {w w' : World} {n N : Nat} {F F' : Nat → Prop}

theorem bbv (h : Eqv s s') {b : Nat} : Own g s b ↔ Own g s' b := ⟨fun ⟨i, o, h1, h2⟩ => ⟨i, o, by rw [← h.2]; exact h1, h2⟩, fun ⟨i, o, h1, h2⟩ => ⟨i, o, by rw [h.2]; exact h1, h2⟩⟩
theorem jP.eqv (hr : jP F δ g s a w) (h : Eqv s s') : jP F δ g s' a w :=
  ⟨fun t d ht => hr.tm t d (by rw [h.1]; exact ht), hr.defers, ⟨fun i o hi => hr.o.ok i o (by rw [h.2]; exact hi), fun i o i' o' b h1 h2 => hr.o.apart i o i' o' b (by rw [h.2]; exact h1) (by rw [h.2]; exact h2), hr.o.fresh,
    fun b hb => ⟨(hr.o.imm b hb).1, fun ho => (hr.o.imm b hb).2 ((bbv h).2 ho)⟩, hr.o.cel⟩⟩
theorem Step.eqv (h : ∀ id, lk id s.os = lk id s'.os) : Step g s w g s' w := by
  have h' : ∀ b, Own g s b ↔ Own g s' b := fun b => ⟨fun ⟨i, o, h1, h2⟩ => ⟨i, o, by rw [← h]; exact h1, h2⟩, fun ⟨i, o, h1, h2⟩ => ⟨i, o, by rw [h]; exact h1, h2⟩⟩
  exact ⟨.refl g, Nat.le_refl _, fun _ _ _ => rfl, fun b _ ho hh => ho ((h' b).2 hh), fun _ _ _ h => h, .refl w⟩
theorem jP.skip (hr : jP F δ g s a w) (d : Option Nat) (hd : ∀ x, d = some x → x < a.tmps.size) : jP F δ g (s.put d .skip) (a.put d undef) w := by
  cases d with
  | none => exact hr
  | some u =>
    refine ⟨fun t x ht => ?_, hr.defers, ⟨hr.o.ok, hr.o.apart, hr.o.fresh, hr.o.imm, hr.o.cel⟩⟩
    simp only [St.put, gb] at ht
    split at ht
    · rename_i htu
      cases ht
      subst htu
      exact ⟨undef, by simp [Act.put, hd t rfl], .skip⟩
    · rename_i htu
      obtain ⟨v, h1, h2⟩ := hr.tm t x ht
      exact ⟨v, by rw [jU (by simpa using fun h => htu h.symm)]; exact h1, h2⟩
theorem Sk.eqv {x : Ent} (h : Sk x) : Eqv (s.put x.o.dst .skip) (x.app s) := by
  obtain ⟨h1, h2⟩ := h
  refine ⟨fun t => ?_, fun i => ?_⟩
  · rw [yq, h2]
    cases hd : x.o.dst with
    | none => simp [St.put]
    | some u =>
      simp only [St.put, gb, Option.some.injEq, St.get]
      by_cases h : t = u
      · subst h; simp [lk]
      · have h' : ¬ u = t := fun e => h e.symm
        simp [h, h']
  · rw [zu, h1, h2]
    cases x.o.dst <;> simp [St.put, lk]

inductive Anc (all : Array Oper) : Nat → Nat → Prop where
  | one {i : Nat} {o : Oper} {ed : Edge} (ho : all[i]? = some o) (he : ed ∈ o.after) (hb : Region.binds .any ed = true) : Anc all ed.on i
  | more {i j : Nat} {o : Oper} {ed : Edge} (ho : all[i]? = some o) (he : ed ∈ o.after) (hb : Region.binds .any ed = true) (h : Anc all j ed.on) : Anc all j i
theorem Anc.inv {all : Array Oper} {j i : Nat} (h : Anc all j i) : ∃ o ed, all[i]? = some o ∧ ed ∈ o.after ∧ Region.binds .any ed = true ∧ (ed.on = j ∨ Anc all j ed.on) := by
  cases h with
  | one ho he hb => exact ⟨_, _, ho, he, hb, .inl rfl⟩
  | more ho he hb h => exact ⟨_, _, ho, he, hb, .inr h⟩
def Down (all : Array Oper) (listed : Array Bool) : Prop := ∀ (i : Nat) o, listed.getD i false = true → all[i]? = some o → ∀ ed ∈ o.after, Region.binds .any ed = true → listed.getD ed.on false = true
theorem Anc.listed {all : Array Oper} {listed : Array Bool} (hd : Down all listed) {j i : Nat} (h : Anc all j i) : listed.getD i false = true → listed.getD j false = true := by
  induction h with
  | one ho he hb => exact fun h => hd _ _ h ho _ he hb
  | more ho he hb _ ih => exact fun h => ih (hd _ _ h ho _ he hb)
def Two (all : Array Oper) (y x : Ent) : Prop := y.i < x.i ∧ y.r.nx ≤ x.B ∧ y.B ≤ y.r.nx ∧ (Anc all y.i x.i ∨ Ind all y x ∨ (cmB all y.o x.o = true ∧ y.r.nx = y.B))
theorem Two.sim {y x y' x' : Ent} (hy : y'.sh = y.sh) (hx : x'.sh = x.sh) (h : Two all y x) : Two all y' x' := by
  obtain ⟨a1, a2, a3, a4, a5, a6⟩ := vJ hy
  obtain ⟨b1, b2, b3, b4, b5, b6⟩ := vJ hx
  obtain ⟨h1, h2, h3, h4⟩ := h
  refine ⟨by omega, by omega, by omega, ?_⟩
  rcases h4 with h | h | h
  · rw [a1, b1]; exact .inl h
  · refine .inr (.inl ⟨by rw [a2, b2]; exact h.a, by rw [a4, b3]; exact h.w1, by rw [b4, a3]; exact h.w2, by rw [a5, a6, b3]; exact h.n1, by rw [a6, b5]; exact h.n3, by rw [a5, a6]; exact h.n4⟩)
  · exact .inr (.inr ⟨by rw [a2, b2]; exact h.1, by rw [a5, a6]; exact h.2⟩)
theorem baQ {R : Ent → Ent → Prop} (hR : ∀ y x y' x' : Ent, y'.sh = y.sh → x'.sh = x.sh → R y x → R y' x') : ∀ {l l' : List Ent}, l'.map Ent.sh = l.map Ent.sh → l.Pairwise R → l'.Pairwise R
  | [], l', h, _ => by
    have : l' = [] := by simpa using h
    subst this; exact .nil
  | x :: l, [], h, _ => by simp at h
  | x :: l, x' :: l', h, hp => by
    simp only [List.map_cons, List.cons.injEq] at h
    obtain ⟨h1, h2⟩ := List.pairwise_cons.1 hp
    refine List.pairwise_cons.2 ⟨fun y' hy' => ?_, baQ hR h.2 h2⟩
    have : y'.sh ∈ l.map Ent.sh := by rw [← h.2]; exact List.mem_map.2 ⟨y', hy', rfl⟩
    obtain ⟨y, hy, hyy⟩ := List.mem_map.1 this
    exact hR x y x' y' h.1 hyy.symm (h1 y hy)
theorem gac {l l' : List Ent} (h : l'.map Ent.sh = l.map Ent.sh) {y' : Ent} (hy : y' ∈ l') : ∃ y ∈ l, y'.sh = y.sh := by
  have : y'.sh ∈ l.map Ent.sh := by rw [← h]; exact List.mem_map.2 ⟨y', hy, rfl⟩
  obtain ⟨y, hy, hyy⟩ := List.mem_map.1 this
  exact ⟨y, hy, hyy.symm⟩
def qcm (l : List Ent) (e : St) (id : Nat) : Prop := (∃ x ∈ l, x.B ≤ id ∧ id < x.r.nx) ∨ e.nx ≤ id

theorem jP.gaa (hr : jP F δ g s a w) {t : Nat} {b : Bool} (h : s.get t = .bool b) : a.tmps[t]? = some (.bool b) := by
  unfold St.get at h
  cases hl : lk t s.tm with
  | none => rw [hl] at h; cases h
  | some d =>
    rw [hl] at h
    obtain ⟨v, h1, h2⟩ := hr.tm t d hl
    have e : d = .bool b := h
    rw [e] at h2
    rw [h1, h2.jl]
theorem jP.yab (hr : jP F δ g s a w) {t : Nat} (h : s.get t = .skip) : a.tmps[t]? = some Go.undef := by
  unfold St.get at h
  cases hl : lk t s.tm with
  | none => rw [hl] at h; cases h
  | some d =>
    rw [hl] at h
    obtain ⟨v, h1, h2⟩ := hr.tm t d hl
    have e : d = .skip := h
    rw [e] at h2
    cases h2
    exact h1

theorem wad (hT : waH P T) {x : Ent} (hg : Good P T all x s) (hd : xm n x.o = true) (hr : jP F δ g s a w) (hn : a.tmps.size = n)
    (hF : ∀ id, x.B ≤ id → id < x.r.nx → F id) (hF' : ∀ id, F' id → F id ∧ (id < x.B ∨ x.r.nx ≤ id) ∧ id ∉ x.T) {K : Act → World → Prop} {Q : Exit → Act → World → Prop}
    (hK : ∀ g' a' w', jP F' δ g' (x.app s) a' w' → a'.tmps.size = n → Step g s w g' (x.app s) w' → K a' w') :
    if Region.wanted x.o (yielded all a.tmps) then x.o.wp P a w K Q ∨ (x.o.asks P a w ∧ LetsOut Q) else K (a.put x.o.dst undef) w := by
  have hdo : ∀ t, x.o.dst = some t → t < n := fun t ht => by
    unfold xm at hd
    rw [ht] at hd
    simpa using hd
  have hE : Ex P T x s → x.o.wp P a w K Q := fun ⟨h1, h2, h3, h4⟩ => by
    have h5 := zS hT x.o hdo h1 (baH hr h2) hn Q
    refine Go.Oper.wp_mono (fun a' w' h6 => ?_) (Oper.vb3 h5)
    obtain ⟨⟨g', s', rfl, h7, h8, h9⟩, h10⟩ := h6
    obtain ⟨h11, h12⟩ := ubp (F' := F') hr h2 hF hF' h7 h9 h10 h4
    exact hK _ _ _ h11 h8 h12
  have hS : Sk x → K (a.put x.o.dst undef) w := fun h => by
    have h1 := (hr.skip x.o.dst (fun t ht => by rw [hn]; exact hdo t ht)).eqv h.eqv
    refine hK g _ _ (h1.less fun id hid => (hF' id hid).1) (by rw [je, hn]) (Step.eqv fun id => ?_)
    rw [← h.eqv.2]
    cases x.o.dst <;> rfl
  unfold Good at hg
  cases hgd : x.o.guard with
  | none =>
    rw [hgd] at hg
    rw [if_pos (by simp [Region.wanted, hgd])]
    exact .inl (hE hg)
  | some jw =>
    obtain ⟨j, wt⟩ := jw
    rw [hgd] at hg
    simp only at hg
    have hwant : Region.wanted x.o (yielded all a.tmps) = (yielded all a.tmps j == some wt) := by simp [Region.wanted, hgd]
    split at hg
    · rename_i b hb
      cases ht : xA all j with
      | none => rw [ht] at hb; cases hb
      | some t =>
        rw [ht] at hb
        have hv := hr.gaa hb
        have hy : yielded all a.tmps j = some b := by rw [zl, ht]; simp [hv]
        rw [hwant, hy]
        by_cases hbw : b = wt
        · subst hbw
          rw [if_pos (by simp)]
          exact .inl (hE (hg.1 rfl))
        · rw [if_neg (by simpa using hbw)]
          exact hS (hg.2 (by cases b <;> cases wt <;> simp_all))
    · rename_i hb
      cases ht : xA all j with
      | none => rw [ht] at hb; cases hb
      | some t =>
        rw [ht] at hb
        have hv := hr.yab hb
        have hy : yielded all a.tmps j = none := by rw [zl, ht]; simp [hv, Go.undef]
        rw [hwant, hy, if_neg (by simp)]
        exact hS hg
    · cases hg

theorem vV (hT : waH P T) (hd : all.toList.all (xm n) = true) (hE : ∀ (i : Nat) o, all[i]? = some o → ∀ ed ∈ o.after, Region.binds .any ed = true → ed.on < i) {Q : Exit → Act → World → Prop} : ∀ (fuel : Nat) (listed : Array Bool) (l : List Ent) (g : G) (s : St) (a : Act) (w : World),
    l.length = fuel → listed.size = all.size → Down all listed → (∀ i, i < all.size → (listed.getD i true = false ↔ ∃ x ∈ l, x.i = i)) → (∀ x ∈ l, all[x.i]? = some x.o) → l.Pairwise (Two all) → (∀ x ∈ l, x.r.nx ≤ e.nx ∧ x.B ≤ x.r.nx) →
    Tr P T all l s e → jP (qcm l e) δ g s a w → a.tmps.size = n → (∀ g' a' w', jP (fun id => e.nx ≤ id) δ g' e a' w' → a'.tmps.size = n → Step g s w g' e w' → Q .normal a' w') →
    wpAny P .any all Q fuel listed a w
  | 0, listed, l, g, s, a, w, hl, hsz, hdn, hli, ho, hp, hnx, htr, hr, hn, hQ => by
    have : l = [] := List.eq_nil_of_length_eq_zero hl
    subst this
    refine ⟨?_, hQ g a w ((hr.eqv htr).less fun id hid => .inr hid) hn (Step.eqv htr.2)⟩
    rw [Region.ready, List.filter_eq_nil_iff]
    intro i hi
    have hi' := List.mem_range.1 hi
    have : listed.getD i true ≠ false := fun h => by
      obtain ⟨x, hx, _⟩ := (hli i hi').1 h
      cases hx
    have : listed.getD i true = true := by simpa using this
    simp [this]
  | fuel + 1, listed, l, g, s, a, w, hl, hsz, hdn, hli, ho, hp, hnx, htr, hr, hn, hQ => by
    have hlt : ∀ x ∈ l, x.i < all.size := fun x hx => (Array.getElem?_eq_some_iff.1 (ho x hx)).1
    refine ⟨fun h0 => ?_, fun i hi => ?_⟩
    · -- there is always one that may come up
      cases l with
      | nil => simp at hl
      | cons y l =>
        exfalso
        have hy := ho y (by simp)
        have hyl := hlt y (by simp)
        have : y.i ∈ Region.ready .any all listed := by
          rw [Region.ready, List.mem_filter]
          refine ⟨List.mem_range.2 hyl, ?_⟩
          have h1 : listed.getD y.i true = false := (hli y.i hyl).2 ⟨y, by simp, rfl⟩
          rw [h1, hy]
          simp only [Bool.not_false, Option.map_some, Option.getD_some, Bool.true_and, Array.all_eq_true_iff_forall_mem]
          intro ed hed
          by_cases hb : Region.binds .any ed = true
          · have h2 := hE y.i y.o hy ed hed hb
            have h3 : listed.getD ed.on true ≠ false := fun h => by
              obtain ⟨z, hz, hzi⟩ := (hli ed.on (by omega)).1 h
              rcases List.mem_cons.1 hz with rfl | hz
              · omega
              · have := (List.rel_of_pairwise_cons hp hz).1
                omega
            have h4 : ed.on < listed.size := by omega
            have h5 : listed.getD ed.on true = true := by simpa using h3
            have h6 : listed.getD ed.on false = true := by
              simp only [Array.getD, h4, dif_pos] at h5 ⊢
              exact h5
            simp [hb, h6]
          · simp [hb]
        rw [h0] at this
        cases this
    · rw [Region.ready, List.mem_filter] at hi
      obtain ⟨hi1, hi2⟩ := hi
      have hi1' := List.mem_range.1 hi1
      simp only [Bool.and_eq_true, Bool.not_eq_true'] at hi2
      obtain ⟨hi3, hi4⟩ := hi2
      obtain ⟨x, hx, rfl⟩ := (hli i hi1').1 hi3
      have hxo := ho x hx
      rw [hxo] at hi4
      simp only [Option.map_some, Option.getD_some, Array.all_eq_true_iff_forall_mem] at hi4
      obtain ⟨pre, post, rfl⟩ := List.append_of_mem hx
      have hpp := List.pairwise_append.1 hp
      have hind : ∀ y ∈ pre, Ind all y x ∨ (cmB all y.o x.o = true ∧ y.r.nx = y.B) := fun y hy => by
        obtain ⟨h1, _, _, h2⟩ := hpp.2.2 y hy x (by simp)
        refine h2.resolve_left fun he => ?_
        have hgo : ∀ ed ∈ x.o.after, Region.binds .any ed = true → listed.getD ed.on false = true := fun ed hed hb => by
          have := hi4 ed hed
          rw [hb] at this
          simpa using this
        have h5 : listed.getD y.i false = true := by
          obtain ⟨o, ed, ho', he', hb, h⟩ := he.inv
          rw [hxo] at ho'; cases ho'
          rcases h with h | h
          · rw [← h]; exact hgo _ he' hb
          · exact h.listed hdn (hgo _ he' hb)
        have h6 : listed.getD y.i true = false := (hli y.i (hlt y (by simp [hy]))).2 ⟨y, by simp [hy], rfl⟩
        have h7 : y.i < listed.size := by rw [hsz]; exact hlt y (by simp [hy])
        simp only [Array.getD, h7, dif_pos] at h5 h6
        rw [h5] at h6
        cases h6
      obtain ⟨hgx, pre', hsim, htr'⟩ := Tr.front (fun y hy => (hind y hy).imp_right (·.1)) htr
      have hn1 : ∀ y ∈ pre, ∀ id ∈ x.T, ¬ (y.B ≤ id ∧ id < y.r.nx) := fun y hy id hid => by
        rcases hind y hy with h | h
        · exact h.n1 id hid
        · omega
      have hsim2 : (pre' ++ post).map Ent.sh = (pre ++ post).map Ent.sh := by rw [List.map_append, List.map_append, hsim]
      have hback : ∀ y' ∈ pre' ++ post, ∃ y ∈ pre ++ post, y'.sh = y.sh := fun y' hy' => gac hsim2 hy'
      have hpost : ∀ y ∈ post, x.r.nx ≤ y.B := fun y hy => (List.rel_of_pairwise_cons hpp.2.1 hy).2.1
      have hpre : ∀ y ∈ pre, y.r.nx ≤ x.B := fun y hy => (hpp.2.2 y hy x (by simp)).2.1
      have hxnx := hnx x (by simp)
      have hlow := hgx.facts.2.2
      unfold wpOp
      rw [hxo]
      refine wad (F' := qcm (pre' ++ post) e) hT hgx (List.all_eq_true.1 hd x.o (by simpa using Array.mem_of_getElem? hxo)) hr hn (fun id h1 h2 => .inl ⟨x, by simp, h1, h2⟩) (fun id hid => ?_) fun g' a' w' hr' hn' hst => ?_
      · rcases hid with ⟨y', hy', h1, h2⟩ | h1
        · obtain ⟨y, hy, hyy⟩ := hback y' hy'
          obtain ⟨_, _, _, _, a5, a6⟩ := vJ hyy
          rw [a5] at h1
          rw [a6] at h2
          rcases List.mem_append.1 hy with hy | hy
          · have h3 := hpre y hy
            exact ⟨.inl ⟨y, by simp [hy], h1, h2⟩, .inl (by omega), fun hm => hn1 y hy id hm ⟨h1, h2⟩⟩
          · have h3 := hpost y hy
            exact ⟨.inl ⟨y, by simp [hy], h1, h2⟩, .inr (by omega), fun hm => by have := hlow id hm; omega⟩
        · exact ⟨.inr h1, .inr (by omega), fun hm => by have := hlow id hm; omega⟩
      · have hlen' : pre'.length = pre.length := by simpa using congrArg List.length hsim
        refine vV hT hd hE fuel _ (pre' ++ post) g' _ a' w' (by simp at hl ⊢; omega) (by simpa using hsz) ?_ (fun i hi => ?_) (fun y' hy' => ?_) ?_ (fun y' hy' => ?_) htr' hr' hn'
          (fun g'' a'' w'' h1 h2 h3 => hQ g'' a'' w'' h1 h2 (hst.trans h3))
        · intro i o hi ho' ed hed hb
          have hset : ∀ k : Nat, listed.getD k false = true → (listed.setIfInBounds x.i true).getD k false = true := fun k hk => by
            by_cases hkx : k = x.i
            · subst hkx
              simp [Array.getD, hsz, hi1']
            · rw [getD_set_ne false (fun h => hkx h.symm)]; exact hk
          refine hset _ ?_
          by_cases hix : i = x.i
          · subst hix
            rw [hxo] at ho'; cases ho'
            have := hi4 ed hed
            rw [hb] at this
            simpa using this
          · rw [getD_set_ne false (fun h => hix h.symm)] at hi
            exact hdn i o hi ho' ed hed hb
        · have hne : ∀ y ∈ pre ++ post, y.i ≠ x.i := fun y hy => by
            rcases List.mem_append.1 hy with hy | hy
            · have := (hpp.2.2 y hy x (by simp)).1; omega
            · have := (List.rel_of_pairwise_cons hpp.2.1 hy).1; omega
          by_cases hix : i = x.i
          · subst hix
            have h7 : x.i < listed.size := by omega
            constructor
            · intro h
              simp [Array.getD, h7] at h
            · rintro ⟨y', hy', hyi⟩
              obtain ⟨y, hy, hyy⟩ := hback y' hy'
              exact absurd ((vJ hyy).1.symm.trans hyi) (hne y hy)
          · have : (listed.setIfInBounds x.i true).getD i true = listed.getD i true := by
              have hix' : x.i ≠ i := fun h => hix h.symm
              simp only [Array.getD, Array.size_setIfInBounds]
              split
              · simp only [Array.getInternal_eq_getElem]
                exact Array.getElem_setIfInBounds_ne _ hix'
              · rfl
            rw [this, hli i hi]
            constructor
            · rintro ⟨y, hy, hyi⟩
              have hy2 : y ∈ pre ++ post := by
                simp at hy ⊢
                rcases hy with h | h | h
                · exact .inl h
                · subst h; exact absurd hyi.symm hix
                · exact .inr h
              obtain ⟨y', hy', hyy⟩ := gac hsim2.symm hy2
              exact ⟨y', hy', (vJ hyy).1.symm.trans hyi⟩
            · rintro ⟨y', hy', hyi⟩
              obtain ⟨y, hy, hyy⟩ := hback y' hy'
              exact ⟨y, by simp at hy ⊢; rcases hy with h | h <;> simp [h], (vJ hyy).1.symm.trans hyi⟩
        · obtain ⟨y, hy, hyy⟩ := hback y' hy'
          obtain ⟨a1, a2, _⟩ := vJ hyy
          rw [a1, a2]
          exact ho y (by simp at hy ⊢; rcases hy with h | h <;> simp [h])
        · exact baQ (fun _ _ _ _ h1 h2 h3 => h3.sim h1 h2) hsim2 (hp.sublist (by simp))
        · obtain ⟨y, hy, hyy⟩ := hback y' hy'
          obtain ⟨_, _, _, _, a5, a6⟩ := vJ hyy
          rw [a5, a6]
          exact hnx y (by simp at hy ⊢; rcases hy with h | h <;> simp [h])
end
end Dm
namespace Dm
open Go
section
variable {δ : List Deferred} {P : Program} {T : Tab} {all : Array Oper} {s s' s'' e : St} {n N : Nat}

def mem (n : Nat) : List Nat → Bool
  | [] => false
  | m :: l => if n = m then true else mem n l
def sub : List Nat → List Nat → Bool
  | [], _ => true
  | n :: l, m => if mem n m = true then sub l m else false
def apt : List Nat → List Nat → Bool
  | [], _ => true
  | n :: l, m => if mem n m = true then false else apt l m
def low (B : Nat) : List Nat → Bool
  | [] => true
  | n :: l => if n < B then low B l else false
def inR (T : List Nat) (B nx n : Nat) : Bool := if mem n T = true then true else if B ≤ n then (if n < nx then true else false) else false
def qbq (T : List Nat) (B nx : Nat) : List Nat → Bool
  | [] => true
  | n :: l => if inR T B nx n = true then qbq T B nx l else false
def gbl (B nx : Nat) : List Nat → Bool
  | [] => true
  | n :: l => if B ≤ n then (if n < nx then false else gbl B nx l) else gbl B nx l
def ins (n : Nat) (l : List Nat) : List Nat := if mem n l = true then l else n :: l
def uni : List Nat → List Nat → List Nat
  | [], m => m
  | n :: l, m => uni l (ins n m)
theorem mem_iff {n : Nat} : ∀ {l : List Nat}, mem n l = true ↔ n ∈ l
  | [] => by simp [mem]
  | m :: l => by
    rw [mem]
    by_cases h : n = m <;> simp [h, mem_iff]
theorem wat {m : List Nat} : ∀ {l : List Nat}, sub l m = true ↔ ∀ n ∈ l, n ∈ m
  | [] => by simp [sub]
  | n :: l => by
    rw [sub]
    by_cases h : n ∈ m <;> simp [mem_iff, h, wat]
theorem qT {m : List Nat} : ∀ {l : List Nat}, apt l m = true ↔ ∀ n ∈ l, n ∉ m
  | [] => by simp [apt]
  | n :: l => by
    rw [apt]
    by_cases h : n ∈ m <;> simp [mem_iff, h, qT]
theorem waT {B : Nat} : ∀ {l : List Nat}, low B l = true ↔ ∀ n ∈ l, n < B
  | [] => by simp [low]
  | n :: l => by
    rw [low]
    by_cases h : n < B <;> simp [h, waT]
theorem zap {T : List Nat} {B nx n : Nat} : inR T B nx n = true ↔ n ∈ T ∨ B ≤ n ∧ n < nx := by
  unfold inR
  by_cases h : n ∈ T
  · simp [mem_iff, h]
  · by_cases h1 : B ≤ n <;> by_cases h2 : n < nx <;> simp [mem_iff, h, h1, h2]
theorem b9 {T : List Nat} {B nx : Nat} : ∀ {l : List Nat}, qbq T B nx l = true ↔ ∀ n ∈ l, n ∈ T ∨ B ≤ n ∧ n < nx
  | [] => by simp [qbq]
  | n :: l => by
    rw [qbq]
    by_cases h : inR T B nx n = true
    · rw [if_pos h, b9]
      simp [zap.1 h]
    · rw [if_neg h]
      have : ¬ _ := fun h' => h (zap.2 h')
      simp [this]
theorem w9 {B nx : Nat} : ∀ {l : List Nat}, gbl B nx l = true ↔ ∀ n ∈ l, ¬ (B ≤ n ∧ n < nx)
  | [] => by simp [gbl]
  | n :: l => by
    rw [gbl]
    by_cases h1 : B ≤ n <;> by_cases h2 : n < nx <;> simp [h1, h2, w9] <;> omega

def xaM : List (Nat × D) → List Nat
  | [] => []
  | (_, d) :: l => zm d ++ xaM l
def bc0 : Option Ob → List Nat
  | none => []
  | some o => mob o
def cont (os : List (Nat × Ob)) : List Nat → List Nat
  | [] => []
  | n :: l => bc0 (lk n os) ++ cont os l
def clo (os : List (Nat × Ob)) (ids : List Nat) : List Nat := uni (cont os (uni (cont os ids) ids)) (uni (cont os ids) ids)
def vaq (T : List Nat) : List (Nat × D) → Bool
  | [] => true
  | (_, d) :: l => if sub (zm d) T = true then vaq T l else false
def gbp (T : List Nat) : List (Nat × Ob) → Bool
  | [] => true
  | (_, o) :: l => if sub (mob o) T = true then gbp T l else false
def zbr (T : List Nat) (B nx : Nat) : List (Nat × Ob) → Bool
  | [] => true
  | (m, o) :: l => if inR T B nx m = true then (if qbq T B nx (mob o) = true then zbr T B nx l else false) else false
def rvP (T : List Nat) (B nx : Nat) (tm : List (Nat × D)) : Option Nat → Prop
  | none => True
  | some t => match lk t tm with
    | some d => qbq T B nx (zm d) = true
    | none => False
def xaO (W : List Nat) (os' os : List (Nat × Ob)) : List Nat → Prop
  | [] => True
  | n :: l => (if mem n W = true then True else lk n os' = lk n os) ∧ xaO W os' os l
def stOp : Op → Bool
  | .store .. => true
  | .mapUpdate .. => true
  | .insert .. => true
  | .mapEntry .. => true
  | .entryStore .. => true
  | .next .. => true
  | .call c => match c.callee with
    | .builtin .append => true
    | .builtin .copy => true
    | .builtin .clear => true
    | _ => false
  | _ => false
def gone (os : List (Nat × Ob)) : List Nat → List Nat
  | [] => []
  | n :: l => match lk n os with
    | some _ => gone os l
    | none => n :: gone os l
def wOf (st : Bool) (T : List Nat) (os : List (Nat × Ob)) : List Nat := match st with
  | true => T
  | false => gone os T
theorem uZ {T : List Nat} : ∀ {l : List (Nat × D)}, vaq T l = true → ∀ t d, (t, d) ∈ l → ∀ id ∈ zm d, id ∈ T
  | [], _, _, _, h => by cases h
  | (m, x) :: l, h, t, d, hm => by
    rw [vaq] at h
    split at h
    · rename_i hs
      rcases List.mem_cons.1 hm with e | hm
      · cases e; exact wat.1 hs
      · exact uZ h t d hm
    · cases h
theorem yai {T : List Nat} : ∀ {l : List (Nat × Ob)}, gbp T l = true → ∀ t d, (t, d) ∈ l → ∀ id ∈ mob d, id ∈ T
  | [], _, _, _, h => by cases h
  | (m, x) :: l, h, t, d, hm => by
    rw [gbp] at h
    split at h
    · rename_i hs
      rcases List.mem_cons.1 hm with e | hm
      · cases e; exact wat.1 hs
      · exact yai h t d hm
    · cases h
theorem jaf {T : List Nat} {B nx : Nat} : ∀ {l : List (Nat × Ob)}, zbr T B nx l = true → ∀ i o, (i, o) ∈ l → (i ∈ T ∨ B ≤ i ∧ i < nx) ∧ ∀ id ∈ mob o, id ∈ T ∨ B ≤ id ∧ id < nx
  | [], _, _, _, h => by cases h
  | (m, x) :: l, h, t, d, hm => by
    rw [zbr] at h
    split at h
    · rename_i h1
      split at h
      · rename_i h2
        rcases List.mem_cons.1 hm with e | hm
        · cases e; exact ⟨zap.1 h1, b9.1 h2⟩
        · exact jaf h t d hm
      · cases h
    · cases h
theorem gY {W : List Nat} {os' os : List (Nat × Ob)} : ∀ {l : List Nat}, xaO W os' os l → ∀ id ∈ l, id ∉ W → lk id os' = lk id os
  | [], _, _, h, _ => by cases h
  | m :: l, h, id, hm, hw => by
    obtain ⟨h1, h2⟩ := h
    rcases List.mem_cons.1 hm with e | hm
    · subst e
      rw [if_neg (by simpa [mem_iff] using hw)] at h1
      exact h1
    · exact gY h2 id hm hw
theorem zb0 {rd Tt : List Nat} {B : Nat} {d : Option Nat} {r : St} (h1 : low B Tt = true) (h2 : vaq Tt (bk rd s.tm) = true) (h3 : gbp Tt (bk Tt s.os) = true) (h4 : B ≤ r.nx) (h5 : zbr Tt B r.nx r.os = true) (h6 : rvP Tt B r.nx r.tm d) :
    Fit rd Tt B d s r where
  low := waT.1 h1
  vals t x ht hx := uZ h2 t x (k4 (by rw [qg, if_pos ht]; exact hx))
  obs i o hi ho := yai h3 i o (k4 (by rw [qg, if_pos hi]; exact ho))
  nx := h4
  ros i o hi := jaf h5 i o (k4 hi)
  rv t ht := by
    subst ht
    simp only [rvP] at h6
    cases hl : lk t r.tm with
    | none => rw [hl] at h6; cases h6
    | some y =>
      rw [hl] at h6
      have : r.get t = y := by simp [St.get, hl]
      rw [this]
      exact b9.1 h6

def okX (x : Option (Prop × D)) (d : Option Nat) (s : St) (K : St → Prop) : Prop := match x with | some (_, v) => K (s.put d v) | none => False
def vbI (T : Tab) (f : D) (args : List D) (d : Option Nat) (s : St) (K : St → Prop) : Prop := match f with
  | .fn (.func g) fi ca => ovm T g = false ∧ match look T s.os s.nx g (fi ++ args ++ ca) with
    | some (p, r, os', nx') => p ∧ K (St.put ⟨s.tm, os', nx'⟩ d r)
    | none => False
  | _ => False
def bu (P : Program) (T : Tab) (o : Oper) (s : St) (K : St → Prop) : Prop :=
  match o.op with
  | .binOp op t x y _ => gaY P op t (s.ev x) (s.ev y) = none ∧ faD op (s.ev x) (s.ev y) = none ∧ okP (za5 P op t (s.ev x) (s.ev y)) o.dst s K
  | .call c => match c.callee with
    | .builtin .len => match c.args.toList, c.argTypes.toList with
      | [x], [t] => (bp P t).isSome = true ∧ okX (zbx (s.ev x)) o.dst s K
      | _, _ => False
    | .builtin .append => match c.args.toList, c.argTypes.toList with
      | [x, y], [t, u] => qaD P s t u (s.ev x) (s.ev y) = none ∧ t = u ∧ okT (gaX P s t o.dst (s.ev x) (s.ev y)) K
      | _, _ => False
    | .value f => vbI T (s.ev f) (c.args.toList.map s.ev) o.dst s K
    | _ => aop P T o s K
  | .next _ _ => False
  | _ => aop P T o s K
section
variable {K : St → Prop} {d : Option Nat}
theorem uu {x : Option D} (h : okD x d s K) : ∃ r, okD x d s (fun z => z = r) ∧ K r := by
  cases x with
  | none => cases h
  | some v => exact ⟨_, rfl, h⟩
theorem xS {x : Option (Prop × D)} (h : okP x d s K) : ∃ r, okP x d s (fun z => z = r) ∧ K r := by
  cases x with
  | none => cases h
  | some v => exact ⟨_, ⟨h.1, rfl⟩, h.2⟩
theorem gaR {x : Option D} (h : okB x d s K) : ∃ r, okB x d s (fun z => z = r) ∧ K r := by
  unfold okB at *
  cases x with
  | none => cases h
  | some v =>
    simp only at *
    split at h
    · rename_i hc; exact ⟨_, by simp [hc], h⟩
    · cases h
theorem bbm {x : Option (Nat × TypeId × List (List C))} (h : okV x d s K) : ∃ r, okV x d s (fun z => z = r) ∧ K r := by
  cases x with
  | none => cases h
  | some v => exact ⟨_, rfl, h⟩
theorem gap {x : Option St} (h : okS x K) : ∃ r, okS x (fun z => z = r) ∧ K r := by
  cases x with
  | none => cases h
  | some v => exact ⟨_, rfl, h⟩
theorem uaS {x : Option (Prop × St)} (h : okT x K) : ∃ r, okT x (fun z => z = r) ∧ K r := by
  cases x with
  | none => cases h
  | some v => exact ⟨_, ⟨h.1, rfl⟩, h.2⟩
theorem kaI {x : Option (Prop × D × St)} (h : okQ x d K False) : ∃ r, okQ x d (fun z => z = r) False ∧ K r := by
  cases x with
  | none => cases h
  | some v => exact ⟨_, ⟨h.1, rfl⟩, h.2⟩
theorem xbt {x : Option (St × D)} {d : Option Nat} {K : St → Prop} (h : okE x d K) : ∃ r, okE x d (fun z => z = r) ∧ K r := by
  unfold okE at *
  split at h
  · exact ⟨_, rfl, h⟩
  · cases h
theorem zbj {x : Option (Option D × D)} {ok : Bool} (h : okL x ok d s K) : ∃ r, okL x ok d s (fun z => z = r) ∧ K r := by
  unfold okL at *
  split at h
  · exact ⟨_, rfl, h⟩
  · exact ⟨_, rfl, h⟩
  · cases h
theorem wbZ {c x y : D} (h : pk c x y d s K) : ∃ r, pk c x y d s (fun z => z = r) ∧ K r := by
  unfold pk at *
  split at h
  · rename_i b
    cases b
    · exact ⟨s.put d y, by simp, h.2 rfl⟩
    · exact ⟨s.put d x, by simp, h.1 rfl⟩
  · cases h
theorem ja6 {x : D} (h : baD x d s K) : ∃ r, baD x d s (fun z => z = r) ∧ K r := by
  unfold baD at *
  split at h
  · exact ⟨_, rfl, h⟩
  · exact ⟨_, rfl, h⟩
  · exact ⟨_, rfl, h⟩
  · exact ⟨_, rfl, h⟩
  · cases h
theorem za1 {o : Oper} (h : bu P T o s K) : ∃ r, aop P T o s (fun z => z = r) ∧ K r := by
  unfold bu at h
  unfold aop at *
  cases ho : o.op with
  | binOp op t x y _ =>
    rw [ho] at h
    obtain ⟨h1, h2, h2'⟩ := h
    obtain ⟨r, h3, h4⟩ := xS h2'
    exact ⟨r, by simp only [h1, h2, okU, okA]; exact h3, h4⟩
  | call c =>
    rw [ho] at h
    simp only at *
    cases hc : c.callee with
    | builtin b =>
      rw [hc] at h
      cases b with
      | len =>
        simp only at h ⊢
        split at h
        · obtain ⟨h1, h2⟩ := h
          rename_i x t hx ht
          unfold okX at h2
          split at h2
          · rename_i p v hl
            refine ⟨s.put o.dst v, ?_, h2⟩
            rw [hx, ht]
            exact ⟨h1, by rw [hl]; exact fun _ => rfl⟩
          · cases h2
        · cases h
      | min => exact uu h
      | max => exact uu h
      | append =>
        simp only at h ⊢
        split at h
        · obtain ⟨h0, h1, h2⟩ := h
          obtain ⟨r, h3, h4⟩ := uaS h2
          rename_i x y t u hx ht
          simp only [hx, ht, h0, okM]
          exact ⟨r, ⟨h1, h3⟩, h4⟩
        · cases h
      | cap =>
        simp only at h ⊢
        split at h
        · obtain ⟨h1, h2⟩ := h
          rename_i x t hx ht
          obtain ⟨r, h3, h4⟩ := xS h2
          exact ⟨r, ⟨h1, h3⟩, h4⟩
        · cases h
      | clear =>
        simp only at h ⊢
        split at h
        · rename_i x t hx ht
          obtain ⟨r, h3, h4⟩ := kaI h
          exact ⟨r, h3, h4⟩
        · cases h
      | copy =>
        simp only at h ⊢
        split at h
        · rename_i x y t u hx ht
          obtain ⟨r, h3, h4⟩ := kaI h
          exact ⟨r, h3, h4⟩
        · cases h
      | _ => cases h
    | value f =>
      rw [hc] at h
      simp only [vbI] at h ⊢
      split at h
      · rename_i g fi ca hf
        obtain ⟨h0, h⟩ := h
        split at h
        · rename_i p r os' nx' hl
          refine ⟨_, ?_, h.2⟩
          rw [hf]
          simp only [xan, hl, h0]
          first | exact ⟨h.1, rfl⟩ | exact ⟨h.1, trivial⟩
        · cases h
      · cases h
    | _ => rw [hc] at h; simp_all
  | move x => rw [ho] at h; exact ⟨_, rfl, h⟩
  | assign x => rw [ho] at h; exact ⟨_, rfl, h⟩
  | makeFunc f fi ca => rw [ho] at h; exact ⟨_, rfl, h⟩
  | pick c a b => rw [ho] at h; exact wbZ h
  | alloc t => rw [ho] at h; exact gaR h
  | box t x => rw [ho] at h; exact gaR h
  | build t ps => rw [ho] at h; exact uu h
  | buildSlice t m ps => rw [ho] at h; exact bbm h
  | load t x => rw [ho] at h; exact uu h
  | store t p x =>
    rw [ho] at h
    simp only at h ⊢
    obtain ⟨r, h1, h2⟩ := gap h
    cases hx : stD P s t (s.ev p) (s.ev x) with
    | none => rw [hx] at h; cases h
    | some s1 =>
      rw [hx] at h
      exact ⟨_, rfl, h⟩
  | nilCheck x => rw [ho] at h; exact ja6 h
  | unOp op t x => rw [ho] at h; exact uu h
  | convert a b x => rw [ho] at h; exact uu h
  | makeSlice t l c => rw [ho] at h; exact uaS h
  | slice t x lo hi mx =>
    rw [ho] at h
    simp only [okQ, okF] at h ⊢
    split at h
    · split at h
      · exact ⟨_, ⟨h.1, rfl⟩, h.2⟩
      · cases h
    · split at h
      · exact ⟨_, ⟨h.1, rfl⟩, h.2⟩
      · exact xS h
  | fieldAddr t x f => rw [ho] at h; exact uu h
  | field t x f => rw [ho] at h; exact uu h
  | indexAddr t x i => rw [ho] at h; exact xS h
  | index t x i => rw [ho] at h; exact xS h
  | extract x i => rw [ho] at h; exact uu h
  | makeMap t r => rw [ho] at h; exact gap h
  | lookup t x i ok => rw [ho] at h; exact zbj h
  | mapUpdate t m k x =>
    rw [ho] at h
    show ∃ r, (okS (mpU P s t (s.ev m) (s.ev k) (s.ev x)) fun s' => s'.put o.dst .skip = r) ∧ K r
    have h' : okS (mpU P s t (s.ev m) (s.ev k) (s.ev x)) fun s' => K (s'.put o.dst .skip) := h
    cases hx : mpU P s t (s.ev m) (s.ev k) (s.ev x) with
    | none => rw [hx] at h'; cases h'
    | some s1 =>
      rw [hx] at h'
      exact ⟨_, rfl, h'⟩
  | insert t m k x =>
    rw [ho] at h
    show ∃ r, (okS (mpU P s t (s.ev m) (s.ev k) (s.ev x)) fun s' => s'.put o.dst .skip = r) ∧ K r
    have h' : okS (mpU P s t (s.ev m) (s.ev k) (s.ev x)) fun s' => K (s'.put o.dst .skip) := h
    cases hx : mpU P s t (s.ev m) (s.ev k) (s.ev x) with
    | none => rw [hx] at h'; cases h'
    | some s1 =>
      rw [hx] at h'
      exact ⟨_, rfl, h'⟩
  | mapEntry t m k => rw [ho] at h; exact xbt h
  | entryStore t m i x =>
    rw [ho] at h
    show ∃ r, (okS (esU s (s.ev m) (s.ev i) (s.ev x)) fun s' => s'.put o.dst .skip = r) ∧ K r
    have h' : okS (esU s (s.ev m) (s.ev i) (s.ev x)) fun s' => K (s'.put o.dst .skip) := h
    cases hx : esU s (s.ev m) (s.ev i) (s.ev x) with
    | none => rw [hx] at h'; cases h'
    | some s1 =>
      rw [hx] at h'
      exact ⟨_, rfl, h'⟩
  | range t x => rw [ho] at h; exact gap h
  | next x str => rw [ho] at h; exact h.elim
  | entry x => rw [ho] at h; exact uu h
  | _ => rw [ho] at h; simp_all
end
end
end Dm
namespace Dm
open Go
section
variable {δ : List Deferred} {P : Program} {T : Tab} {all : Array Oper} {s s' s'' e : St} {n N : Nat} {K : St → Prop}

structure Ft where
  i : Nat
  T : List Nat
  W : List Nat
  B : Nat
  nx : Nat
def bnd : Ground → Bool
  | .textOnly _ => false
  | .gcOnly _ => false
  | _ => true
def qaC (y x : Ft) : Bool := if apt y.W x.T = true then (if apt x.W y.T = true then gbl y.B y.nx x.T else false) else false
def bF (m i : Nat) : Bool := if (m >>> i) % 2 = 1 then true else false
def jbM (u : Nat) (x : Ft) : List Ft → Prop
  | [] => True
  | y :: l => (if (u >>> y.i) % 2 = 1 then True else qaC y x = true) ∧ jbM u x l
def uh : List Nat → Nat
  | [] => 0
  | u :: _ => u
def ut : List Nat → List Nat
  | [] => []
  | _ :: us => us
def push (x : Ft) (l : List Ft) : List Ft := match x.T with
  | _ :: _ => x :: l
  | [] => if x.nx = x.B then l else x :: l

def dxW (P : Program) (o : Oper) (u i : Nat) (acc : List Ft) (s : St) (Tt : List Nat) (r : St) (k : List Ft → St → Prop) (W : List Nat) : Prop :=
  low s.nx Tt = true ∧ vaq Tt (bk (opT o) s.tm) = true ∧ gbp Tt (bk Tt s.os) = true ∧ s.nx ≤ r.nx ∧ zbr Tt s.nx r.nx r.os = true ∧ rvP Tt s.nx r.nx r.tm o.dst ∧ xaO W r.os s.os Tt ∧
    jbM u ⟨i, Tt, W, s.nx, r.nx⟩ acc ∧ k (push ⟨i, Tt, W, s.nx, r.nx⟩ acc) (s.mrg Tt o.dst r)
def dxR (P : Program) (o : Oper) (u i : Nat) (acc : List Ft) (s : St) (Tt : List Nat) (k : List Ft → St → Prop) (r : St) : Prop := dxW P o u i acc s Tt r k (wOf (stOp o.op) Tt r.os)
def dxL (P : Program) (T : Tab) (o : Oper) (u i : Nat) (acc : List Ft) (s : St) (k : List Ft → St → Prop) (Tt : List Nat) : Prop :=
  bu P T o (s.loc (opT o) Tt s.nx) (dxR P o u i acc s Tt k)
def dxE (P : Program) (T : Tab) (o : Oper) (u i : Nat) (acc : List Ft) (s : St) (k : List Ft → St → Prop) : Prop :=
  dxL P T o u i acc s k (clo s.os (uni (xaM (bk (opT o) s.tm)) []))
def dx (P : Program) (T : Tab) (all : Array Oper) : List Oper → List Nat → Nat → List Ft → (St → Prop) → St → Prop
  | [], _, _, _, K, s => K s
  | o :: rest, us, i, acc, K, s => match o.guard with
    | none => dxE P T o (uh us) i acc s fun acc' s' => dx P T all rest (ut us) (i + 1) acc' K s'
    | some (j, w) => grd (xA all j) (s.gd (xA all j)) w (fun s => dxE P T o (uh us) i acc s fun acc' s' => dx P T all rest (ut us) (i + 1) acc' K s') (fun s => dx P T all rest (ut us) (i + 1) acc K (s.put o.dst .skip)) s

def Ent.ft (x : Ent) : Ft := ⟨x.i, x.T, x.W, x.B, x.r.nx⟩
theorem xaj {u : Nat} {x : Ft} : ∀ {l : List Ft}, jbM u x l → ∀ y ∈ l, qaC y x = true ∨ bF u y.i = true
  | [], _, _, h => by cases h
  | z :: l, h, y, hy => by
    obtain ⟨h1, h2⟩ := h
    rcases List.mem_cons.1 hy with rfl | hy
    · split at h1
      · rename_i hh; exact .inr (by rw [bF, if_pos hh])
      · exact .inl h1
    · exact xaj h2 y hy
theorem waW {y x : Ft} (h1 : y.T = []) (h2 : y.W = []) (h3 : y.nx = y.B) : qaC y x = true := by
  have ha : ∀ l : List Nat, apt l [] = true := fun l => qT.2 (by simp)
  unfold qaC
  rw [h2, h1, if_pos (by rfl), if_pos (ha _), w9]
  intro n _
  omega
theorem yaH {y x : Ft} (h1 : x.T = []) (h2 : x.W = []) : qaC y x = true := by
  have ha : ∀ l : List Nat, apt l [] = true := fun l => qT.2 (by simp)
  unfold qaC
  rw [h2, h1, if_pos (ha _), if_pos (by rfl)]
  rfl
theorem wbw {d : Option Nat} {v : D} (h : Eqv s s') : Eqv (s.put d v) (s'.put d v) := by
  cases d with
  | none => exact h
  | some t => exact ⟨fun u => by simp only [St.put, gb, h.1], h.2⟩
theorem ybm {b : Bool} {os : List (Nat × Ob)} : wOf b [] os = [] := by cases b <;> rfl
theorem zan {y x : Ft} (h : qaC y x = true) : (∀ id ∈ y.W, id ∉ x.T) ∧ (∀ id ∈ x.W, id ∉ y.T) ∧ ∀ id ∈ x.T, ¬ (y.B ≤ id ∧ id < y.nx) := by
  unfold qaC at h
  split at h
  · rename_i h1
    split at h
    · rename_i h2; exact ⟨qT.1 h1, qT.1 h2, w9.1 h⟩
    · cases h
  · cases h

structure Out (P : Program) (T : Tab) (all : Array Oper) (ops : List Oper) (us : List Nat) (i : Nat) (acc : List Ft) (s : St) (l : List Ent) (e : St) : Prop where
  tr : Tr P T all l s e
  qaH : ∀ j o, ops[j]? = some o → ∃ x ∈ l, x.i = i + j
  of : ∀ x ∈ l, ∃ j, x.i = i + j ∧ ops[j]? = some x.o
  nx : s.nx ≤ e.nx
  lo : ∀ x ∈ l, s.nx ≤ x.B ∧ x.B ≤ x.r.nx ∧ x.r.nx ≤ e.nx
  two : l.Pairwise fun y x => y.i < x.i ∧ y.r.nx ≤ x.B ∧ y.B ≤ y.r.nx ∧ (qaC y.ft x.ft = true ∨ bF (us.getD (x.i - i) 0) y.i = true)
  acc : ∀ y ∈ acc, ∀ x ∈ l, qaC y x.ft = true ∨ bF (us.getD (x.i - i) 0) y.i = true

theorem ubi (s : St) (d : Option Nat) : Eqv (s.put d .skip) (s.mrg [] d ((⟨[], [], s.nx⟩ : St).put d .skip)) :=
  Sk.eqv (x := ⟨0, ⟨d, .move (.tmp 0), 0, "", #[], none⟩, [], [], s.nx, (⟨[], [], s.nx⟩ : St).put d .skip⟩) ⟨rfl, rfl⟩

theorem ybq {o : Oper} {u i : Nat} {acc : List Ft} {k : List Ft → St → Prop} (h : dxE P T o u i acc s k) :
    ∃ x : Ent, x.i = i ∧ x.o = o ∧ x.B = s.nx ∧ Ex P T x s ∧ s.nx ≤ x.r.nx ∧ (∀ y ∈ acc, qaC y x.ft = true ∨ bF u y.i = true) ∧ (x.T = [] → x.W = []) ∧ k (push x.ft acc) (x.app s) := by
  unfold dxE dxL at h
  generalize clo s.os (uni (xaM (bk (opT o) s.tm)) []) = Tt at h
  obtain ⟨r, h1, h2⟩ := za1 h
  unfold dxR at h2
  have hW : Tt = [] → wOf (stOp o.op) Tt r.os = [] := fun h => by subst h; exact ybm
  generalize wOf (stOp o.op) Tt r.os = W at h2 hW
  obtain ⟨h3, h4, h5, h6, h7, h8, h9, h10, h11⟩ := h2
  refine ⟨⟨i, o, Tt, W, s.nx, r⟩, rfl, rfl, rfl, ⟨h1, zb0 h3 h4 h5 h6 h7 h8, gY h9, fun t ht => ?_⟩, h6, xaj h10, hW, h11⟩
  have ht' : o.dst = some t := ht
  rw [ht'] at h8
  simp only [rvP] at h8
  cases hl : lk t r.tm with
  | none => rw [hl] at h8; cases h8
  | some d => rfl
theorem qa7 {x y : Ft} {l : List Ft} (h : y ∈ l) : y ∈ push x l := by
  unfold push
  split
  · exact List.mem_cons_of_mem _ h
  · split
    · exact h
    · exact List.mem_cons_of_mem _ h
theorem baT {x : Ft} {l : List Ft} : x ∈ push x l ∨ (x.T = [] ∧ x.nx = x.B) := by
  unfold push
  split
  · exact .inl (by simp)
  · rename_i h
    split
    · rename_i h'; exact .inr ⟨h, h'⟩
    · exact .inl (by simp)
theorem vaR {us : List Nat} {k : Nat} : (ut us).getD k 0 = us.getD (k + 1) 0 := by cases us <;> rfl
theorem kbq {us : List Nat} : uh us = us.getD 0 0 := by cases us <;> rfl
theorem xav {o : Oper} {rest : List Oper} {us : List Nat} {i : Nat} {acc acc' : List Ft} {x : Ent} {s1 : St} {l : List Ent} (h1 : x.i = i) (h2 : x.o = o) (hg : Good P T all x s) (hB : x.B = s.nx) (hnx : s.nx ≤ x.r.nx)
    (hacc : ∀ y ∈ acc, qaC y x.ft = true ∨ bF (uh us) y.i = true) (ho : Out P T all rest (ut us) (i + 1) acc' s1 l e) (he : Eqv s1 (x.app s)) (hn1 : s1.nx = x.r.nx) (hsub : ∀ y ∈ acc, y ∈ acc')
    (hself : x.ft ∈ acc' ∨ (x.T = [] ∧ x.W = [] ∧ x.r.nx = x.B)) : Out P T all (o :: rest) us i acc s (x :: l) e where
  tr := ⟨hg, ho.tr.eqv he⟩
  qaH j o' hj := by
    cases j with
    | zero => exact ⟨x, by simp, by omega⟩
    | succ j =>
      obtain ⟨y, hy, hyi⟩ := ho.qaH j o' (by simpa using hj)
      exact ⟨y, by simp [hy], by omega⟩
  of y hy := by
    rcases List.mem_cons.1 hy with rfl | hy
    · exact ⟨0, by omega, by simp [h2]⟩
    · obtain ⟨j, hj1, hj2⟩ := ho.of y hy
      exact ⟨j + 1, by omega, by simpa using hj2⟩
  nx := by have := ho.nx; omega
  lo y hy := by
    have h3 := ho.nx
    rcases List.mem_cons.1 hy with rfl | hy
    · exact ⟨by omega, by omega, by omega⟩
    · have := ho.lo y hy
      omega
  two := by
    have hus : ∀ y ∈ l, (ut us).getD (y.i - (i + 1)) 0 = us.getD (y.i - i) 0 := fun y hy => by
      obtain ⟨j, hj1, _⟩ := ho.of y hy
      rw [vaR, show y.i - (i + 1) + 1 = y.i - i from by omega]
    refine List.pairwise_cons.2 ⟨fun y hy => ?_, ho.two.imp_of_mem fun {z y} _ hy h => ⟨h.1, h.2.1, h.2.2.1, by rw [← hus y hy]; exact h.2.2.2⟩⟩
    obtain ⟨j, hj1, _⟩ := ho.of y hy
    have h3 := ho.lo y hy
    refine ⟨by omega, by omega, by omega, ?_⟩
    rcases hself with h4 | ⟨h4, h5, h6⟩
    · rw [← hus y hy]; exact ho.acc _ h4 y hy
    · exact .inl (waW h4 h5 h6)
  acc y hy z hz := by
    rcases List.mem_cons.1 hz with rfl | hz
    · rw [h1, Nat.sub_self, ← kbq]; exact hacc y hy
    · obtain ⟨j, hj1, _⟩ := ho.of z hz
      have := ho.acc y (hsub y hy) z hz
      rwa [vaR, show z.i - (i + 1) + 1 = z.i - i from by omega] at this

theorem qaA : ∀ (ops : List Oper) (us : List Nat) (i : Nat) (acc : List Ft) (s : St), dx P T all ops us i acc K s → ∃ l e, K e ∧ Out P T all ops us i acc s l e
  | [], us, i, acc, s, h => ⟨[], s, h, ⟨⟨fun _ => rfl, fun _ => rfl⟩, fun j o h => by simp at h, fun x h => (by cases h), Nat.le_refl _, fun x h => (by cases h), .nil, fun y _ x h => (by cases h)⟩⟩
  | o :: rest, us, i, acc, s, h => by
    have hexec : ∀ s1 : St, s1.nx = s.nx → Eqv s1 s → dxE P T o (uh us) i acc s1 (fun acc' s' => dx P T all rest (ut us) (i + 1) acc' K s') → (∀ x : Ent, x.o = o → Ex P T x s → Good P T all x s) →
        ∃ l e, K e ∧ Out P T all (o :: rest) us i acc s l e := fun s1 hn1 he h hgood => by
      obtain ⟨x, h1, h2, h3, h4, h5, h6, h7, h8⟩ := ybq h
      obtain ⟨l, e, h9, h10⟩ := qaA rest (ut us) (i + 1) _ _ h8
      have hx : Ex P T x s := h4.of (fun t _ => he.1 t) (fun i _ => he.2 i)
      refine ⟨x :: l, e, h9, xav h1 h2 (hgood x h2 hx) (by omega) (by omega) h6 h10 he.app rfl (fun y hy => qa7 hy) ?_⟩
      rcases baT (x := x.ft) (l := acc) with h | ⟨h, h'⟩
      · exact .inl h
      · exact .inr ⟨h, h7 h, h'⟩
    have hskip : ∀ s1 : St, s1.nx = s.nx → Eqv s1 s → dx P T all rest (ut us) (i + 1) acc K (s1.put o.dst .skip) → (∀ x : Ent, x.o = o → Sk x → Good P T all x s) → ∃ l e, K e ∧ Out P T all (o :: rest) us i acc s l e := fun s1 hn1 he h hgood => by
      obtain ⟨l, e, h9, h10⟩ := qaA rest (ut us) (i + 1) _ _ h
      have hput : ∀ s : St, (s.put o.dst .skip).nx = s.nx := fun s => by cases o.dst <;> rfl
      exact ⟨⟨i, o, [], [], s.nx, (⟨[], [], s.nx⟩ : St).put o.dst .skip⟩ :: l, e, h9, xav rfl rfl (hgood _ rfl ⟨rfl, rfl⟩) rfl (by simp [hput]) (fun y hy => .inl (yaH rfl rfl)) h10 ((wbw he).trans (ubi s o.dst)) (by simp [hput, hn1]) (fun y hy => hy) (.inr ⟨rfl, rfl, by simp [hput]⟩)⟩
    rw [dx] at h
    split at h
    · rename_i hg
      exact hexec s rfl ⟨fun _ => rfl, fun _ => rfl⟩ h fun x hx hE => by unfold Good; rw [hx, hg]; exact hE
    · rename_i j w hg
      unfold grd at h
      generalize hv : s.gd (xA all j) = v at h
      split at h
      · rename_i b
        have hrep : ∀ w', b = w' → Eqv (s.rep (xA all j) (.bool w')) s := fun w' hw => by
          subst hw
          cases ht : xA all j with
          | none => exact ⟨fun _ => rfl, fun _ => rfl⟩
          | some t =>
            refine ⟨fun u => ?_, fun _ => rfl⟩
            rw [ht] at hv
            simp only [St.rep, kX]
            split
            · rename_i hc
              obtain ⟨y, hy⟩ := Option.isSome_iff_exists.1 hc.2
              have : s.get t = y := by simp [St.get, hy]
              rw [hc.1, hy, ← this]
              exact congrArg _ hv.symm
            · rfl
        have hrnx : ∀ d, (s.rep (xA all j) d).nx = s.nx := fun d => by cases xA all j <;> rfl
        by_cases hb : b = w
        · refine hexec _ (hrnx _) (hrep w hb) (h.1 hb) fun x hx hE => ?_
          unfold Good
          rw [hx, hg]
          simp only [hv]
          exact ⟨fun _ => hE, fun h => by rw [hb] at h; cases w <;> cases h⟩
        · have hb' : b = !w := by cases b <;> cases w <;> simp_all
          refine hskip _ (hrnx _) (hrep _ hb') (h.2 hb') fun x hx hS => ?_
          unfold Good
          rw [hx, hg]
          simp only [hv]
          exact ⟨fun h => absurd h hb, fun _ => hS⟩
      · refine hskip s rfl ⟨fun _ => rfl, fun _ => rfl⟩ h fun x hx hS => ?_
        unfold Good
        rw [hx, hg]
        simp only [hv]
        exact hS
      · cases h

def ubJ (As : List Nat) : List Edge → Nat
  | [] => 0
  | e :: l => match bnd e.ground with
    | true => ((1 <<< e.on) ||| As.getD e.on 0) ||| ubJ As l
    | false => ubJ As l
def vbi (all : Array Oper) : Nat → List (Nat × Oper) → List Nat → List Oper → List Nat → Bool
  | _, _, _, [], _ => true
  | _, _, _, _ :: _, [] => false
  | i, pre, As, o :: rest, u :: us => Nat.beq u (ubJ As o.after.toList) && (o.after.toList.all fun ed => !bnd ed.ground || Nat.blt ed.on i) && (pre.all fun p => bF u p.1 || p.2.apart all o) && vbi all (i + 1) ((i, o) :: pre) (As ++ [u]) rest us
theorem uaI {a b i : Nat} (h : bF (a ||| b) i = true) : bF a i = true ∨ bF b i = true := by
  have e : ∀ m, bF m i = m.testBit i := fun m => by
    rw [Nat.testBit_eq_decide_div_mod_eq, bF, Nat.shiftRight_eq_div_pow]
    by_cases h : m / 2 ^ i % 2 = 1 <;> simp [h]
  rw [e, Nat.testBit_or, Bool.or_eq_true] at h
  rw [e, e]
  exact h
theorem ya6 {a i : Nat} (h : bF (1 <<< a) i = true) : a = i := by
  unfold bF at h
  split at h
  · rename_i h1
    rw [Nat.one_shiftLeft, Nat.shiftRight_eq_div_pow, ← decide_eq_true_eq (p := _ = 1), ← Nat.testBit_eq_decide_div_mod_eq, Nat.testBit_two_pow] at h1
    simpa using h1
  · cases h
theorem yK {i : Nat} : bF 0 i = false := by simp [bF]
theorem uae {ed : Edge} : Region.binds .any ed = bnd ed.ground := by
  obtain ⟨on, gr⟩ := ed
  cases gr <;> rfl
theorem wU {o : Oper} {i : Nat} (ho : all[i]? = some o) {As : List Nat} (hA : ∀ j p, bF (As.getD j 0) p = true → Anc all p j) : ∀ {l : List Edge}, (∀ ed ∈ l, ed ∈ o.after) → ∀ p, bF (ubJ As l) p = true → Anc all p i
  | [], _, p, h => by rw [ubJ, yK] at h; cases h
  | e :: l, hl, p, h => by
    rw [ubJ] at h
    split at h
    · rename_i hb
      have hb' : Region.binds .any e = true := by rw [uae]; exact hb
      rcases uaI h with h | h
      · rcases uaI h with h | h
        · have := ya6 h
          subst this
          exact .one ho (hl e (by simp)) hb'
        · exact .more ho (hl e (by simp)) hb' (hA _ _ h)
      · exact wU ho hA (fun ed hed => hl ed (by simp [hed])) p h
    · exact wU ho hA (fun ed hed => hl ed (by simp [hed])) p h
theorem vT : ∀ {ops : List Oper} {i : Nat} {pre : List (Nat × Oper)} {As us : List Nat}, vbi all i pre As ops us = true → As.length = i → (∀ j p, bF (As.getD j 0) p = true → Anc all p j) → (∀ j : Nat, ops[j]? = all[i + j]?) →
    (∀ (j : Nat) (o : Oper), ops[j]? = some o → ∀ ed ∈ o.after, Region.binds .any ed = true → ed.on < i + j) ∧ (∀ p ∈ pre, ∀ (j : Nat) (o : Oper), ops[j]? = some o → bF (us.getD j 0) p.1 = true ∨ p.2.apart all o = true) ∧
    (∀ (j k : Nat) (o o' : Oper), j < k → ops[j]? = some o → ops[k]? = some o' → bF (us.getD k 0) (i + j) = true ∨ o.apart all o' = true) ∧ ∀ (j : Nat) (o : Oper), ops[j]? = some o → ∀ p, bF (us.getD j 0) p = true → Anc all p (i + j)
  | [], _, _, _, _, _, _, _, _ => ⟨fun j o h => by simp at h, fun p _ j o h => by simp at h, fun j k o o' _ h => by simp at h, fun j o h => by simp at h⟩
  | o :: rest, i, pre, As, [], h, _, _, _ => by simp [vbi] at h
  | o :: rest, i, pre, As, u :: us, h, hl, hA, hops => by
    simp only [vbi, Bool.and_eq_true] at h
    obtain ⟨⟨⟨h0, h1⟩, h2⟩, h3⟩ := h
    have ho : all[i]? = some o := by rw [← Nat.add_zero i, ← hops 0]; rfl
    have hu : ∀ p, bF u p = true → Anc all p i := fun p hp => wU ho hA (l := o.after.toList) (fun ed hed => by simpa using hed) p (by rw [← Nat.eq_of_beq_eq_true h0]; exact hp)
    have hA' : ∀ j p, bF ((As ++ [u]).getD j 0) p = true → Anc all p j := fun j p hp => by
      rw [List.getD_eq_getElem?_getD, List.getElem?_append] at hp
      split at hp
      · exact hA j p (by rw [List.getD_eq_getElem?_getD]; exact hp)
      · rename_i hj
        by_cases hji : j = i
        · subst hji
          rw [← hl, Nat.sub_self] at hp
          rw [← hl]
          exact hl ▸ hu p (by simpa using hp)
        · rw [List.getElem?_eq_none (by simp; omega)] at hp
          simp [yK] at hp
    obtain ⟨h4, h5, h6, h7⟩ := vT h3 (by simp [hl]) hA' (fun j => by have := hops (j + 1); simpa [Nat.add_assoc, Nat.add_comm 1 j] using this)
    refine ⟨fun j o' hj ed hed hb => ?_, fun p hp j o' hj => ?_, fun j k o1 o2 hjk hj hk => ?_, fun j o' hj p hp => ?_⟩
    · cases j with
      | zero =>
        obtain rfl : o = o' := by simpa using hj
        have h7 := List.all_eq_true.1 h1 ed (by simpa using hed)
        rw [← uae, hb] at h7
        simp only [Bool.not_true, Bool.false_or, Nat.blt_eq] at h7
        omega
      | succ j =>
        have := h4 j o' (by simpa using hj) ed hed hb
        omega
    · cases j with
      | zero =>
        obtain rfl : o = o' := by simpa using hj
        have := List.all_eq_true.1 h2 p hp
        simpa using this
      | succ j => exact h5 p (by simp [hp]) j o' (by simpa using hj)
    · cases k with
      | zero => omega
      | succ k =>
        cases j with
        | zero =>
          obtain rfl : o = o1 := by simpa using hj
          exact h5 (i, o) (by simp) k o2 (by simpa using hk)
        | succ j =>
          have := h6 j k o1 o2 (by omega) (by simpa using hj) (by simpa using hk)
          rwa [show i + 1 + j = i + (j + 1) from by omega] at this
    · cases j with
      | zero => exact hu p (by simpa using hp)
      | succ j =>
        have := h7 j o' (by simpa using hj) p (by simpa using hp)
        rwa [show i + 1 + j = i + (j + 1) from by omega] at this

def wcH (all : Array Oper) (us us' : List Nat) : Bool := (List.range all.size).all fun k => (List.range k).all fun j => !bF (us'.getD k 0) j || (bF (us.getD k 0) j || match all[j]?, all[k]? with
  | some y, some x => cmB all y x
  | _, _ => false)
theorem baP {us us' : List Nat} (h : wcH all us us' = true) {j k : Nat} {y x : Oper} (hjk : j < k) (hy : all[j]? = some y) (hx : all[k]? = some x) (hb : bF (us'.getD k 0) j = true) : bF (us.getD k 0) j = true ∨ cmB all y x = true := by
  have hk : k < all.size := (Array.getElem?_eq_some_iff.1 hx).1
  have h1 := List.all_eq_true.1 (List.all_eq_true.1 h k (List.mem_range.2 hk)) j (List.mem_range.2 hjk)
  rw [hb, hy, hx] at h1
  simpa using h1
theorem uc.ucW (us us' : List Nat) (hT : ya P T) {i : Nat} {ops : Array Oper} {Q : Exit → St → Prop} (hm : P.follows .mixedOrders = true) (hB : vbi ops 0 [] [] ops.toList us = true) (hC : wcH ops us us' = true) (hd : ops.toList.all (xm n) = true)
    (h : dx P T ops ops.toList us' 0 [] (Q .normal) s) : uc P n N i ops Q s := by
  intro δ g a w hr hn
  obtain ⟨l, e, hK, ho⟩ := qaA _ _ _ _ _ h
  obtain ⟨hp1, _, hp3, hp4⟩ := vT hB rfl (fun j p h => by simp [yK] at h) (fun j => by simp)
  have hof : ∀ x ∈ l, ops[x.i]? = some x.o := fun x hx => by
    obtain ⟨j, h1, h2⟩ := ho.of x hx
    have : x.i = j := by omega
    rw [this]
    simpa using h2
  have hCC : Ext w { w with drawn := w.drawn + 1 } := ⟨Nat.le_refl _, fun _ _ => rfl, rfl, rfl, rfl, Nat.le_succ _⟩
  obtain ⟨h6, h7⟩ := hr.o.grow hCC (I := g.I) (fun b hb => hb) (fun b _ hb => hb) (fun b hb => (hr.o.cel b hb).keep (hCC.2.1 b (hr.o.imm b hb).1))
  have hr' : Rel δ (g.imm g.I) s a { w with drawn := w.drawn + 1 } := hr.of h6 h7.tm rfl
  have hlen : l.length = ops.size := by
    have hnd : (l.map (·.i)).Pairwise (· < ·) := (List.pairwise_map).2 (ho.two.imp fun h => h.1)
    have h1 : l.map (·.i) = List.range ops.size := by
      refine List.Perm.eq_of_pairwise (le := (· < ·)) (fun a b _ _ h h' => by omega) hnd List.pairwise_lt_range ?_
      refine (List.perm_ext_iff_of_nodup (hnd.imp fun h => Nat.ne_of_lt h) List.nodup_range).2 fun k => ?_
      rw [List.mem_map, List.mem_range]
      constructor
      · rintro ⟨x, hx, rfl⟩
        exact (Array.getElem?_eq_some_iff.1 (hof x hx)).1
      · intro hk
        obtain ⟨x, hx, hxi⟩ := ho.qaH k ops[k] (by simp [hk])
        exact ⟨x, hx, by omega⟩
    have h2 := congrArg List.length h1
    simpa using h2
  refine wp_region_any hm (vV (e := e) hT.toS hd (fun i o hi ed hed hb => ?_) ops.size _ l _ s a _ hlen (by simp) (fun i o hi => ?_) (fun i hi => ?_) hof ?_ (fun x hx => ⟨(ho.lo x hx).2.2, (ho.lo x hx).2.1⟩) ho.tr (hr'.toP.less fun id hid => ?_) hn fun g' a' w' h1 h2 h3 => ?_)
  · have := hp1 i o (by simpa using hi) ed hed hb
    omega
  · by_cases hsz : i < ops.size <;> simp [Array.getD, hsz] at hi
  · constructor
    · intro _
      obtain ⟨x, hx, hxi⟩ := ho.qaH i ops[i] (by simp [hi])
      exact ⟨x, hx, by omega⟩
    · intro _
      simp [Array.getD, hi]
  · refine ho.two.imp_of_mem fun {y x} hy hx h => ⟨h.1, h.2.1, h.2.2.1, ?_⟩
    rw [Nat.sub_zero] at h
    have h9 := hp3 y.i x.i y.o x.o h.1 (by simpa using hof y hy) (by simpa using hof x hx)
    rw [Nat.zero_add] at h9
    by_cases hed : bF (us.getD x.i 0) y.i = true
    · left
      have := hp4 x.i x.o (by simpa using hof x hx) y.i hed
      rwa [Nat.zero_add] at this
    · right
      rcases h.2.2.2 with h8 | h8
      · left
        have h8 := zan h8
        exact ⟨h9.resolve_left hed, h8.1, h8.2.1, h8.2.2, h.2.1, h.2.2.1⟩
      · right
        have h10 := (baP hC h.1 (hof y hy) (hof x hx) h8).resolve_left hed
        obtain ⟨s', hg⟩ := ho.tr.good y hy
        exact ⟨h10, zaV rfl h10 hg⟩
  · rcases hid with ⟨x, hx, h1, h2⟩ | h1
    · have := ho.lo x hx; omega
    · have := ho.nx; omega
  · refine ⟨g', e, hK, h1.toR fun id hid => hid, h2, ?_⟩
    have h10 : Step g s w (g.imm g.I) s { w with drawn := w.drawn + 1 } := h7.tm
    exact (h10.trans h3).toN
theorem uc.run (us : List Nat) (hT : ya P T) {i : Nat} {ops : Array Oper} {Q : Exit → St → Prop} (hm : P.follows .mixedOrders = true) (hB : vbi ops 0 [] [] ops.toList us = true) (hd : ops.toList.all (xm n) = true)
    (h : dx P T ops ops.toList us 0 [] (Q .normal) s) : uc P n N i ops Q s := by
  refine uc.ucW us us hT hm hB ?_ hd h
  unfold wcH
  rw [List.all_eq_true]
  intro k _
  rw [List.all_eq_true]
  intro j _
  cases bF (us.getD k 0) j <;> simp
end
end Dm
namespace Dm
open Go
section
variable {P : Program} {T : Tab} {all : Array Oper} {rest : List Oper} {s s' r : St} {K : St → Prop} {d : Option Nat} {ty : TypeId} {pos : String} {af : Array Edge} {gd : Option (Nat × Bool)} {i i' : Nat} {acc acc' : List Ft} {Tt W : List Nat}
attribute [go_sem] mem sub apt low inR qbq gbl ins uni vk mob xaM bc0 cont clo vaq gbp zbr rvP xaO gone wOf qaC jbM uh ut
@[go_sem] theorem qch {a b : Nat} : zm (.ref a b) = [a] := by rw [zm]
@[go_sem] theorem kbO {a b c e f : Nat} : zm (.eref a b c e f) = [a] := by rw [zm]
@[go_sem] theorem wcc {a b : Nat} : zm (.vec a b) = [a] := by rw [zm]
@[go_sem] theorem gbX {a b c e f : Nat} : zm (.view a b c e f) = [a] := by rw [zm]
@[go_sem] theorem gcT {a : Nat} : zm (.mp a) = [a] := by rw [zm]
@[go_sem] theorem kbK : zm .nilm = [] := by simp [zm]
@[go_sem] theorem vbz {v : IntKind} {l : List (Nat × Int)} : vk (l.map fun x => D.int v x.2) = [] := by
  induction l with
  | nil => rfl
  | cons x l ih => rw [List.map_cons, vk, ih]; simp [zm]
@[go_sem] theorem xcs {f : Fn} {l m : List D} : zm (.fn f l m) = vk l ++ vk m := by rw [zm]
@[go_sem] theorem xb9 {l : List D} : zm (.agg l) = vk l := by rw [zm]
@[go_sem] theorem jco {l : List D} : zm (.tup l) = vk l := by rw [zm]
@[go_sem] theorem kcY {x : C} : zm (.c x) = [] := by simp [zm]
@[go_sem] theorem gbF : zm .undef = [] := by simp [zm]
@[go_sem] theorem wb5 : zm .skip = [] := by simp [zm]
@[go_sem] theorem ycJ {l : List C} : zm (.rp l) = [] := by simp [zm]
@[go_sem] theorem vbO : zm .nilp = [] := by simp [zm]
@[go_sem] theorem gbZ : zm .nilf = [] := by simp [zm]
@[go_sem] theorem qco : zm .nil = [] := by simp [zm]
@[go_sem] theorem qcj {l : List (List C)} : zm (.csl l) = [] := by simp [zm]
def cns {α : Type} (k : Nat) (x : Option α) (r : List (Nat × α)) : List (Nat × α) := match x with
  | some x => (k, x) :: r
  | none => r
@[go_sem] theorem kbM {α : Type} {l : List (Nat × α)} : bk [] l = [] := rfl
@[go_sem] theorem zbI {α : Type} {k : Nat} {ks : List Nat} {l : List (Nat × α)} : bk (k :: ks) l = cns k (lk k l) (bk ks l) := rfl
@[go_sem] theorem ycr {α : Type} {k : Nat} {x : α} {r : List (Nat × α)} : cns k (some x) r = (k, x) :: r := rfl
@[go_sem] theorem qcr {α : Type} {k : Nat} {r : List (Nat × α)} : cns k none r = r := rfl
@[go_sem] theorem qc0 {rd : List Nat} {B : Nat} {tm : List (Nat × D)} {os : List (Nat × Ob)} {nx : Nat} : St.loc rd Tt B ⟨tm, os, nx⟩ = ⟨bk rd tm, bk Tt os, B⟩ := rfl
def wo {α : Type} (T : List Nat) : List (Nat × α) → List (Nat × α)
  | [] => []
  | (m, x) :: l => if mem m T = true then wo T l else (m, x) :: wo T l
theorem kbk {α : Type} {T : List Nat} : ∀ {l : List (Nat × α)}, (l.filter fun p => !T.contains p.1) = wo T l
  | [] => rfl
  | (m, x) :: l => by
    rw [wo, List.filter_cons, kbk]
    by_cases h : m ∈ T <;> simp [h, mem_iff]
attribute [go_sem] wo
@[go_sem] theorem bc2 {t : Nat} {tm tm' : List (Nat × D)} {os os' : List (Nat × Ob)} {nx nx' : Nat} : St.mrg ⟨tm, os, nx⟩ Tt (some t) ⟨tm', os', nx'⟩ = ⟨(t, (lk t tm').getD .undef) :: tm, os' ++ wo Tt os, nx'⟩ := by
  rw [← kbk]; rfl
@[go_sem] theorem bc3 {tm tm' : List (Nat × D)} {os os' : List (Nat × Ob)} {nx nx' : Nat} : St.mrg ⟨tm, os, nx⟩ Tt none ⟨tm', os', nx'⟩ = ⟨tm, os' ++ wo Tt os, nx'⟩ := by
  rw [← kbk]; rfl
def tO : List Operand → List Nat
  | [] => []
  | .tmp t :: l => t :: tO l
  | .const _ :: l => tO l
  | .global _ :: l => tO l
  | .func _ :: l => tO l
attribute [go_sem] tO
theorem baI : ∀ l : List Operand, (l.filterMap fun | .tmp t => some t | _ => none) = tO l
  | [] => rfl
  | .tmp t :: l => congrArg (t :: ·) (baI l)
  | .const _ :: l => baI l
  | .global _ :: l => baI l
  | .func _ :: l => baI l
theorem bf {o : Oper} : opT o = tO o.op.operands.toList := baI _
def opo : Option Operand → List Operand
  | some x => [x]
  | none => []
attribute [go_sem] opo
@[go_sem] theorem wcY {x : Operand} : opT ⟨d, .move x, ty, pos, af, gd⟩ = tO [x] := bf
@[go_sem] theorem xcd {x : Operand} : opT ⟨d, .assign x, ty, pos, af, gd⟩ = tO [x] := bf
@[go_sem] theorem jdb {c x y : Operand} : opT ⟨d, .pick c x y, ty, pos, af, gd⟩ = tO [c, x, y] := bf
@[go_sem] theorem bcT {t : TypeId} : opT ⟨d, .alloc t, ty, pos, af, gd⟩ = [] := bf
@[go_sem] theorem udg {t : TypeId} {x : Operand} : opT ⟨d, .box t x, ty, pos, af, gd⟩ = tO [x] := bf
@[go_sem] theorem kcR {t : TypeId} {ps : List (Nat × Operand)} : opT ⟨d, .build t ps.toArray, ty, pos, af, gd⟩ = tO (ps.map (·.2)) := by rw [bf]; simp [Op.operands]
@[go_sem] theorem ubg {t : TypeId} {m : Nat} {ps : List (Nat × Operand)} : opT ⟨d, .buildSlice t m ps.toArray, ty, pos, af, gd⟩ = tO (ps.map (·.2)) := by rw [bf]; simp [Op.operands]
@[go_sem] theorem kc2 {t : TypeId} {x : Operand} : opT ⟨d, .load t x, ty, pos, af, gd⟩ = tO [x] := bf
@[go_sem] theorem zcA {t : TypeId} {p x : Operand} : opT ⟨d, .store t p x, ty, pos, af, gd⟩ = tO [p, x] := bf
@[go_sem] theorem gbI {x : Operand} : opT ⟨d, .nilCheck x, ty, pos, af, gd⟩ = tO [x] := bf
@[go_sem] theorem gcz {op : BinOp} {t t' : TypeId} {x y : Operand} : opT ⟨d, .binOp op t x y t', ty, pos, af, gd⟩ = tO [x, y] := bf
@[go_sem] theorem kda {op : UnOp} {t : TypeId} {x : Operand} : opT ⟨d, .unOp op t x, ty, pos, af, gd⟩ = tO [x] := bf
@[go_sem] theorem ubP {t u : TypeId} {x : Operand} : opT ⟨d, .convert t u x, ty, pos, af, gd⟩ = tO [x] := bf
@[go_sem] theorem gbA {f : Fn} {fi ca : List Operand} : opT ⟨d, .makeFunc f fi.toArray ca.toArray, ty, pos, af, gd⟩ = tO (fi ++ ca) := by rw [bf]; simp [Op.operands]
@[go_sem] theorem wbo {t : TypeId} {l c : Operand} : opT ⟨d, .makeSlice t l c, ty, pos, af, gd⟩ = tO [l, c] := bf
@[go_sem] theorem xcI {t : TypeId} {x : Operand} {lo hi mx : Option Operand} : opT ⟨d, .slice t x lo hi mx, ty, pos, af, gd⟩ = tO (x :: (opo lo ++ (opo hi ++ opo mx))) := by
  rw [bf]; cases lo <;> cases hi <;> cases mx <;> rfl
@[go_sem] theorem jbk {t : TypeId} {x : Operand} {f : Nat} : opT ⟨d, .fieldAddr t x f, ty, pos, af, gd⟩ = tO [x] := bf
@[go_sem] theorem bcU {t : TypeId} {x : Operand} {f : Nat} : opT ⟨d, .field t x f, ty, pos, af, gd⟩ = tO [x] := bf
@[go_sem] theorem ybi {t : TypeId} {x j : Operand} : opT ⟨d, .indexAddr t x j, ty, pos, af, gd⟩ = tO [x, j] := bf
@[go_sem] theorem ycR {t : TypeId} {x j : Operand} : opT ⟨d, .index t x j, ty, pos, af, gd⟩ = tO [x, j] := bf
@[go_sem] theorem ubA {t : TypeId} : opT ⟨d, .makeMap t none, ty, pos, af, gd⟩ = tO [] := bf
@[go_sem] theorem wbF {t : TypeId} {r : Operand} : opT ⟨d, .makeMap t (some r), ty, pos, af, gd⟩ = tO [r] := bf
@[go_sem] theorem kcq {t : TypeId} {x i : Operand} {ok : Bool} : opT ⟨d, .lookup t x i ok, ty, pos, af, gd⟩ = tO [x, i] := bf
@[go_sem] theorem kbm {t : TypeId} {m k x : Operand} : opT ⟨d, .mapUpdate t m k x, ty, pos, af, gd⟩ = tO [m, k, x] := bf
@[go_sem] theorem gch {t : TypeId} {m k x : Operand} : opT ⟨d, .insert t m k x, ty, pos, af, gd⟩ = tO [m, k, x] := bf
@[go_sem] theorem jbH {t : TypeId} {m k : Operand} : opT ⟨d, .mapEntry t m k, ty, pos, af, gd⟩ = tO [m, k] := bf
@[go_sem] theorem qbf {t : TypeId} {m i x : Operand} : opT ⟨d, .entryStore t m i x, ty, pos, af, gd⟩ = tO [m, i, x] := bf
@[go_sem] theorem jcG {t : TypeId} {x : Operand} : opT ⟨d, .range t x, ty, pos, af, gd⟩ = tO [x] := bf
@[go_sem] theorem jcT {x : Operand} : opT ⟨d, .entry x, ty, pos, af, gd⟩ = tO [x] := bf
@[go_sem] theorem ybZ {x : Operand} {j : Nat} : opT ⟨d, .extract x j, ty, pos, af, gd⟩ = tO [x] := bf
@[go_sem] theorem ubN {b : Builtin} {xs : List Operand} {ts : Array TypeId} : opT ⟨d, .call ⟨.builtin b, xs.toArray, ts⟩, ty, pos, af, gd⟩ = tO xs := by rw [bf]; simp [Op.operands, Call.operands]
@[go_sem] theorem wc0 {f : Operand} {xs : List Operand} {ts : Array TypeId} : opT ⟨d, .call ⟨.value f, xs.toArray, ts⟩, ty, pos, af, gd⟩ = tO (f :: xs) := by rw [bf]; simp [Op.operands, Call.operands]
@[go_sem] theorem xcG {x : Operand} : stOp (.move x) = false := rfl
@[go_sem] theorem wb3 {x : Operand} : stOp (.assign x) = false := rfl
@[go_sem] theorem wcR {c x y : Operand} : stOp (.pick c x y) = false := rfl
@[go_sem] theorem gca {t : TypeId} : stOp (.alloc t) = false := rfl
@[go_sem] theorem xcY {t : TypeId} {x : Operand} : stOp (.box t x) = false := rfl
@[go_sem] theorem zcr {t : TypeId} {ps : Array (Nat × Operand)} : stOp (.build t ps) = false := rfl
@[go_sem] theorem xa7 {t : TypeId} {m : Nat} {ps : Array (Nat × Operand)} : stOp (.buildSlice t m ps) = false := rfl
@[go_sem] theorem gcI {t : TypeId} {x : Operand} : stOp (.load t x) = false := rfl
@[go_sem] theorem xcn {t : TypeId} {p x : Operand} : stOp (.store t p x) = true := rfl
@[go_sem] theorem vby {x : Operand} : stOp (.nilCheck x) = false := rfl
@[go_sem] theorem kcm {op : BinOp} {t t' : TypeId} {x y : Operand} : stOp (.binOp op t x y t') = false := rfl
@[go_sem] theorem qcs {op : UnOp} {t : TypeId} {x : Operand} : stOp (.unOp op t x) = false := rfl
@[go_sem] theorem ybB {t u : TypeId} {x : Operand} : stOp (.convert t u x) = false := rfl
@[go_sem] theorem kbl {f : Fn} {fi ca : Array Operand} : stOp (.makeFunc f fi ca) = false := rfl
@[go_sem] theorem kbc {t : TypeId} {l c : Operand} : stOp (.makeSlice t l c) = false := rfl
@[go_sem] theorem wcj {t : TypeId} {x : Operand} {lo hi mx : Option Operand} : stOp (.slice t x lo hi mx) = false := rfl
@[go_sem] theorem wbe {t : TypeId} {x : Operand} {f : Nat} : stOp (.fieldAddr t x f) = false := rfl
@[go_sem] theorem bb9 {t : TypeId} {x : Operand} {f : Nat} : stOp (.field t x f) = false := rfl
@[go_sem] theorem bbc {t : TypeId} {x j : Operand} : stOp (.indexAddr t x j) = false := rfl
@[go_sem] theorem wcp {t : TypeId} {x j : Operand} : stOp (.index t x j) = false := rfl
@[go_sem] theorem vbF {t : TypeId} {r : Option Operand} : stOp (.makeMap t r) = false := rfl
@[go_sem] theorem wbX {t : TypeId} {x i : Operand} {ok : Bool} : stOp (.lookup t x i ok) = false := rfl
@[go_sem] theorem zbc {t : TypeId} {m k x : Operand} : stOp (.mapUpdate t m k x) = true := rfl
@[go_sem] theorem qbV {t : TypeId} {m k x : Operand} : stOp (.insert t m k x) = true := rfl
@[go_sem] theorem bbi {t : TypeId} {m k : Operand} : stOp (.mapEntry t m k) = true := rfl
@[go_sem] theorem ya4 {t : TypeId} {m i x : Operand} : stOp (.entryStore t m i x) = true := rfl
@[go_sem] theorem ucq {t : TypeId} {x : Operand} : stOp (.range t x) = false := rfl
@[go_sem] theorem jca {x : Operand} : stOp (.entry x) = false := rfl
@[go_sem] theorem xbD {x : Operand} {j : Nat} : stOp (.extract x j) = false := rfl
@[go_sem] theorem xc0 {xs ts} : stOp (.call ⟨.builtin .len, xs, ts⟩) = false := rfl
@[go_sem] theorem zc5 {xs ts} : stOp (.call ⟨.builtin .min, xs, ts⟩) = false := rfl
@[go_sem] theorem vc2 {xs ts} : stOp (.call ⟨.builtin .max, xs, ts⟩) = false := rfl
@[go_sem] theorem xbM {xs ts} : stOp (.call ⟨.builtin .append, xs, ts⟩) = true := rfl
@[go_sem] theorem vcF {xs ts} : stOp (.call ⟨.builtin .copy, xs, ts⟩) = true := rfl
@[go_sem] theorem jc0 {xs ts} : stOp (.call ⟨.builtin .cap, xs, ts⟩) = false := rfl
@[go_sem] theorem gcS {f : Operand} {xs ts} : stOp (.call ⟨.value f, xs, ts⟩) = false := rfl
@[congr] theorem wbz {o : Oper} (h : s = s') : bu P T o s K = bu P T o s' K := by rw [h]
@[congr] theorem yb4 {x x' : Option (Prop × D)} (h : x = x') (h' : s = s') : okX x d s K = okX x' d s' K := by rw [h, h']
@[congr] theorem wbH {f f' : D} {args args' : List D} (h : f = f') (h1 : args = args') (h' : s = s') : vbI T f args d s K = vbI T f' args' d s' K := by rw [h, h1, h']
@[go_sem] theorem wcm {p : Prop} {v : D} : okX (some (p, v)) d s K = K (s.put d v) := rfl
@[go_sem] theorem wc2 {x : Operand} : bu P T ⟨d, .move x, ty, pos, af, gd⟩ s K = aop P T ⟨d, .move x, ty, pos, af, gd⟩ s K := rfl
@[go_sem] theorem kco {x : Operand} : bu P T ⟨d, .assign x, ty, pos, af, gd⟩ s K = aop P T ⟨d, .assign x, ty, pos, af, gd⟩ s K := rfl
@[go_sem] theorem qc9 {c x y : Operand} : bu P T ⟨d, .pick c x y, ty, pos, af, gd⟩ s K = aop P T ⟨d, .pick c x y, ty, pos, af, gd⟩ s K := rfl
@[go_sem] theorem vcK {t : TypeId} : bu P T ⟨d, .alloc t, ty, pos, af, gd⟩ s K = aop P T ⟨d, .alloc t, ty, pos, af, gd⟩ s K := rfl
@[go_sem] theorem xdh {t : TypeId} {x : Operand} : bu P T ⟨d, .box t x, ty, pos, af, gd⟩ s K = aop P T ⟨d, .box t x, ty, pos, af, gd⟩ s K := rfl
@[go_sem] theorem bcw {t : TypeId} {ps : Array (Nat × Operand)} : bu P T ⟨d, .build t ps, ty, pos, af, gd⟩ s K = aop P T ⟨d, .build t ps, ty, pos, af, gd⟩ s K := rfl
@[go_sem] theorem xba {t : TypeId} {m : Nat} {ps : Array (Nat × Operand)} : bu P T ⟨d, .buildSlice t m ps, ty, pos, af, gd⟩ s K = aop P T ⟨d, .buildSlice t m ps, ty, pos, af, gd⟩ s K := rfl
@[go_sem] theorem jc1 {t : TypeId} {x : Operand} : bu P T ⟨d, .load t x, ty, pos, af, gd⟩ s K = aop P T ⟨d, .load t x, ty, pos, af, gd⟩ s K := rfl
@[go_sem] theorem xcB {t : TypeId} {p x : Operand} : bu P T ⟨d, .store t p x, ty, pos, af, gd⟩ s K = aop P T ⟨d, .store t p x, ty, pos, af, gd⟩ s K := rfl
@[go_sem] theorem vbE {x : Operand} : bu P T ⟨d, .nilCheck x, ty, pos, af, gd⟩ s K = aop P T ⟨d, .nilCheck x, ty, pos, af, gd⟩ s K := rfl
@[go_sem] theorem ycw {op : BinOp} {t t' : TypeId} {x y : Operand} : bu P T ⟨d, .binOp op t x y t', ty, pos, af, gd⟩ s K = (gaY P op t (s.ev x) (s.ev y) = none ∧ faD op (s.ev x) (s.ev y) = none ∧ okP (za5 P op t (s.ev x) (s.ev y)) d s K) := rfl
@[go_sem] theorem qc6 {op : UnOp} {t : TypeId} {x : Operand} : bu P T ⟨d, .unOp op t x, ty, pos, af, gd⟩ s K = aop P T ⟨d, .unOp op t x, ty, pos, af, gd⟩ s K := rfl
@[go_sem] theorem qbK {t u : TypeId} {x : Operand} : bu P T ⟨d, .convert t u x, ty, pos, af, gd⟩ s K = aop P T ⟨d, .convert t u x, ty, pos, af, gd⟩ s K := rfl
@[go_sem] theorem wbD {f : Fn} {fi ca : Array Operand} : bu P T ⟨d, .makeFunc f fi ca, ty, pos, af, gd⟩ s K = aop P T ⟨d, .makeFunc f fi ca, ty, pos, af, gd⟩ s K := rfl
@[go_sem] theorem wbp {t : TypeId} {l c : Operand} : bu P T ⟨d, .makeSlice t l c, ty, pos, af, gd⟩ s K = aop P T ⟨d, .makeSlice t l c, ty, pos, af, gd⟩ s K := rfl
@[go_sem] theorem zcG {t : TypeId} {x : Operand} {lo hi mx : Option Operand} : bu P T ⟨d, .slice t x lo hi mx, ty, pos, af, gd⟩ s K = aop P T ⟨d, .slice t x lo hi mx, ty, pos, af, gd⟩ s K := rfl
@[go_sem] theorem wbl {t : TypeId} {x : Operand} {f : Nat} : bu P T ⟨d, .fieldAddr t x f, ty, pos, af, gd⟩ s K = aop P T ⟨d, .fieldAddr t x f, ty, pos, af, gd⟩ s K := rfl
@[go_sem] theorem zcz {t : TypeId} {x : Operand} {f : Nat} : bu P T ⟨d, .field t x f, ty, pos, af, gd⟩ s K = aop P T ⟨d, .field t x f, ty, pos, af, gd⟩ s K := rfl
@[go_sem] theorem bbn {t : TypeId} {x j : Operand} : bu P T ⟨d, .indexAddr t x j, ty, pos, af, gd⟩ s K = aop P T ⟨d, .indexAddr t x j, ty, pos, af, gd⟩ s K := rfl
@[go_sem] theorem gcJ {t : TypeId} {x j : Operand} : bu P T ⟨d, .index t x j, ty, pos, af, gd⟩ s K = aop P T ⟨d, .index t x j, ty, pos, af, gd⟩ s K := rfl
@[go_sem] theorem qbN {t : TypeId} {r : Option Operand} : bu P T ⟨d, .makeMap t r, ty, pos, af, gd⟩ s K = aop P T ⟨d, .makeMap t r, ty, pos, af, gd⟩ s K := rfl
@[go_sem] theorem bcl {t : TypeId} {x i : Operand} {ok : Bool} : bu P T ⟨d, .lookup t x i ok, ty, pos, af, gd⟩ s K = aop P T ⟨d, .lookup t x i ok, ty, pos, af, gd⟩ s K := rfl
@[go_sem] theorem jbn {t : TypeId} {m k x : Operand} : bu P T ⟨d, .mapUpdate t m k x, ty, pos, af, gd⟩ s K = aop P T ⟨d, .mapUpdate t m k x, ty, pos, af, gd⟩ s K := rfl
@[go_sem] theorem kci {t : TypeId} {m k x : Operand} : bu P T ⟨d, .insert t m k x, ty, pos, af, gd⟩ s K = aop P T ⟨d, .insert t m k x, ty, pos, af, gd⟩ s K := rfl
@[go_sem] theorem qbH {t : TypeId} {m k : Operand} : bu P T ⟨d, .mapEntry t m k, ty, pos, af, gd⟩ s K = aop P T ⟨d, .mapEntry t m k, ty, pos, af, gd⟩ s K := rfl
@[go_sem] theorem gbg {t : TypeId} {m i x : Operand} : bu P T ⟨d, .entryStore t m i x, ty, pos, af, gd⟩ s K = aop P T ⟨d, .entryStore t m i x, ty, pos, af, gd⟩ s K := rfl
@[go_sem] theorem xcR {t : TypeId} {x : Operand} : bu P T ⟨d, .range t x, ty, pos, af, gd⟩ s K = aop P T ⟨d, .range t x, ty, pos, af, gd⟩ s K := rfl
@[go_sem] theorem kcJ {x : Operand} : bu P T ⟨d, .entry x, ty, pos, af, gd⟩ s K = aop P T ⟨d, .entry x, ty, pos, af, gd⟩ s K := rfl
@[go_sem] theorem yb7 {x : Operand} {j : Nat} : bu P T ⟨d, .extract x j, ty, pos, af, gd⟩ s K = aop P T ⟨d, .extract x j, ty, pos, af, gd⟩ s K := rfl
@[go_sem] theorem zdi {x : Operand} {t : TypeId} : bu P T ⟨d, .call ⟨.builtin .len, #[x], #[t]⟩, ty, pos, af, gd⟩ s K = ((bp P t).isSome = true ∧ okX (zbx (s.ev x)) d s K) := rfl
@[go_sem] theorem gdl {xs : Array Operand} {ts : Array TypeId} : bu P T ⟨d, .call ⟨.builtin .min, xs, ts⟩, ty, pos, af, gd⟩ s K = aop P T ⟨d, .call ⟨.builtin .min, xs, ts⟩, ty, pos, af, gd⟩ s K := rfl
@[go_sem] theorem ydd {xs : Array Operand} {ts : Array TypeId} : bu P T ⟨d, .call ⟨.builtin .max, xs, ts⟩, ty, pos, af, gd⟩ s K = aop P T ⟨d, .call ⟨.builtin .max, xs, ts⟩, ty, pos, af, gd⟩ s K := rfl
@[go_sem] theorem qcf {x y : Operand} {t u : TypeId} : bu P T ⟨d, .call ⟨.builtin .append, #[x, y], #[t, u]⟩, ty, pos, af, gd⟩ s K = (qaD P s t u (s.ev x) (s.ev y) = none ∧ t = u ∧ okT (gaX P s t d (s.ev x) (s.ev y)) K) := rfl
@[go_sem] theorem zda {xs : Array Operand} {ts : Array TypeId} : bu P T ⟨d, .call ⟨.builtin .copy, xs, ts⟩, ty, pos, af, gd⟩ s K = aop P T ⟨d, .call ⟨.builtin .copy, xs, ts⟩, ty, pos, af, gd⟩ s K := rfl
@[go_sem] theorem xdj {xs : Array Operand} {ts : Array TypeId} : bu P T ⟨d, .call ⟨.builtin .cap, xs, ts⟩, ty, pos, af, gd⟩ s K = aop P T ⟨d, .call ⟨.builtin .cap, xs, ts⟩, ty, pos, af, gd⟩ s K := rfl
@[go_sem] theorem qcZ {f : Operand} {xs : List Operand} {ts : Array TypeId} : bu P T ⟨d, .call ⟨.value f, xs.toArray, ts⟩, ty, pos, af, gd⟩ s K = vbI T (s.ev f) (xs.map s.ev) d s K := rfl
def xcX (x : Option (Prop × D × List (Nat × Ob) × Nat)) (tm : List (Nat × D)) (d : Option Nat) (K : St → Prop) : Prop := match x with
  | some (p, r, os', nx') => p ∧ K (St.put ⟨tm, os', nx'⟩ d r)
  | none => False
@[congr] theorem gbM {x x' : Option (Prop × D × List (Nat × Ob) × Nat)} {tm tm' : List (Nat × D)} (h : x = x') (h' : tm = tm') : xcX x tm d K = xcX x' tm' d K := by rw [h, h']
@[go_sem] theorem bcC {f : FuncId} {fi ca args : List D} {tm : List (Nat × D)} {os : List (Nat × Ob)} {nx : Nat} : vbI T (.fn (.func f) fi ca) args d ⟨tm, os, nx⟩ K = (ovm T f = false ∧ xcX (look T os nx f (fi ++ args ++ ca)) tm d K) := rfl
@[go_sem] theorem jck {p : Prop} {v : D} {tm : List (Nat × D)} {os : List (Nat × Ob)} {nx : Nat} : xcX (some (p, v, os, nx)) tm d K = (p ∧ K (St.put ⟨tm, os, nx⟩ d v)) := rfl
@[go_sem] theorem kcV {j n : Nat} {T W : List Nat} {B nx : Nat} : push ⟨j, n :: T, W, B, nx⟩ acc = ⟨j, n :: T, W, B, nx⟩ :: acc := rfl
@[go_sem] theorem vc9 {j : Nat} {W : List Nat} {B nx : Nat} : push ⟨j, [], W, B, nx⟩ acc = if nx = B then acc else ⟨j, [], W, B, nx⟩ :: acc := rfl
def kdx (P : Program) (T : Tab) (all : Array Oper) (rest : List Oper) (us : List Nat) (i : Nat) (K : St → Prop) : List Ft → St → Prop := fun acc s => dx P T all rest us i acc K s
def wcn (P : Program) (T : Tab) (o : Oper) (u i : Nat) (acc : List Ft) (k : List Ft → St → Prop) : St → Prop := fun s => dxE P T o u i acc s k
def vb9 (P : Program) (T : Tab) (all : Array Oper) (d : Option Nat) (rest : List Oper) (us : List Nat) (i : Nat) (acc : List Ft) (K : St → Prop) : St → Prop := fun s => dx P T all rest us i acc K (s.put d .skip)
variable {us us' : List Nat} {u u' : Nat}
@[congr] theorem xcg {l : List Oper} (hu : us = us') (hi : i = i') (ha : acc = acc') (h : s = s') : dx P T all l us i acc K s = dx P T all l us' i' acc' K s' := by rw [hu, hi, ha, h]
@[congr] theorem wbN {l : List Oper} (hu : us = us') (hi : i = i') (ha : acc = acc') (h : s = s') : kdx P T all l us i K acc s = kdx P T all l us' i' K acc' s' := by rw [hu, hi, ha, h]
@[congr] theorem zbG {o : Oper} {k : List Ft → St → Prop} (hu : u = u') (hi : i = i') (ha : acc = acc') (h : s = s') : wcn P T o u i acc k s = wcn P T o u' i' acc' k s' := by rw [hu, hi, ha, h]
@[congr] theorem vbJ {l : List Oper} (hu : us = us') (hi : i = i') (ha : acc = acc') (h : s = s') : vb9 P T all d l us i acc K s = vb9 P T all d l us' i' acc' K s' := by rw [hu, hi, ha, h]
@[congr] theorem kbP {o : Oper} {k : List Ft → St → Prop} (hu : u = u') (hi : i = i') (ha : acc = acc') (h : s = s') : dxE P T o u i acc s k = dxE P T o u' i' acc' s' k := by rw [hu, hi, ha, h]
@[congr] theorem bbK {o : Oper} {k : List Ft → St → Prop} {Tt Tt' : List Nat} (hu : u = u') (hi : i = i') (ha : acc = acc') (h : s = s') (ht : Tt = Tt') : dxL P T o u i acc s k Tt = dxL P T o u' i' acc' s' k Tt' := by rw [hu, hi, ha, h, ht]
@[congr] theorem bbN {o : Oper} {k : List Ft → St → Prop} {r r' : St} (h : r = r') : dxR P o u i acc s Tt k r = dxR P o u i acc s Tt k r' := by rw [h]
@[congr] theorem xbP {o : Oper} {k : List Ft → St → Prop} {W W' : List Nat} {r r' : St} (hr : r = r') (h : W = W') : dxW P o u i acc s Tt r k W = dxW P o u i acc s Tt r' k W' := by rw [hr, h]
@[go_sem] theorem uda : dx P T all [] us i acc K s = K s := rfl
@[go_sem] theorem kcM {op : Op} : dx P T all (⟨d, op, ty, pos, af, none⟩ :: rest) us i acc K s = dxE P T ⟨d, op, ty, pos, af, none⟩ (uh us) i acc s (kdx P T all rest (ut us) (i + 1) K) := rfl
@[go_sem] theorem uco {op : Op} {j : Nat} {w : Bool} : dx P T all (⟨d, op, ty, pos, af, some (j, w)⟩ :: rest) us i acc K s =
    grd (xA all j) (s.gd (xA all j)) w (wcn P T ⟨d, op, ty, pos, af, some (j, w)⟩ (uh us) i acc (kdx P T all rest (ut us) (i + 1) K)) (vb9 P T all d rest (ut us) (i + 1) acc K) s := rfl
@[go_sem] theorem gcB {o : Oper} {l r : List Oper} : dx P T all (List.append (o :: l) r) us i acc K s = dx P T all (o :: List.append l r) us i acc K s := rfl
@[go_sem] theorem kcI {r : List Oper} : dx P T all (List.append [] r) us i acc K s = dx P T all r us i acc K s := rfl
@[go_sem] theorem kcP {l r q : List Oper} : dx P T all (List.append (List.append l r) q) us i acc K s = dx P T all (List.append l (List.append r q)) us i acc K s := by
  rw [List.append_eq, List.append_eq, List.append_eq, List.append_eq, List.append_assoc]
@[go_sem] theorem ycu {l : List Oper} : kdx P T all l us i K acc s = dx P T all l us i acc K s := rfl
@[go_sem] theorem xb8 {o : Oper} {k : List Ft → St → Prop} : wcn P T o u i acc k s = dxE P T o u i acc s k := rfl
@[go_sem] theorem gb8 : vb9 P T all d rest us i acc K s = dx P T all rest us i acc K (s.put d .skip) := rfl
@[go_sem] theorem gc7 {o : Oper} {k : List Ft → St → Prop} {tm : List (Nat × D)} {os : List (Nat × Ob)} {nx : Nat} : dxE P T o u i acc ⟨tm, os, nx⟩ k = dxL P T o u i acc ⟨tm, os, nx⟩ k (clo os (uni (xaM (bk (opT o) tm)) [])) := rfl
@[go_sem] theorem qc4 {o : Oper} {k : List Ft → St → Prop} {tm : List (Nat × D)} {os : List (Nat × Ob)} {nx : Nat} : dxL P T o u i acc ⟨tm, os, nx⟩ k Tt = bu P T o (St.loc (opT o) Tt nx ⟨tm, os, nx⟩) (dxR P o u i acc ⟨tm, os, nx⟩ Tt k) := rfl
@[go_sem] theorem vc3 {op : Op} {k : List Ft → St → Prop} {tm : List (Nat × D)} {os : List (Nat × Ob)} {nx : Nat} : dxR P ⟨d, op, ty, pos, af, gd⟩ u i acc s Tt k ⟨tm, os, nx⟩ = dxW P ⟨d, op, ty, pos, af, gd⟩ u i acc s Tt ⟨tm, os, nx⟩ k (wOf (stOp op) Tt os) := rfl
@[go_sem] theorem xda {op : Op} {k : List Ft → St → Prop} {tm tm' : List (Nat × D)} {os os' : List (Nat × Ob)} {nx nx' : Nat} : dxW P ⟨d, op, ty, pos, af, gd⟩ u i acc ⟨tm, os, nx⟩ Tt ⟨tm', os', nx'⟩ k W =
    (low nx Tt = true ∧ vaq Tt (bk (opT ⟨d, op, ty, pos, af, gd⟩) tm) = true ∧ gbp Tt (bk Tt os) = true ∧ nx ≤ nx' ∧ zbr Tt nx nx' os' = true ∧ rvP Tt nx nx' tm' d ∧ xaO W os' os Tt ∧
    jbM u ⟨i, Tt, W, nx, nx'⟩ acc ∧ k (push ⟨i, Tt, W, nx, nx'⟩ acc) (St.mrg ⟨tm, os, nx⟩ Tt d ⟨tm', os', nx'⟩)) := rfl
end
end Dm
namespace Dm
open Go
attribute [go_sem] Bool.false_and Bool.and_false Bool.true_and Bool.and_true Bool.or_false Bool.false_or Bool.true_or Bool.or_true Bool.not_true Bool.not_false
section
variable {P : Program} {T : Tab} {n N : Nat} {lv : Nat → Option (List Nat)} {s s' : St} {Q : Exit → St → Prop}
def ng (Q : Exit → St → Prop) : Exit → St → Prop
  | .goto _, _ => False
  | e, s => Q e s
theorem SWp.scope {c : Code} (h : SWp P n N c (ng Q) s) : SWp P n N (.scope c) Q s := by
  intro δ g a w hr hn
  refine wp_scope_straight (wp_mono (h δ g a w hr hn) fun e a' w' ⟨g', s', h1, h2⟩ => ?_)
  cases e with
  | goto l => exact h1.elim
  | _ => exact ⟨g', s', h1, h2⟩
@[congr] theorem gcg {e : Exit} (h' : s = s') : ng Q e s = ng Q e s' := by rw [h']
@[go_sem] theorem qdn : ng Q .normal s = Q .normal s := rfl
@[go_sem] theorem gdm : ng Q .ret s = Q .ret s := rfl
@[go_sem] theorem bdm {i : Nat} : ng Q (.exit i) s = Q (.exit i) s := rfl
@[go_sem] theorem qcD {p : Prop} [Decidable p] {v : D} {d : Option Nat} {K : St → Prop} : okD (if p then some v else none) d s K = (p ∧ K (s.put d v)) := by
  by_cases h : p <;> simp [h, okD]
@[go_sem] theorem zcU {p : Prop} [Decidable p] {K : St → Prop} : okS (if p then some s else none) K = (p ∧ K s) := by
  by_cases h : p <;> simp [h, okS]
end
end Dm
namespace Dm
open Go
section
variable {P : Program} {g g' : G} {w w' : World}

def ba2 (id n c sz : Nat) : D → D
  | .vec i m => if i = id ∧ m = n then .view id c sz 0 n else .vec i m
  | d => d
def ybo (Q : D → List (Nat × Ob) → Nat → Prop) (d : D) (os : List (Nat × Ob)) (nx : Nat) : Prop := match d with
  | .view id c sz lo n => match lk id os with
    | some (.vec hd sz' e els) => lo = 0 ∧ c = els.length ∧ sz = sz' ∧ Q (.vec nx n) ((nx, .vec hd sz' e (els.take n)) :: rmv os [id]) (nx + 1)
    | _ => False
  | d => Q d os nx
attribute [go_sem] ba2 ybo false_and and_false Int.zero_add Int.natCast_nonneg Nat.zero_add

theorem zaT {id sz : Nat} {hd : Bool} {e : TypeId} {els : List (List C)} {os : List (Nat × Ob)} {nx : Nat} (hr : uj g ⟨[], os, nx⟩ w) (ho : lk id os = some (.vec hd sz e els)) :
    ∃ c g', els.length ≤ c ∧ c ≤ 9223372036854775807 ∧ uj g' ⟨[], upd id (.vec hd sz e (fit c sz els)) os, nx⟩ w ∧ Step g ⟨[], os, nx⟩ w g' ⟨[], upd id (.vec hd sz e (fit c sz els)) os, nx⟩ w ∧
      ∀ v d, ga g w v d → ga g' w v (ba2 id els.length c sz d) := by
  obtain ⟨a0, cap, h1, h2, h3, h4, h5⟩ := hr.ok id _ ho
  have hle : g.Le (g.vec id (a0, cap, cap)) := ⟨fun id b hb => hb, fun j x l c hj => by
    by_cases h : j = id
    · subst h
      rw [h1] at hj; cases hj
      exact ⟨a0, cap, cap, by simp [G.vec], h2, fun _ => ⟨rfl, rfl⟩⟩
    · exact ⟨x, l, c, by simp [G.vec, h, hj], Nat.le_refl _, fun _ => ⟨rfl, rfl⟩⟩, fun b hb => hb⟩
  obtain ⟨h6, h7⟩ := hr.replace ho (.vec hd sz e (fit cap sz els)) [] hle (fun b hb => hb) (fun i hi => rfl) (fun i hi => by simp [G.vec, hi]) (w' := w) (Nat.le_refl _) (fun _ _ _ => rfl)
    (by
      refine ⟨a0, cap, by rw [zf]; simp [G.vec], by rw [zf]; exact Nat.le_refl _, h3, qk h4, ?_⟩
      rcases h5 with h5 | ⟨b, off, cells, vs, rfl, h8, h9, h10, h11⟩
      · exact .inl h5
      · obtain ⟨vs2, h12⟩ := zaQ (I := g.I) (w := w) (c := cap) (els := els) h9 h10.2 (fun i j x y _ hx hy => ⟨_, (h11 i j x y hx hy).1, (h11 i j x y hx hy).2⟩)
        exact .inr ⟨b, off, cells, vs2, rfl, h8, h9, h10, h12⟩)
    (fun b hb => .inl (by
      simp only [G.blk, G.vec, if_true] at hb
      simp only [G.blk, h1]
      cases a0 <;> exact hb))
  refine ⟨cap, _, h2, h3, h6, h7, fun v d hv => ?_⟩
  have hm := hv.mono (fun _ _ => rfl) hle
  unfold ba2
  split
  · rename_i i m
    split
    · rename_i hc
      obtain ⟨rfl, rfl⟩ := hc
      cases hv with
      | vec a' cap' _ _ a1 len cap1 hk hn hm' ha hvv =>
        rw [h1] at hk; cases hk
        obtain ⟨rfl, rfl⟩ := hvv rfl
        refine .view a' cap' i cap' sz 0 els.length a' cap' cap' (by simp [G.vec]) (Nat.le_refl _) (Nat.zero_le _) h2 h3 fun _ => ⟨rfl, rfl, fun h => h, fun b o hb => ⟨fun _ => by rw [Nat.zero_mul]; exact hb, o, hb⟩⟩
    · exact hm
  · exact hm

theorem va.opn {f : FuncId} {ds : List D} {os : List (Nat × Ob)} {nx : Nat} {Q : D → List (Nat × Ob) → Nat → Prop} (id : Nat) {hd : Bool} {sz : Nat} {e : TypeId} {els : List (List C)} (ho : lk id os = some (.vec hd sz e els)) (hl : els.length ≤ 9223372036854775807)
    (h : ∀ c, els.length ≤ c → c ≤ 9223372036854775807 → va P f (ds.map (ba2 id els.length c sz)) (upd id (.vec hd sz e (fit c sz els)) os) nx Q) : va P f ds os nx Q := by
  refine ⟨(h _ (Nat.le_refl _) hl).1, fun g w vs hr hsz hv => ?_⟩
  obtain ⟨c, g', h1, h2, h3, h4, h5⟩ := zaT hr ho
  refine ((h c h1 h2).2 g' w vs h3 (by rw [List.length_map]; exact hsz) (fun i v d hvv hd => ?_)).mono fun e w' ⟨v, d, g2, os', nx', he, hq, hro, hvr, hst⟩ => ⟨v, d, g2, os', nx', he, hq, hro, hvr, h4.trans hst⟩
  rw [List.getElem?_map, Option.map_eq_some_iff] at hd
  obtain ⟨d0, hd0, rfl⟩ := hd
  exact h5 v d0 (hv i v d0 hvv hd0)

theorem va4 {id c sz n : Nat} {hd : Bool} {e : TypeId} {els : List (List C)} {os : List (Nat × Ob)} {nx : Nat} (ho : uj g ⟨[], os, nx⟩ w) (hlk : lk id os = some (.vec hd sz e els)) (hc : c = els.length) {v : Value} (hv : ga g w v (.view id c sz 0 n)) :
    ∃ g', uj g' ⟨[], (nx, .vec hd sz e (els.take n)) :: rmv os [id], nx + 1⟩ w ∧ ga g' w v (.vec nx n) ∧ Step g ⟨[], os, nx⟩ w g' ⟨[], (nx, .vec hd sz e (els.take n)) :: rmv os [id], nx + 1⟩ w := by
  obtain ⟨a1, cap1, h1, h2, h3, h4, h5⟩ := ho.ok id _ hlk
  cases hv with
  | view a' cap' _ _ _ _ _ a0 len cap hk hle hl hh hm hvv =>
  rw [hk] at h1; cases h1
  obtain ⟨rfl, rfl, h6, h7⟩ := hvv hc
  subst hc
  have haa : a' = a1 := by
    rcases h5 with ⟨rfl, _⟩ | ⟨b, off, _, _, rfl, _⟩
    · exact h6 rfl
    · have := (h7 b off rfl).1 (.inr rfl)
      rw [this, Nat.zero_mul, Nat.add_zero]
  subst haa
  have hfr := ho.fresh nx (Nat.le_refl _)
  have hdl : (els.take n).length = n := by rw [List.length_take]; omega
  have hne : ∀ i o, lk i os = some o → i ≠ nx := fun i o ho' hi => by
    subst hi
    have := ho.ok _ o ho'
    cases o with
    | box cs => obtain ⟨b, _, _, h, _⟩ := this; rw [hfr.1] at h; cases h
    | map _ _ => obtain ⟨b, _, h, _⟩ := this; rw [hfr.1] at h; cases h
    | it _ _ => obtain ⟨b, h, _⟩ := this; rw [hfr.1] at h; cases h
    | vec _ _ _ _ => obtain ⟨b, _, h, _⟩ := this; rw [hfr.2] at h; cases h
  have hidne := hne id _ hlk
  have hκ : ∀ i, i ≠ nx → (g.vec nx (a', n, els.length)).κ i = g.κ i := fun i hi => if_neg hi
  have hκ0 : (g.vec nx (a', n, els.length)).κ nx = some (a', n, els.length) := if_pos rfl
  have hgle : g.Le (g.vec nx (a', n, els.length)) := ⟨fun _ _ h => h, fun i x y z h => ⟨x, y, z, by
    have : i ≠ nx := fun hi => by rw [hi, hfr.2] at h; cases h
    rw [hκ i this]; exact h, Nat.le_refl _, fun _ => ⟨rfl, rfl⟩⟩, fun _ h => h⟩
  have hin : ∀ i o, lk i ((nx, Ob.vec hd sz e (els.take n)) :: rmv os [id]) = some o → (i = nx ∧ o = .vec hd sz e (els.take n)) ∨ (i ≠ nx ∧ i ≠ id ∧ lk i os = some o) := fun i o h => by
    simp only [gb, wag] at h
    split at h
    · rename_i hi; cases h; exact .inl ⟨hi, rfl⟩
    · rename_i hi
      split at h
      · cases h
      · rename_i hi2; exact .inr ⟨hi, by simpa using hi2, h⟩
  have hblk : ∀ i o, i ≠ nx → (g.vec nx (a', n, els.length)).blk i o = g.blk i o := fun i o hi => by
    cases o with
    | box cs => rfl
    | map _ _ => rfl
    | it _ _ => rfl
    | vec _ _ _ _ => simp only [G.blk, hκ i hi]
  have hblk0 : ∀ b, (g.vec nx (a', n, els.length)).blk nx (.vec hd sz e (els.take n)) = some b → g.blk id (.vec hd sz e els) = some b := fun b hb => by
    simp only [G.blk, hκ0] at hb
    simp only [G.blk, hk]
    cases a' <;> exact hb
  have hown : ∀ b, Own (g.vec nx (a', n, els.length)) ⟨[], (nx, .vec hd sz e (els.take n)) :: rmv os [id], nx + 1⟩ b → Own g ⟨[], os, nx⟩ b := fun b ⟨i, o, h6, h7⟩ => by
    rcases hin i o h6 with ⟨rfl, rfl⟩ | ⟨h8, _, h9⟩
    · exact ⟨id, _, hlk, hblk0 b h7⟩
    · rw [hblk i o h8] at h7; exact ⟨i, o, h9, h7⟩
  have hst : Step g ⟨[], os, nx⟩ w (g.vec nx (a', n, els.length)) ⟨[], (nx, .vec hd sz e (els.take n)) :: rmv os [id], nx + 1⟩ w :=
    ⟨hgle, Nat.le_refl _, fun _ _ _ => rfl, fun b _ hno h => hno (hown b h), fun _ _ _ h => h, .refl w⟩
  refine ⟨g.vec nx (a', n, els.length), ⟨fun i o hi => ?_, fun i o i' o' b h6 h7 h8 h9 => ?_, fun i hi => ?_, fun b hb => ⟨(ho.imm b hb).1, fun h => (ho.imm b hb).2 (hown b h)⟩, ho.cel⟩, ?_, hst⟩
  · rcases hin i o hi with ⟨rfl, rfl⟩ | ⟨h8, _, h9⟩
    · refine ⟨_, _, hκ0.trans (by rw [hdl]), by rw [hdl]; omega, by omega, fun x hx => h4 x (List.mem_of_mem_take hx), ?_⟩
      rcases h5 with ⟨rfl, hc⟩ | ⟨b, off, cells, vs, rfl, h10, h11, h12, h13⟩
      · exact .inl ⟨rfl, hc⟩
      · refine .inr ⟨b, off, cells, vs, rfl, h10, h11, h12, fun i j x y hx hy => ?_⟩
        rw [List.getElem?_take] at hx
        split at hx
        · exact h13 i j x y hx hy
        · cases hx
    · exact (ho.ok i o h9).mono (fun _ _ => rfl) hgle (fun _ _ => rfl) (hκ i h8)
  · rcases hin i o h6 with ⟨rfl, rfl⟩ | ⟨h10, h11, h12⟩ <;> rcases hin i' o' h7 with ⟨rfl, rfl⟩ | ⟨h13, h14, h15⟩
    · rfl
    · rw [hblk i' o' h13] at h9
      exact absurd (ho.apart id _ i' o' b hlk h15 (hblk0 b h8) h9) (fun h => h14 h.symm)
    · rw [hblk i o h10] at h8
      exact absurd (ho.apart i o id _ b h12 hlk h8 (hblk0 b h9)) h11
    · rw [hblk i o h10] at h8
      rw [hblk i' o' h13] at h9
      exact ho.apart i o i' o' b h12 h15 h8 h9
  · have hi' : nx + 1 ≤ i := hi
    rw [hκ i (by omega)]
    exact ho.fresh i (Nat.le_of_succ_le hi')
  · refine .vec a' _ nx n a' n els.length hκ0 (Nat.le_refl _) (by omega) ?_ fun _ => ⟨rfl, rfl⟩
    rcases h5 with ⟨_, hc⟩ | ⟨b, off, _, _, rfl, _⟩
    · exact .inl (by omega)
    · exact .inr ⟨b, off, rfl⟩

theorem va.sld {f : FuncId} {ds : List D} {os : List (Nat × Ob)} {nx : Nat} {Q : D → List (Nat × Ob) → Nat → Prop} (h : va P f ds os nx (ybo Q)) : va P f ds os nx Q := by
  refine ⟨h.1, fun g w vs hr hsz hv => (h.2 g w vs hr hsz hv).mono fun e w' ⟨v, d, g2, os', nx', he, hq, hro, hvr, hst⟩ => ?_⟩
  unfold ybo at hq
  split at hq
  · split at hq
    · rename_i hlk
      obtain ⟨rfl, h1, rfl, h2⟩ := hq
      obtain ⟨g3, h3, h4, h5⟩ := va4 hro hlk h1 hvr
      exact ⟨v, _, g3, _, _, he, h2, h3, h4, hst.trans h5⟩
    · cases hq
  · exact ⟨v, d, g2, os', nx', he, hq, hro, hvr, hst⟩
end
end Dm
namespace Dm
open Go
theorem yo {c sz n : Nat} {E : List (List C)} (h : n ≤ E.length) (h' : n ≤ c) : (fit c sz E).take n = E.take n := by
  rw [fit, List.take_take, Nat.min_eq_left h', List.take_append_of_le_length h]
theorem yF {E X : List (List C)} {i : Nat} (h : i + X.length ≤ E.length) : (lay E i X).length = E.length := xC _ _ _ h
theorem vaa {E X : List (List C)} {i p : Nat} (h : i + X.length ≤ E.length) : (lay E i X)[p]? = if i ≤ p ∧ p < i + X.length then X[p - i]? else E[p]? := bV h
theorem baN {E : List (List C)} {x : List C} {i k : Nat} (h : i ≤ E.length) : (E.take i ++ x :: E.drop i)[k]? = if k < i then E[k]? else if k = i then some x else E[k - 1]? := by
  have h1 : (E.take i).length = i := by rw [List.length_take]; omega
  by_cases hk : k < i
  · rw [if_pos hk, List.getElem?_append_left (by omega), List.getElem?_take_of_lt hk]
  · rw [if_neg hk, List.getElem?_append_right (by omega), h1]
    by_cases hk2 : k = i
    · rw [if_pos hk2, hk2, Nat.sub_self]; rfl
    · rw [if_neg hk2, show k - i = (k - i - 1) + 1 by omega, List.getElem?_cons_succ, List.getElem?_drop]
      congr 1
      omega
theorem qbu {sz c i n : Nat} {E A : List (List C)} {x : List C} (hn : n = E.length) (hi : i < n) (h2 : n + 1 ≤ c) (hA : (lay A i [x]).length = c) (hA0 : ∀ k, k < i → A[k]? = E[k]?) (hAl : A.length = c) :
    (fit c sz (lay (fit c sz (lay A i [x])) (i + 1) (E.drop i))).take (n + 1) = E.take i ++ x :: E.drop i := by
  subst hn
  have hd : (E.drop i).length = E.length - i := List.length_drop
  rw [xV hA, xV (by rw [yF (by omega)]; exact hA)]
  apply List.ext_getElem?
  intro k
  rw [baN (by omega), List.getElem?_take]
  by_cases hk : k < E.length + 1
  · rw [if_pos hk, vaa (by omega), vaa (by simp only [List.length_singleton]; omega), hd]
    simp only [List.length_singleton]
    by_cases h3 : k < i
    · rw [if_neg (by omega), if_neg (by omega), if_pos h3, hA0 k h3]
    · rw [if_neg h3]
      by_cases h4 : k = i
      · rw [if_neg (by omega), if_pos (by omega), if_pos h4, h4, Nat.sub_self]; rfl
      · rw [if_pos (by omega), if_neg h4, List.getElem?_drop]
        congr 1
        omega
  · rw [if_neg hk, if_neg (by omega), if_neg (by omega), List.getElem?_eq_none (by omega)]
theorem k7 {sz c c1 i : Nat} {E : List (List C)} {x z : List C} (hi : i < E.length) (hc : E.length ≤ c) (h2 : E.length + 1 ≤ c1) :
    (fit c1 sz (lay (fit c1 sz (lay (fit c1 sz ((fit c sz E).take i ++ List.replicate (E.length + 1 - i) z)) i ([x].take (E.length + 1 - i)))) (i + 1) ((((fit c sz E).take E.length).drop i).take (E.length + 1 - (i + 1))))).take (E.length + 1) = E.take i ++ x :: E.drop i := by
  rw [yo (c := c) (sz := sz) (E := E) (n := E.length) (Nat.le_refl _) hc, List.take_length, List.take_of_length_le (l := E.drop i) (by rw [List.length_drop]; omega), List.take_of_length_le (l := [x]) (by simp only [List.length_singleton]; omega), yo (c := c) (sz := sz) (E := E) (n := i) (by omega) (by omega)]
  refine qbu rfl hi h2 ?_ (fun k hk => ?_) (zf _ _ _)
  · rw [yF (by rw [zf]; simp only [List.length_singleton]; omega), zf]
  · rw [wac, if_pos (by omega), if_pos (by simp only [List.length_append, List.length_take, List.length_replicate]; omega), List.getElem?_append_left (by rw [List.length_take]; omega), List.getElem?_take_of_lt hk]
theorem baa {sz c i : Nat} {E : List (List C)} {x : List C} (hi : i < E.length) (hc : E.length + 1 ≤ c) :
    (fit c sz (lay (fit c sz (lay (fit c sz E) (i + 1) ((((fit c sz E).take (E.length + 1)).drop i).take (E.length + 1 - (i + 1))))) i ([x].take (E.length + 1 - i)))).take (E.length + 1) = E.take i ++ x :: E.drop i := by
  have e1 : (((fit c sz E).take (E.length + 1)).drop i).take (E.length + 1 - (i + 1)) = E.drop i := by
    apply List.ext_getElem?
    intro k
    rw [List.getElem?_take, List.getElem?_drop, List.getElem?_drop, List.getElem?_take, wac]
    by_cases h : k < E.length + 1 - (i + 1)
    · rw [if_pos h, if_pos (by omega), if_pos (by omega), if_pos (by omega)]
    · rw [if_neg h, List.getElem?_eq_none (by omega)]
  have hd : (E.drop i).length = E.length - i := List.length_drop
  have hl : (lay (fit c sz E) (i + 1) (E.drop i)).length = c := by rw [yF (by rw [zf, hd]; omega), zf]
  rw [e1, List.take_of_length_le (l := [x]) (by simp only [List.length_singleton]; omega), xV hl, xV (by rw [yF (by rw [hl]; simp only [List.length_singleton]; omega), hl])]
  apply List.ext_getElem?
  intro k
  rw [baN (by omega), List.getElem?_take]
  by_cases hk : k < E.length + 1
  · rw [if_pos hk, vaa (by rw [hl]; simp only [List.length_singleton]; omega), vaa (by rw [zf, hd]; omega), hd]
    simp only [List.length_singleton]
    by_cases h3 : k < i
    · rw [if_neg (by omega), if_neg (by omega), if_pos h3, wac, if_pos (by omega), if_pos (by omega)]
    · rw [if_neg h3]
      by_cases h4 : k = i
      · rw [if_pos (by omega), if_pos h4, h4, Nat.sub_self]; rfl
      · rw [if_neg (by omega), if_pos (by omega), if_neg h4, List.getElem?_drop]
        congr 1
        omega
  · rw [if_neg hk, if_neg (by omega), if_neg (by omega), List.getElem?_eq_none (by omega)]
end Dm
namespace Dm
open Go Ieee
def gaU : Int := 2 ^ 2200
def w5 : Int := -2 ^ 2300
theorem gP : 0 < gaU := by unfold gaU; exact Int.pow_pos (by decide)
theorem jaQ : w5 < -gaU := by
  unfold w5 gaU
  have : (2 : Int) ^ 2200 < 2 ^ 2300 := Int.pow_lt_pow_of_lt (by decide) (by decide)
  omega
def bW : Datum → Int
  | .number s m i => signed s m (i + 1074).toNat
  | .infinity s => if s = true then -gaU else gaU
  | .nan _ _ => w5
def Dbl : Datum → Prop
  | .number _ m i => -1074 ≤ i ∧ i ≤ 1000 ∧ m < 2 ^ 53
  | _ => True
theorem jx (n : Nat) : Dbl (FloatKind.f64.format.read n) := by
  unfold Format.read
  have e1 : FloatKind.f64.format.signWeight = 2 ^ 63 := rfl
  have e2 : FloatKind.f64.format.binade = 4503599627370496 := rfl
  have e3 : FloatKind.f64.format.infRung = 9218868437227405312 := rfl
  have e4 : FloatKind.f64.format.leastPlace = -1074 := rfl
  simp only [e1, e2, e3, e4]
  split
  · exact ⟨by omega, by omega, by omega⟩
  · split
    · exact ⟨by omega, by omega, by omega⟩
    · split <;> trivial
theorem bB (s : Bool) (m k : Nat) : signed s m k = (if s = true then -(m : Int) else m) * 2 ^ k := by
  unfold signed
  rw [Nat.shiftLeft_eq]
  cases s <;> simp [Int.neg_mul]
theorem ybk {a b : Nat} (h : a ≤ b) : (2 : Int) ^ a ≤ 2 ^ b := by
  have := Nat.pow_le_pow_right (n := 2) (by decide) h
  have h5 : ((2 ^ a : Nat) : Int) ≤ ((2 ^ b : Nat) : Int) := Int.ofNat_le.2 this
  rwa [Int.natCast_pow, Int.natCast_pow] at h5
theorem yaR {s : Bool} {m k : Nat} (hm : m < 2 ^ 53) (hk : k ≤ 2100) : -gaU < signed s m k ∧ signed s m k < gaU := by
  have h1 : (m : Int) * 2 ^ k < gaU := by
    have h3 : ((m : Int)) < 2 ^ 53 := by
      have : ((m : Nat) : Int) < ((2 ^ 53 : Nat) : Int) := Int.ofNat_lt.2 hm
      simpa using this
    have h4 : (2 : Int) ^ k ≤ 2 ^ 2100 := ybk hk
    have h0 : (0 : Int) < 2 ^ k := Int.pow_pos (by decide)
    have q1 := Int.mul_lt_mul_of_pos_right h3 h0
    have q2 : (2 : Int) ^ 53 * 2 ^ k ≤ 2 ^ 53 * 2 ^ 2100 := Int.mul_le_mul_of_nonneg_left h4 (by decide)
    have q3 : (2 : Int) ^ 53 * 2 ^ 2100 = 2 ^ (53 + 2100) := (Int.pow_add ..).symm
    rw [q3] at q2
    exact Int.lt_of_lt_of_le q1 (Int.le_trans q2 (Int.le_of_lt (Int.pow_lt_pow_of_lt (by decide) (by decide))))
  have h0 : (0 : Int) ≤ (m : Int) * 2 ^ k := Int.mul_nonneg (Int.natCast_nonneg _) (Int.le_of_lt (Int.pow_pos (by decide)))
  have hp := gP
  rw [bB]
  cases s
  · simp only [Bool.false_eq_true, if_false]; omega
  · simp only [if_true, Int.neg_mul]; omega
theorem zad {d : Datum} (h : Dbl d) : (∀ s m i, d = .number s m i → -gaU < bW d ∧ bW d < gaU) := by
  rintro s m i rfl
  exact yaR h.2.2 (by have := h.1; have := h.2.1; omega)
def kad (a b : Int) : Ordering := if a < b then .lt else if b < a then .gt else .eq
theorem xao (a b : Int) : compare a b = kad a b := by
  unfold kad
  show compareOfLessAndEq a b = _
  unfold compareOfLessAndEq
  split
  · rfl
  · split
    · rw [if_neg (by omega)]
    · rw [if_pos (by omega)]
theorem uaY {a b c : Int} (hc : 0 < c) : kad (a * c) (b * c) = kad a b := by
  unfold kad
  simp only [Int.mul_lt_mul_right hc]
theorem zaO {d e : Datum} (hd : Dbl d) (he : Dbl e) (h1 : d.isNaN = false) (h2 : e.isNaN = false) : d.order e = some (kad (bW d) (bW e)) := by
  have hp := gP
  cases d with
  | nan s t => cases h1
  | infinity s => cases e with
    | nan s t => cases h2
    | infinity t =>
      cases s <;> cases t
      · simp [Datum.order, bW, kad]
      · simp only [Datum.order, bW, kad, Bool.false_eq_true, if_false, if_true]; rw [if_neg (by omega), if_pos (by omega)]; rfl
      · simp only [Datum.order, bW, kad, Bool.false_eq_true, if_false, if_true]; rw [if_pos (by omega)]; rfl
      · simp [Datum.order, bW, kad]
    | number t n j =>
      have := zad he t n j rfl
      cases s
      · simp only [Datum.order, Bool.false_eq_true, if_false, Option.some.injEq]
        unfold kad
        rw [if_neg (by simp only [bW, Bool.false_eq_true, if_false] at *; omega), if_pos (by simp only [bW, Bool.false_eq_true, if_false] at *; omega)]
      · simp only [Datum.order, if_true, Option.some.injEq]
        unfold kad
        rw [if_pos (by simp only [bW, if_true] at *; omega)]
  | number s m i => cases e with
    | nan s t => cases h2
    | infinity t =>
      have := zad hd s m i rfl
      cases t
      · simp only [Datum.order, Bool.false_eq_true, if_false, Option.some.injEq]
        unfold kad
        rw [if_pos (by simp only [bW, Bool.false_eq_true, if_false] at *; omega)]
      · simp only [Datum.order, if_true, Option.some.injEq]
        unfold kad
        rw [if_neg (by simp only [bW, if_true] at *; omega), if_pos (by simp only [bW, if_true] at *; omega)]
    | number t n j =>
      simp only [Datum.order, bW, Option.some.injEq, xao]
      have hb : -1074 ≤ min i j := by have := hd.1; have := he.1; omega
      have e1 : (i + 1074).toNat = (i - min i j).toNat + (min i j + 1074).toNat := by omega
      have e2 : (j + 1074).toNat = (j - min i j).toNat + (min i j + 1074).toNat := by omega
      rw [bB, bB, bB, bB, e1, e2, Int.pow_add, Int.pow_add, ← Int.mul_assoc, ← Int.mul_assoc, uaY (Int.pow_pos (by decide))]
def yt : Option Nat → Int
  | some n => bW (FloatKind.f64.format.read n)
  | none => w5
theorem wQ {d : Datum} (h : Dbl d) : bW d = w5 ↔ d.isNaN = true := by
  have := jaQ
  have hp := gP
  cases d with
  | nan s t => exact ⟨fun _ => rfl, fun _ => rfl⟩
  | infinity s =>
    refine ⟨fun h => ?_, fun h => by cases h⟩
    cases s <;> simp only [bW, Bool.false_eq_true, if_false, if_true] at h <;> omega
  | number s m i =>
    have := zad h s m i rfl
    exact ⟨fun h => by omega, fun h => by cases h⟩
theorem ubu {d : Datum} (h : Dbl d) : w5 ≤ bW d := by
  have := jaQ
  have hp := gP
  cases d with
  | nan s t => exact Int.le_refl _
  | infinity s => cases s <;> simp only [bW, Bool.false_eq_true, if_false, if_true] <;> omega
  | number s m i => have := zad h s m i rfl; omega
theorem jM (x : Option Nat) : w5 ≤ yt x := by
  cases x with
  | none => exact Int.le_refl _
  | some n => exact ubu (jx n)
def vbw (x : Option Nat) : Bool := yae x x != some .eq
theorem zaP {d e : Datum} (h : d.isNaN = true ∨ e.isNaN = true) : d.order e = none := by
  rcases h with h | h
  · obtain ⟨s, t, rfl⟩ := qp h; rfl
  · obtain ⟨s, t, rfl⟩ := qp h; cases d <;> rfl
theorem yac (x y : Option Nat) : yae x y = if yt x = w5 ∨ yt y = w5 then none else some (kad (yt x) (yt y)) := by
  cases x with
  | none => simp [yae, yt]
  | some a => cases y with
    | none => simp [yae, yt]
    | some b =>
      simp only [yae, yt, Format.order, wQ (jx a), wQ (jx b)]
      split
      · rename_i h; exact zaP h
      · rename_i h
        simp only [not_or, Bool.not_eq_true] at h
        exact zaO (jx a) (jx b) h.1 h.2
theorem j7 (x : Option Nat) : vbw x = decide (yt x = w5) := by
  unfold vbw
  rw [yac]
  by_cases h : yt x = w5
  · simp [h]
  · simp [h, kad]
theorem zbt (x y : Option Nat) : (yae x y == some .lt) = (decide (yt x ≠ w5) && decide (yt x < yt y)) := by
  rw [yac]
  have h1 := jM x
  have h2 := jM y
  by_cases hx : yt x = w5
  · simp [hx]
  · by_cases hy : yt y = w5
    · have : ¬ yt x < w5 := by omega
      simp [hx, hy, this]
    · simp only [hx, hy, or_self, if_false, ne_eq, not_false_eq_true, decide_true, Bool.true_and, kad]
      by_cases h : yt x < yt y
      · simp [h]
      · by_cases h' : yt y < yt x <;> simp [h, h']
theorem jbw (x y : Option Nat) : (yae x y == some .gt) = (decide (yt y ≠ w5) && decide (yt y < yt x)) := by
  rw [yac]
  have h1 := jM x
  have h2 := jM y
  by_cases hx : yt x = w5
  · have : ¬ yt y < w5 := by omega
    simp [hx, this]
  · by_cases hy : yt y = w5
    · simp [hy]
    · simp only [hx, hy, or_self, if_false, ne_eq, not_false_eq_true, decide_true, Bool.true_and, kad]
      by_cases h : yt x < yt y
      · have : ¬ yt y < yt x := by omega
        simp [h, this]
      · by_cases h' : yt y < yt x <;> simp [h, h']
theorem wbi (n : Nat) : yt (flo .f64 n) = bW (FloatKind.f64.format.read n) := by
  by_cases h : (FloatKind.f64.format.read n).isNaN = true
  · rw [xy h, yt, (wQ (jx n)).2 h]
  · rw [zC h]; rfl
end Dm
namespace Dm
open Go Go.IntWalk
abbrev fg (t : Nat) : Nat × (List D → Option (Prop × D × Fr)) := (1000000000 + t, fun _ => none)
abbrev ovk (f : Nat) : Nat × (List D → Option (Prop × D × Fr)) := (2000000000 + f, fun _ => none)
theorem bao {P : Program} (t : Nat) : ∀ rs p r fr, (fun _ => none : List D → Option (Prop × D × Fr)) rs = some (p, r, fr) → p → zg P (1000000000 + t) rs r fr := fun rs p r fr h => by cases h
theorem waD {P : Program} (t : Nat) : ∀ rs p r fr, (fun _ => none : List D → Option (Prop × D × Fr)) rs = some (p, r, fr) → p → zg P (2000000000 + t) rs r fr := fun rs p r fr h => by cases h
theorem ya.append {P : Program} {T T' : Tab} (h : ya P T) (h' : ya P T') : ya P (T ++ T') := by
  intro f sp rs p r fr hl hs hp
  rw [baz] at hl
  cases hk : lk f T with
  | none => rw [hk] at hl; exact h' f sp rs p r fr hl hs hp
  | some x => rw [hk] at hl; exact h f sp rs p r fr (by rw [hk]; exact hl) hs hp
@[go_sem] theorem vcX (x : Int) : 0 ≤ IntKind.u64.wrap x := by
  simp only [IntKind.wrap, IntKind.signed, IntKind.bits]
  exact Int.emod_nonneg _ (by decide)
theorem zbl (x : Int) : IntKind.u64.wrap (IntKind.i64.wrap x) = IntKind.u64.wrap x := by
  simp only [IntKind.wrap, IntKind.signed, IntKind.bits, IntKind.min]
  simp
  omega
theorem yS {i j n : Nat} (h : i ≤ j) (hj : j ≤ n) (hn : (n : Int) ≤ 9223372036854775807) : IntKind.i64.wrap ((IntKind.u64.wrap (IntKind.i64.wrap (i + j))).fdiv (2 ^ min 1 64)) = (((i + j) / 2 : Nat) : Int) := by
  rw [zbl, u64_in _ (by omega), show (2 ^ min 1 64 : Int) = 2 from rfl, Int.fdiv_eq_ediv_of_nonneg _ (by decide), i64_in _ (by omega)]
  omega
attribute [go_sem] Int.natCast_nonneg Int.toNat_natCast
def wv (l : List Nat) : List (List C) := l.map fun k : Nat => [.int .u64 (k : Int)]
def u8s (l : List Nat) : List (List C) := l.map fun k : Nat => [.int .u8 (k : Int)]
def qad (l : List Int) : List (List C) := l.map fun k => [.int .i64 k]
def wab (l : List (List C)) : List Nat := l.map fun | [.int _ k] => k.toNat | _ => 0
def yc3 (l : List (List C)) : List Nat := l.map fun | [.int _ k] => k.toNat | _ => 0
def vaZ (l : List (List C)) : List Int := l.map fun | [.int _ k] => k | _ => 0
@[simp, go_sem] theorem gbr (l : List Nat) : (wv l).length = l.length := by simp [wv]
@[simp, go_sem] theorem qbE (l : List Nat) : (u8s l).length = l.length := by simp [u8s]
@[simp, go_sem] theorem jbx (l : List Int) : (qad l).length = l.length := by simp [qad]
@[go_sem] theorem vcb (l : List Nat) (i : Nat) : (wv l).getD i [.int .u64 0] = [.int .u64 (l.getD i default : Nat)] := by
  simp only [wv, List.getD_eq_getElem?_getD, List.getElem?_map]
  cases l[i]? <;> rfl
@[go_sem] theorem jcJ (l : List Nat) (i : Nat) : (u8s l).getD i [.int .u8 0] = [.int .u8 (l.getD i default : Nat)] := by
  simp only [u8s, List.getD_eq_getElem?_getD, List.getElem?_map]
  cases l[i]? <;> rfl
@[go_sem] theorem bb7 (l : List Int) (i : Nat) : (qad l).getD i [.int .i64 0] = [.int .i64 (l.getD i default)] := by
  simp only [qad, List.getD_eq_getElem?_getD, List.getElem?_map]
  cases l[i]? <;> rfl
@[go_sem] theorem jbX (l : List Nat) : vh 1 (wv l) = True := by simp [vh, wv]
@[go_sem] theorem xcf (l : List Nat) : vh 1 (u8s l) = True := by simp [vh, u8s]
@[go_sem] theorem xb3 (l : List Int) : vh 1 (qad l) = True := by simp [vh, qad]
@[go_sem] theorem bD (l : List Nat) : wab (wv l) = l := by
  simp only [wab, wv, List.map_map]
  exact List.map_id'' (fun e => by simp) l
@[go_sem] theorem kce (l : List Nat) : yc3 (u8s l) = l := by
  simp only [yc3, u8s, List.map_map]
  exact List.map_id'' (fun e => by simp) l
@[go_sem] theorem uaB (l : List Int) : vaZ (qad l) = l := by
  simp only [vaZ, qad, List.map_map]
  exact List.map_id'' (fun e => by simp) l
@[go_sem] theorem jcm (a b : List Nat) : wv a ++ wv b = wv (a ++ b) := by simp [wv]
@[go_sem] theorem qcU (a b : List Nat) : u8s a ++ u8s b = u8s (a ++ b) := by simp [u8s]
@[go_sem] theorem jb2 (l : List Nat) (k : Nat) : (wv l).drop k = wv (l.drop k) := by simp [wv]
@[go_sem] theorem qb7 (l : List Nat) (k : Nat) : (u8s l).drop k = u8s (l.drop k) := by simp [u8s]
@[go_sem] theorem vb1 (l : List Nat) (k : Nat) : (wv l).take k = wv (l.take k) := by simp [wv]
@[go_sem] theorem jcf (l : List Nat) (k : Nat) : (u8s l).take k = u8s (l.take k) := by simp [u8s]
@[go_sem] theorem zb9 (z : Int) (h : 0 ≤ z) : [[C.int .u64 z]] = wv [z.toNat] := by simp [wv, Int.toNat_of_nonneg h]
@[go_sem] theorem vbM (z : Int) (l : List Nat) (h : 0 ≤ z) : [C.int .u64 z] :: wv l = wv (z.toNat :: l) := by simp [wv, Int.toNat_of_nonneg h]
@[go_sem] theorem bci (l : List Nat) (i : Nat) (z : Int) (h : 0 ≤ z) : (wv l).set i [C.int .u64 z] = wv (l.set i z.toNat) := by simp [wv, List.map_set, Int.toNat_of_nonneg h]
@[go_sem] theorem qcd (z : Int) : [[C.int .i64 z]] = qad [z] := rfl
@[go_sem] theorem gb5 (z : Int) (l : List Int) : [C.int .i64 z] :: qad l = qad (z :: l) := rfl
@[go_sem] theorem ycd (l : List Int) (i : Nat) (z : Int) : (qad l).set i [C.int .i64 z] = qad (l.set i z) := by simp [qad, List.map_set]
@[go_sem] theorem wcz (z : Int) (h : 0 ≤ z) : [[C.int .u8 z]] = u8s [z.toNat] := by simp [u8s, Int.toNat_of_nonneg h]
@[go_sem] theorem zcg (z : Int) (l : List Nat) (h : 0 ≤ z) : [C.int .u8 z] :: u8s l = u8s (z.toNat :: l) := by simp [u8s, Int.toNat_of_nonneg h]
@[go_sem] theorem zcQ (l : List Nat) (i : Nat) (z : Int) (h : 0 ≤ z) : (u8s l).set i [C.int .u8 z] = u8s (l.set i z.toNat) := by simp [u8s, List.map_set, Int.toNat_of_nonneg h]
def jQ (l : List (Option Nat)) : List (List C) := l.map fun k => [.flt .f64 k]
def ybQ (l : List (List C)) : List (Option Nat) := l.map fun | [.flt _ k] => k | _ => none
@[simp, go_sem] theorem wbs (l : List (Option Nat)) : (jQ l).length = l.length := by simp [jQ]
@[go_sem] theorem zca (l : List (Option Nat)) (i : Nat) : (jQ l).getD i [.flt .f64 (some 0)] = [.flt .f64 (l.getD i (some 0))] := by
  simp only [jQ, List.getD_eq_getElem?_getD, List.getElem?_map]
  cases l[i]? <;> rfl
@[go_sem] theorem ubZ (l : List (Option Nat)) : vh 1 (jQ l) = True := by simp [vh, jQ]
@[go_sem] theorem qbC (l : List (Option Nat)) : ybQ (jQ l) = l := by
  simp only [ybQ, jQ, List.map_map]
  exact List.map_id'' (fun e => by simp) l
@[go_sem] theorem bb8 (a b : List (Option Nat)) : jQ a ++ jQ b = jQ (a ++ b) := by simp [jQ]
@[go_sem] theorem ybU (l : List (Option Nat)) (k : Nat) : (jQ l).drop k = jQ (l.drop k) := by simp [jQ]
@[go_sem] theorem ubR (l : List (Option Nat)) (k : Nat) : (jQ l).take k = jQ (l.take k) := by simp [jQ]
@[go_sem] theorem gcj (z : Option Nat) : [[C.flt .f64 z]] = jQ [z] := rfl
@[go_sem] theorem gbY (z : Option Nat) (l : List (Option Nat)) : [C.flt .f64 z] :: jQ l = jQ (z :: l) := rfl
@[go_sem] theorem gce (l : List (Option Nat)) (i : Nat) (z : Option Nat) : (jQ l).set i [C.flt .f64 z] = jQ (l.set i z) := by simp [jQ, List.map_set]
@[go_sem] theorem ude : flo .f64 0 = some 0 := by decide
@[go_sem] theorem ydi : flo .f64 4607182418800017408 = some 4607182418800017408 := by decide
@[go_sem] theorem bcj : flo .f64 9221120237041090561 = none := by decide
def yc0 (l : List (List C × List C)) : List (Nat × Int) := l.map fun | ([.int _ k], [.int _ v]) => (k.toNat, v) | _ => (0, 0)
@[go_sem] theorem zcm {k v : IntKind} (l : List (Nat × Int)) : yc0 (kvF k v l) = l := by
  simp only [yc0, kvF, List.map_map]
  exact List.map_id'' (fun e => by simp) l
def vad (x y : Int) : Int := if x < y then -1 else if y < x then 1 else 0
theorem xk {x y : Int} : vad x y < 0 ↔ x < y := by
  unfold vad
  split
  · simp; assumption
  · split <;> simp <;> omega
theorem wz {x y : Int} : vad x y = 0 ↔ x = y := by
  unfold vad
  split
  · simp; omega
  · split <;> simp <;> omega
theorem ve {α : Type} [Inhabited α] {l : List α} {i : Nat} (h : i < l.length) : l.getD i default = l[i] := by
  rw [List.getD_eq_getElem?_getD, List.getElem?_eq_getElem h]; rfl
theorem take_succ {α : Type} [Inhabited α] {l : List α} {i : Nat} (h : i < l.length) : l.take (i + 1) = l.take i ++ [l.getD i default] := by
  rw [ve h]; simp
theorem jb {α : Type} [Inhabited α] {l : List α} {x : α} : x ∈ l ↔ ∃ i, i < l.length ∧ l.getD i default = x := by
  constructor
  · intro h
    obtain ⟨i, hi, rfl⟩ := List.getElem_of_mem h
    exact ⟨i, hi, ve hi⟩
  · rintro ⟨i, hi, rfl⟩
    rw [ve hi]
    exact List.getElem_mem hi
theorem bau {a : Nat} {b : Int} : ∀ {l : List (Nat × Int)}, a ∉ l.map (·.1) → kaX a b l = l ++ [(a, b)]
  | [], _ => rfl
  | (x, y) :: l, h => by
    simp only [List.map_cons, List.mem_cons, not_or] at h
    rw [kaX, if_neg (fun e => h.1 e.symm), bau h.2]; rfl
theorem kaa {a k : Nat} {b : Int} : ∀ {l : List (Nat × Int)}, nlk k (kaX a b l) = if k = a then some b else nlk k l
  | [] => by
    by_cases h : a = k
    · subst h; simp [kaX, nlk]
    · have : ¬ k = a := fun e => h e.symm
      simp [kaX, nlk, h, this]
  | (x, y) :: l => by
    rw [kaX]
    by_cases h : x = a
    · subst h
      by_cases h2 : x = k
      · subst h2; simp [nlk]
      · have : ¬ k = x := fun e => h2 e.symm
        simp [nlk, h2, this]
    · rw [if_neg h, nlk, nlk, kaa]
      by_cases h2 : x = k
      · subst h2; simp [h]
      · simp [h2]
theorem kH {k : Nat} {b : Int} : ∀ {l : List (Nat × Int)}, (l.map (·.1)).Nodup → (nlk k l = some b ↔ (k, b) ∈ l)
  | [], _ => by simp [nlk]
  | (x, y) :: l, h => by
    simp only [List.map_cons, List.nodup_cons] at h
    rw [nlk]
    by_cases h2 : x = k
    · subst h2
      rw [if_pos rfl]
      simp only [Option.some.injEq, List.mem_cons, Prod.mk.injEq, true_and]
      refine ⟨fun e => .inl e.symm, fun e => ?_⟩
      rcases e with e | e
      · exact e.symm
      · exact absurd (List.mem_map.2 ⟨_, e, rfl⟩) h.1
    · rw [if_neg h2, kH h.2, List.mem_cons]
      refine ⟨.inr, fun e => ?_⟩
      rcases e with e | e
      · simp only [Prod.mk.injEq] at e; exact absurd e.1.symm h2
      · exact e
theorem u7 {k : Nat} : ∀ {l : List (Nat × Int)}, (nlk k l = none ↔ k ∉ l.map (·.1))
  | [] => by simp [nlk]
  | (x, y) :: l => by
    rw [nlk]
    by_cases h2 : x = k
    · subst h2; simp
    · have : ¬ k = x := fun e => h2 e.symm
      rw [if_neg h2, u7]; simp [this]
end Dm
namespace Dm
namespace Srt
structure Tot {κ : Type} (lt : κ → κ → Prop) : Prop where
  irr : ∀ a, ¬ lt a a
  tr : ∀ {a b c}, lt a b → lt b c → lt a c
  tot : ∀ a b, lt a b ∨ a = b ∨ lt b a
theorem qf : Tot (fun a b : Nat => a < b) := ⟨fun a => by omega, fun h h' => by omega, fun a b => by omega⟩
section
variable {α κ : Type} [Inhabited α] [DecidableEq κ] (key : α → κ) (lt : κ → κ → Prop) [DecidableRel lt]
def Up (l : List α) : Prop := l.Pairwise fun a b => lt (key a) (key b)
def pos (l : List α) (k : κ) : Nat := l.findIdx fun x => decide (¬ lt (key x) k)
def thr (l : List α) (k : κ) : Bool := decide (pos key lt l k < l.length ∧ key (l.getD (pos key lt l k) default) = k)
def ins (l : List α) (i : Nat) (x : α) : List α := l.take i ++ x :: l.drop i
def put (l : List α) (x : α) : List α := if thr key lt l (key x) = true then l.set (pos key lt l (key x)) x else ins l (pos key lt l (key x)) x
def Chn (l : List α) : Prop := ∀ j, j < l.length → 0 < j → lt (key (l.getD (j - 1) default)) (key (l.getD j default))
instance (l : List α) : Decidable (Chn key lt l) := by unfold Chn; infer_instance
variable {key lt} {l : List α} {k : κ} {x : α} {i : Nat} (T : Tot lt)
theorem uau : pos key lt l k ≤ l.length := List.findIdx_le_length
theorem ybL (h : i < pos key lt l k) : lt (key (l.getD i default)) k := by
  have h2 : i < l.length := Nat.lt_of_lt_of_le h uau
  have := List.not_of_lt_findIdx h
  rw [ve h2]
  simpa using this
theorem pos_eq (hi : i ≤ l.length) (h1 : ∀ j, j < i → lt (key (l.getD j default)) k) (h2 : i < l.length → ¬ lt (key (l.getD i default)) k) : pos key lt l k = i := by
  unfold pos
  rcases Nat.lt_or_ge i l.length with h | h
  · rw [List.findIdx_eq h]
    have h3 := h2 h
    rw [ve h] at h3
    refine ⟨by simpa using h3, fun j hj => ?_⟩
    have := h1 j hj
    rw [ve (Nat.lt_trans hj h)] at this
    simpa using this
  · have : i = l.length := by omega
    subst this
    refine Nat.le_antisymm List.findIdx_le_length (Nat.le_of_not_lt fun hlt => ?_)
    have h3 := List.findIdx_getElem (w := hlt)
    have h4 := h1 _ hlt
    rw [ve hlt] at h4
    simp only [decide_eq_true_eq] at h3
    exact h3 h4
theorem kj : Up key lt l ↔ ∀ a b, a < b → b < l.length → lt (key (l.getD a default)) (key (l.getD b default)) := by
  unfold Up
  rw [List.pairwise_iff_getElem]
  refine ⟨fun h a b hab hb => ?_, fun h a b ha hb hab => ?_⟩
  · rw [ve hb, ve (by omega)]; exact h a b (by omega) hb hab
  · have := h a b hab hb
    rwa [ve hb, ve ha] at this
theorem bb0 (h : pos key lt l k < l.length) : ¬ lt (key (l.getD (pos key lt l k) default)) k := by
  have h3 := List.findIdx_getElem (w := h)
  rw [ve h]
  exact of_decide_eq_true h3
include T
theorem jg : Chn key lt l ↔ Up key lt l := by
  rw [kj]
  refine ⟨fun h a b hab => ?_, fun h j hj h0 => h (j - 1) j (by omega) hj⟩
  induction b with
  | zero => omega
  | succ b ih =>
    intro hb
    have h1 := h (b + 1) hb (by omega)
    rw [Nat.add_sub_cancel] at h1
    by_cases hab' : a = b
    · rw [hab']; exact h1
    · exact T.tr (ih (by omega) (by omega)) h1
theorem bbS (hu : Up key lt l) (h : pos key lt l k ≤ i) (hi : i < l.length) : ¬ lt (key (l.getD i default)) k := by
  have h1 := bb0 (key := key) (lt := lt) (l := l) (k := k) (by omega)
  by_cases he : pos key lt l k = i
  · rw [← he]; exact h1
  · intro h2
    exact h1 (T.tr (kj.1 hu _ _ (by omega) hi) h2)
theorem yU (hu : Up key lt l) : thr key lt l k = true ↔ ∃ x ∈ l, key x = k := by
  simp only [thr, decide_eq_true_eq]
  refine ⟨fun ⟨h1, h2⟩ => ⟨_, jb.2 ⟨_, h1, rfl⟩, h2⟩, fun ⟨x, hx, he⟩ => ?_⟩
  obtain ⟨i, hi, rfl⟩ := jb.1 hx
  have h1 : pos key lt l k = i := by
    refine pos_eq (by omega) (fun j hj => ?_) fun _ => ?_
    · rw [← he]; exact kj.1 hu j i hj hi
    · rw [he]; exact T.irr _
  rw [h1]; exact ⟨hi, he⟩
theorem vaJ (hu : Up key lt l) {a b : α} (ha : a ∈ l) (hb : b ∈ l) (h : key a = key b) : a = b := by
  obtain ⟨i, hi, rfl⟩ := jb.1 ha
  obtain ⟨j, hj, rfl⟩ := jb.1 hb
  rcases Nat.lt_trichotomy i j with h1 | h1 | h1
  · have := kj.1 hu i j h1 hj; rw [h] at this; exact absurd this (T.irr _)
  · rw [h1]
  · have := kj.1 hu j i h1 hi; rw [h] at this; exact absurd this (T.irr _)
theorem ext {a b : List α} (ha : Up key lt a) (hb : Up key lt b) (h : ∀ x, x ∈ a ↔ x ∈ b) : a = b := by
  induction a generalizing b with
  | nil =>
    cases b with
    | nil => rfl
    | cons y b => exact absurd ((h y).2 (by simp)) (by simp)
  | cons x a ih =>
    cases b with
    | nil => exact absurd ((h x).1 (by simp)) (by simp)
    | cons y b =>
      simp only [Up, List.pairwise_cons] at ha hb
      have hxy : x = y := by
        rcases List.mem_cons.1 ((h x).1 (by simp)) with h1 | h1
        · exact h1
        · rcases List.mem_cons.1 ((h y).2 (by simp)) with h2 | h2
          · exact h2.symm
          · exact absurd (T.tr (ha.1 y h2) (hb.1 x h1)) (T.irr _)
      subst hxy
      congr 1
      refine ih ha.2 hb.2 fun z => ?_
      have hz := h z
      simp only [List.mem_cons] at hz
      refine ⟨fun h1 => ?_, fun h1 => ?_⟩
      · rcases hz.1 (.inr h1) with h2 | h2
        · subst h2; exact absurd (ha.1 z h1) (T.irr _)
        · exact h2
      · rcases hz.2 (.inr h1) with h2 | h2
        · subst h2; exact absurd (hb.1 z h1) (T.irr _)
        · exact h2
omit T in
theorem kF : List.Perm (ins l i x) (x :: l) := by
  have := List.perm_middle (a := x) (l₁ := l.take i) (l₂ := l.drop i)
  rwa [List.take_append_drop] at this
theorem uaM (hu : Up key lt l) (ht : ¬ thr key lt l (key x) = true) : Up key lt (ins l (pos key lt l (key x)) x) := by
  have hn : ∀ e ∈ l, ¬ key e = key x := fun e he h => ht ((yU T hu).2 ⟨e, he, h⟩)
  have hlo : ∀ e ∈ l.take (pos key lt l (key x)), lt (key e) (key x) := fun e he => by
    obtain ⟨i, hi, rfl⟩ := List.getElem_of_mem he
    rw [List.length_take] at hi
    have := ybL (key := key) (lt := lt) (l := l) (k := key x) (i := i) (by omega)
    rw [ve (by omega)] at this
    simpa using this
  have hhi : ∀ e ∈ l.drop (pos key lt l (key x)), lt (key x) (key e) := fun e he => by
    obtain ⟨i, hi, rfl⟩ := List.getElem_of_mem he
    rw [List.length_drop] at hi
    have h3 := bbS T hu (k := key x) (i := pos key lt l (key x) + i) (by omega) (by omega)
    have h4 := hn _ (List.mem_of_mem_drop he)
    rw [ve (by omega)] at h3
    simp only [List.getElem_drop] at h4 ⊢
    rcases T.tot (key l[pos key lt l (key x) + i]) (key x) with h | h | h
    · exact absurd h h3
    · exact absurd h h4
    · exact h
  unfold Up at *
  rw [← List.take_append_drop (pos key lt l (key x)) l, List.pairwise_append] at hu
  rw [ins, List.pairwise_append]
  refine ⟨hu.1, List.pairwise_cons.2 ⟨hhi, hu.2.1⟩, fun a ha b hb => ?_⟩
  rcases List.mem_cons.1 hb with rfl | hb
  · exact hlo a ha
  · exact hu.2.2 a ha b hb
omit T in
theorem qy {p : Nat} (hp : p < l.length) (q : Nat) : (l.set p x).getD q default = if q = p then x else l.getD q default := by
  rw [List.getD_eq_getElem?_getD, List.getElem?_set]
  by_cases h : p = q
  · subst h; simp [hp]
  · have : ¬ q = p := fun e => h e.symm
    simp [h, this]
omit T in
theorem qZ {p : Nat} (hu : Up key lt l) (hp : p < l.length) (hk : key x = key (l.getD p default)) : Up key lt (l.set p x) := by
  rw [kj] at *
  intro a b hab hb
  rw [List.length_set] at hb
  have : ∀ q, key ((l.set p x).getD q default) = key (l.getD q default) := fun q => by
    rw [qy hp]
    split
    · rename_i h; rw [h, hk]
    · rfl
  rw [this, this]
  exact hu a b hab hb
theorem ube (hu : Up key lt l) : Up key lt (put key lt l x) := by
  unfold put
  split
  · rename_i h
    simp only [thr, decide_eq_true_eq] at h
    exact qZ hu h.1 h.2.symm
  · rename_i h; exact uaM T hu h
theorem bbo (hu : Up key lt l) {y : α} : y ∈ put key lt l x ↔ y = x ∨ (y ∈ l ∧ key y ≠ key x) := by
  unfold put
  split
  · rename_i h
    simp only [thr, decide_eq_true_eq] at h
    obtain ⟨h1, h2⟩ := h
    refine ⟨fun hy => ?_, fun hy => ?_⟩
    · obtain ⟨i, hi, rfl⟩ := jb.1 hy
      rw [List.length_set] at hi
      rw [qy h1]
      split
      · exact .inl rfl
      · rename_i hne
        refine .inr ⟨jb.2 ⟨i, hi, rfl⟩, fun he => ?_⟩
        have := vaJ T hu (jb.2 ⟨i, hi, rfl⟩) (jb.2 ⟨_, h1, rfl⟩) (he.trans h2.symm)
        rcases Nat.lt_trichotomy i (pos key lt l (key x)) with h | h | h
        · have h3 := kj.1 hu _ _ h h1; rw [this] at h3; exact T.irr _ h3
        · exact hne h
        · have h3 := kj.1 hu _ _ h hi; rw [this] at h3; exact T.irr _ h3
    · rcases hy with rfl | ⟨hy, hne⟩
      · exact jb.2 ⟨pos key lt l (key y), by rw [List.length_set]; exact h1, by rw [qy h1, if_pos rfl]⟩
      · obtain ⟨i, hi, rfl⟩ := jb.1 hy
        refine jb.2 ⟨i, by rw [List.length_set]; exact hi, ?_⟩
        rw [qy h1, if_neg]
        rintro rfl
        exact hne h2
  · rename_i h
    rw [kF.mem_iff, List.mem_cons]
    refine ⟨fun hy => hy.imp id fun hy => ⟨hy, fun he => h ((yU T hu).2 ⟨y, hy, he⟩)⟩, fun hy => hy.imp id fun hy => hy.1⟩
omit T in
theorem jk : (ins l i x).length = l.length + 1 := kF.length_eq
end
end Srt
end Dm
namespace Dm
open Go
@[go_sem] theorem jcY : vak Go.Proofs.Tryz.prog 9 = none := by kernel_rfl
@[go_sem] theorem zcL : vak Go.Proofs.Tryz.prog 22 = none := by kernel_rfl
@[go_sem] theorem ycv : vak Go.Proofs.Tryz.prog 23 = none := by kernel_rfl
@[go_sem] theorem jcO : vak Go.Proofs.Tryz.prog 24 = none := by kernel_rfl
@[go_sem] theorem zcI : vak Go.Proofs.Tryz.prog 25 = none := by kernel_rfl
@[go_sem] theorem jcN : vak Go.Proofs.Tryz.prog 27 = none := by kernel_rfl
@[go_sem] theorem ycO : vak Go.Proofs.Tryz.prog 48 = none := by kernel_rfl
@[go_sem] theorem vcQ : vak Go.Proofs.Tryz.prog 78 = none := by kernel_rfl
@[go_sem] theorem zcN : vak Go.Proofs.Tryz.prog 88 = none := by kernel_rfl
@[go_sem] theorem xcp : vak Go.Proofs.Tryz.prog 142 = none := by kernel_rfl
@[go_sem] theorem gcl : vak Go.Proofs.Tryz.prog 230 = none := by kernel_rfl
@[go_sem] theorem kcf : zP Go.Proofs.Tryz.prog 29 = some [D.c (C.int IntKind.u64 0), D.nil] := by kernel_rfl
@[go_sem] theorem ycm : zP Go.Proofs.Tryz.prog 31 = some [D.nil, D.nil, D.nil, D.nil, D.c (C.int IntKind.u64 0), D.nil, D.c (C.int IntKind.u64 0), D.c (C.int IntKind.u64 0)] := by kernel_rfl
@[go_sem] theorem ucr : zP Go.Proofs.Tryz.prog 45 = some [D.c (C.int IntKind.u64 0), D.c (C.int IntKind.u64 0), D.c (C.int IntKind.u64 0), D.c (C.int IntKind.u64 0), D.c (C.int IntKind.i64 0)] := by kernel_rfl
@[go_sem] theorem ucc : zP Go.Proofs.Tryz.prog 50 = some [D.c (C.int IntKind.u64 0), D.c (C.int IntKind.u64 0), D.c (C.int IntKind.u64 0), D.c (C.int IntKind.u64 0), D.c (C.int IntKind.u64 0), D.nil, D.c (C.bool false)] := by kernel_rfl
@[go_sem] theorem wcb : zP Go.Proofs.Tryz.prog 62 = some [D.c (C.int IntKind.u64 0), D.c (C.int IntKind.u64 0)] := by kernel_rfl
@[go_sem] theorem ycc : zP Go.Proofs.Tryz.prog 64 = some [D.c (C.int IntKind.u64 0), D.c (C.int IntKind.u64 0), D.c (C.int IntKind.u64 0), D.c (C.int IntKind.i64 0)] := by kernel_rfl
@[go_sem] theorem xcj : zP Go.Proofs.Tryz.prog 74 = some [D.c (C.int IntKind.u64 0), D.c (C.int IntKind.i64 0), D.c (C.int IntKind.u64 0), D.c (C.int IntKind.u64 0)] := by kernel_rfl
@[go_sem] theorem kcg : zP Go.Proofs.Tryz.prog 86 = some [D.nil, D.nil, D.nil, D.nil, D.c (C.int IntKind.u64 0), D.nil, D.c (C.int IntKind.u64 0), D.c (C.int IntKind.u64 0), D.c (C.int IntKind.i64 0)] := by kernel_rfl
@[go_sem] theorem xbK : zP Go.Proofs.Tryz.prog 149 = some [D.c (C.int IntKind.u64 0), D.c (C.flt FloatKind.f64 (some 0))] := by kernel_rfl
@[go_sem] theorem wbY : zP Go.Proofs.Tryz.prog 207 = some [D.c (C.int IntKind.u64 0), D.c (C.int IntKind.u64 0), D.c (C.int IntKind.u64 0)] := by kernel_rfl
@[go_sem] theorem yc6 : bp Go.Proofs.Tryz.prog 3 = none := by kernel_rfl
@[go_sem] theorem kc4 : bp Go.Proofs.Tryz.prog 5 = none := by kernel_rfl
@[go_sem] theorem ucY : bp Go.Proofs.Tryz.prog 9 = none := by kernel_rfl
@[go_sem] theorem xbs : bp Go.Proofs.Tryz.prog 22 = some (50, 7, 72) := by kernel_rfl
@[go_sem] theorem ycQ : bp Go.Proofs.Tryz.prog 23 = some (72, 2, 16) := by kernel_rfl
@[go_sem] theorem ybp : bp Go.Proofs.Tryz.prog 24 = some (64, 4, 32) := by kernel_rfl
@[go_sem] theorem wbx : bp Go.Proofs.Tryz.prog 25 = some (45, 5, 40) := by kernel_rfl
@[go_sem] theorem ucM : bp Go.Proofs.Tryz.prog 26 = none := by kernel_rfl
@[go_sem] theorem zcs : bp Go.Proofs.Tryz.prog 27 = some (74, 4, 32) := by kernel_rfl
@[go_sem] theorem zbq : bp Go.Proofs.Tryz.prog 48 = some (62, 2, 16) := by kernel_rfl
@[go_sem] theorem gcE : bp Go.Proofs.Tryz.prog 70 = none := by kernel_rfl
@[go_sem] theorem jct : bp Go.Proofs.Tryz.prog 78 = some (3, 1, 8) := by kernel_rfl
@[go_sem] theorem jcK : bp Go.Proofs.Tryz.prog 88 = some (26, 1, 8) := by kernel_rfl
@[go_sem] theorem uch : bp Go.Proofs.Tryz.prog 142 = some (149, 2, 16) := by kernel_rfl
@[go_sem] theorem zck : bp Go.Proofs.Tryz.prog 220 = none := by kernel_rfl
@[go_sem] theorem jb9 : bp Go.Proofs.Tryz.prog 230 = some (70, 1, 8) := by kernel_rfl
@[go_sem] theorem vb8 : bp Go.Proofs.Tryz.prog 250 = none := by kernel_rfl
@[go_sem] theorem yco : bp Go.Proofs.Tryz.prog 254 = none := by kernel_rfl
@[go_sem] theorem xbu : bbz Go.Proofs.Tryz.prog 45 = some [(0, 0), (1, 0), (2, 0), (3, 0), (4, 0)] := by kernel_rfl
@[go_sem] theorem gcP : bbz Go.Proofs.Tryz.prog 62 = some [(0, 0), (1, 0)] := by kernel_rfl
@[go_sem] theorem gbt : bbz Go.Proofs.Tryz.prog 64 = some [(0, 0), (1, 0), (2, 0), (3, 0)] := by kernel_rfl
@[go_sem] theorem bbt : bbz Go.Proofs.Tryz.prog 74 = some [(0, 0), (1, 0), (2, 0), (3, 0)] := by kernel_rfl
@[go_sem] theorem qbA : kf Go.Proofs.Tryz.prog 29 0 = some 0 := by kernel_rfl
@[go_sem] theorem kbI : kf Go.Proofs.Tryz.prog 29 1 = some 1 := by kernel_rfl
@[go_sem] theorem zbC : kf Go.Proofs.Tryz.prog 31 0 = some 0 := by kernel_rfl
@[go_sem] theorem gbG : kf Go.Proofs.Tryz.prog 31 1 = some 1 := by kernel_rfl
@[go_sem] theorem jbA : kf Go.Proofs.Tryz.prog 31 2 = some 2 := by kernel_rfl
@[go_sem] theorem zbF : kf Go.Proofs.Tryz.prog 31 3 = some 3 := by kernel_rfl
@[go_sem] theorem kbC : kf Go.Proofs.Tryz.prog 31 4 = some 4 := by kernel_rfl
@[go_sem] theorem qbD : kf Go.Proofs.Tryz.prog 31 5 = some 6 := by kernel_rfl
@[go_sem] theorem ybE : kf Go.Proofs.Tryz.prog 31 6 = some 7 := by kernel_rfl
@[go_sem] theorem ubD : kf Go.Proofs.Tryz.prog 45 0 = some 0 := by kernel_rfl
@[go_sem] theorem zbA : kf Go.Proofs.Tryz.prog 45 1 = some 1 := by kernel_rfl
@[go_sem] theorem wbE : kf Go.Proofs.Tryz.prog 45 2 = some 2 := by kernel_rfl
@[go_sem] theorem ubI : kf Go.Proofs.Tryz.prog 45 3 = some 3 := by kernel_rfl
@[go_sem] theorem kbD : kf Go.Proofs.Tryz.prog 45 4 = some 4 := by kernel_rfl
@[go_sem] theorem vbH : kf Go.Proofs.Tryz.prog 50 0 = some 0 := by kernel_rfl
@[go_sem] theorem wbG : kf Go.Proofs.Tryz.prog 50 1 = some 1 := by kernel_rfl
@[go_sem] theorem zbz : kf Go.Proofs.Tryz.prog 50 2 = some 2 := by kernel_rfl
@[go_sem] theorem bbH : kf Go.Proofs.Tryz.prog 50 3 = some 3 := by kernel_rfl
@[go_sem] theorem kbG : kf Go.Proofs.Tryz.prog 50 4 = some 4 := by kernel_rfl
@[go_sem] theorem zbH : kf Go.Proofs.Tryz.prog 50 5 = some 5 := by kernel_rfl
@[go_sem] theorem kbA : kf Go.Proofs.Tryz.prog 50 6 = some 6 := by kernel_rfl
@[go_sem] theorem xbF : kf Go.Proofs.Tryz.prog 56 0 = some 0 := by kernel_rfl
@[go_sem] theorem gbJ : kf Go.Proofs.Tryz.prog 56 1 = some 1 := by kernel_rfl
@[go_sem] theorem wbI : kf Go.Proofs.Tryz.prog 56 2 = some 2 := by kernel_rfl
@[go_sem] theorem ybJ : kf Go.Proofs.Tryz.prog 56 3 = some 3 := by kernel_rfl
@[go_sem] theorem ubH : kf Go.Proofs.Tryz.prog 56 4 = some 4 := by kernel_rfl
@[go_sem] theorem ybH : kf Go.Proofs.Tryz.prog 56 5 = some 5 := by kernel_rfl
@[go_sem] theorem jbI : kf Go.Proofs.Tryz.prog 56 6 = some 6 := by kernel_rfl
@[go_sem] theorem gbz : kf Go.Proofs.Tryz.prog 56 7 = some 13 := by kernel_rfl
@[go_sem] theorem jbJ : kf Go.Proofs.Tryz.prog 62 0 = some 0 := by kernel_rfl
@[go_sem] theorem xbJ : kf Go.Proofs.Tryz.prog 62 1 = some 1 := by kernel_rfl
@[go_sem] theorem ybF : kf Go.Proofs.Tryz.prog 64 0 = some 0 := by kernel_rfl
@[go_sem] theorem bbB : kf Go.Proofs.Tryz.prog 64 1 = some 1 := by kernel_rfl
@[go_sem] theorem qbF : kf Go.Proofs.Tryz.prog 64 2 = some 2 := by kernel_rfl
@[go_sem] theorem wbC : kf Go.Proofs.Tryz.prog 64 3 = some 3 := by kernel_rfl
@[go_sem] theorem vbA : kf Go.Proofs.Tryz.prog 72 0 = some 0 := by kernel_rfl
@[go_sem] theorem zbB : kf Go.Proofs.Tryz.prog 72 1 = some 1 := by kernel_rfl
@[go_sem] theorem ubz : kf Go.Proofs.Tryz.prog 74 0 = some 0 := by kernel_rfl
@[go_sem] theorem vbB : kf Go.Proofs.Tryz.prog 74 1 = some 1 := by kernel_rfl
@[go_sem] theorem vbG : kf Go.Proofs.Tryz.prog 74 3 = some 3 := by kernel_rfl
@[go_sem] theorem xbG : kf Go.Proofs.Tryz.prog 86 0 = some 0 := by kernel_rfl
@[go_sem] theorem zbD : kf Go.Proofs.Tryz.prog 86 1 = some 8 := by kernel_rfl
@[go_sem] theorem gbq : kf Go.Proofs.Tryz.prog 149 0 = some 0 := by kernel_rfl
@[go_sem] theorem xbr : kf Go.Proofs.Tryz.prog 149 1 = some 1 := by kernel_rfl
@[go_sem] theorem uc5 : uaF Go.Proofs.Tryz.prog 3 = some IntKind.i64 := by kernel_rfl
@[go_sem] theorem qdc : uaF Go.Proofs.Tryz.prog 5 = some IntKind.u8 := by kernel_rfl
@[go_sem] theorem vcR : uaF Go.Proofs.Tryz.prog 26 = some IntKind.u64 := by kernel_rfl
@[go_sem] theorem qcJ : uaF Go.Proofs.Tryz.prog 70 = none := by kernel_rfl
@[go_sem] theorem zcf : uaF Go.Proofs.Tryz.prog 220 = some IntKind.u64 := by kernel_rfl
@[go_sem] theorem uca : uaF Go.Proofs.Tryz.prog 250 = some IntKind.u32 := by kernel_rfl
@[go_sem] theorem vch : uaF Go.Proofs.Tryz.prog 254 = some IntKind.u64 := by kernel_rfl
@[go_sem] theorem kdb : jW Go.Proofs.Tryz.prog 3 = some (TypeDesc.int IntKind.i64) := by kernel_rfl
@[go_sem] theorem jcW : jW Go.Proofs.Tryz.prog 4 = some TypeDesc.bool := by kernel_rfl
@[go_sem] theorem gcX : jW Go.Proofs.Tryz.prog 5 = some (TypeDesc.int IntKind.u8) := by kernel_rfl
@[go_sem] theorem qcG : jW Go.Proofs.Tryz.prog 22 = some (TypeDesc.slice 50) := by kernel_rfl
@[go_sem] theorem jcQ : jW Go.Proofs.Tryz.prog 23 = some (TypeDesc.slice 72) := by kernel_rfl
@[go_sem] theorem vcI : jW Go.Proofs.Tryz.prog 24 = some (TypeDesc.slice 64) := by kernel_rfl
@[go_sem] theorem wcD : jW Go.Proofs.Tryz.prog 25 = some (TypeDesc.slice 45) := by kernel_rfl
@[go_sem] theorem gcF : jW Go.Proofs.Tryz.prog 26 = some (TypeDesc.int IntKind.u64) := by kernel_rfl
@[go_sem] theorem zcK : jW Go.Proofs.Tryz.prog 27 = some (TypeDesc.slice 74) := by kernel_rfl
@[go_sem] theorem zcE : jW Go.Proofs.Tryz.prog 34 = some (TypeDesc.int IntKind.i64) := by kernel_rfl
@[go_sem] theorem kcN : jW Go.Proofs.Tryz.prog 48 = some (TypeDesc.slice 62) := by kernel_rfl
@[go_sem] theorem gcs : jW Go.Proofs.Tryz.prog 70 = some (TypeDesc.float FloatKind.f64) := by kernel_rfl
@[go_sem] theorem wb7 : jW Go.Proofs.Tryz.prog 220 = some (TypeDesc.int IntKind.u64) := by kernel_rfl
@[go_sem] theorem wcr : jW Go.Proofs.Tryz.prog 243 = some (TypeDesc.int IntKind.i64) := by kernel_rfl
@[go_sem] theorem wco : jW Go.Proofs.Tryz.prog 250 = some (TypeDesc.int IntKind.u32) := by kernel_rfl
@[go_sem] theorem bcg : jW Go.Proofs.Tryz.prog 254 = some (TypeDesc.int IntKind.u64) := by kernel_rfl
@[go_sem] theorem jbZ : mapOf Go.Proofs.Tryz.prog 103 = some ([KK.int IntKind.u64], D.c (C.int IntKind.i64 0)) := by kernel_rfl
@[go_sem] theorem ub3 : mapOf Go.Proofs.Tryz.prog 205 = some ([KK.int IntKind.u64, KK.int IntKind.u64, KK.int IntKind.u64], D.c (C.int IntKind.i64 0)) := by kernel_rfl
@[go_sem] theorem ubC : gh Go.Proofs.Tryz.prog 29 0 = some (0, 1) := by kernel_rfl
@[go_sem] theorem qbB : gh Go.Proofs.Tryz.prog 29 1 = some (1, 1) := by kernel_rfl
@[go_sem] theorem xbz : gh Go.Proofs.Tryz.prog 31 0 = some (0, 1) := by kernel_rfl
@[go_sem] theorem ybz : gh Go.Proofs.Tryz.prog 31 1 = some (1, 1) := by kernel_rfl
@[go_sem] theorem bbC : gh Go.Proofs.Tryz.prog 31 2 = some (2, 1) := by kernel_rfl
@[go_sem] theorem jbz : gh Go.Proofs.Tryz.prog 31 3 = some (3, 1) := by kernel_rfl
@[go_sem] theorem jbG : gh Go.Proofs.Tryz.prog 31 4 = some (4, 2) := by kernel_rfl
@[go_sem] theorem kbE : gh Go.Proofs.Tryz.prog 31 5 = some (6, 1) := by kernel_rfl
@[go_sem] theorem wbB : gh Go.Proofs.Tryz.prog 31 6 = some (7, 1) := by kernel_rfl
@[go_sem] theorem kbz : gh Go.Proofs.Tryz.prog 45 0 = some (0, 1) := by kernel_rfl
@[go_sem] theorem zbE : gh Go.Proofs.Tryz.prog 45 1 = some (1, 1) := by kernel_rfl
@[go_sem] theorem jbF : gh Go.Proofs.Tryz.prog 45 2 = some (2, 1) := by kernel_rfl
@[go_sem] theorem qbz : gh Go.Proofs.Tryz.prog 45 3 = some (3, 1) := by kernel_rfl
@[go_sem] theorem xbC : gh Go.Proofs.Tryz.prog 45 4 = some (4, 1) := by kernel_rfl
@[go_sem] theorem ubG : gh Go.Proofs.Tryz.prog 50 0 = some (0, 1) := by kernel_rfl
@[go_sem] theorem xbH : gh Go.Proofs.Tryz.prog 50 1 = some (1, 1) := by kernel_rfl
@[go_sem] theorem xbB : gh Go.Proofs.Tryz.prog 50 4 = some (4, 1) := by kernel_rfl
@[go_sem] theorem ubE : gh Go.Proofs.Tryz.prog 50 6 = some (6, 1) := by kernel_rfl
@[go_sem] theorem ybC : gh Go.Proofs.Tryz.prog 62 0 = some (0, 1) := by kernel_rfl
@[go_sem] theorem kbB : gh Go.Proofs.Tryz.prog 62 1 = some (1, 1) := by kernel_rfl
@[go_sem] theorem bbD : gh Go.Proofs.Tryz.prog 64 0 = some (0, 1) := by kernel_rfl
@[go_sem] theorem qbI : gh Go.Proofs.Tryz.prog 64 1 = some (1, 1) := by kernel_rfl
@[go_sem] theorem gbE : gh Go.Proofs.Tryz.prog 64 2 = some (2, 1) := by kernel_rfl
@[go_sem] theorem jbB : gh Go.Proofs.Tryz.prog 64 3 = some (3, 1) := by kernel_rfl
@[go_sem] theorem wbJ : gh Go.Proofs.Tryz.prog 74 0 = some (0, 1) := by kernel_rfl
@[go_sem] theorem ybG : gh Go.Proofs.Tryz.prog 74 1 = some (1, 1) := by kernel_rfl
@[go_sem] theorem gbB : gh Go.Proofs.Tryz.prog 74 2 = some (2, 1) := by kernel_rfl
@[go_sem] theorem kbH : gh Go.Proofs.Tryz.prog 74 3 = some (3, 1) := by kernel_rfl
@[go_sem] theorem ubB : gh Go.Proofs.Tryz.prog 86 0 = some (0, 8) := by kernel_rfl
@[go_sem] theorem gbH : gh Go.Proofs.Tryz.prog 86 1 = some (8, 1) := by kernel_rfl
@[go_sem] theorem wbq : gh Go.Proofs.Tryz.prog 149 0 = some (0, 1) := by kernel_rfl
@[go_sem] theorem kbo : gh Go.Proofs.Tryz.prog 149 1 = some (1, 1) := by kernel_rfl
@[go_sem] theorem zbw : gh Go.Proofs.Tryz.prog 207 0 = some (0, 1) := by kernel_rfl
@[go_sem] theorem qbs : gh Go.Proofs.Tryz.prog 207 1 = some (1, 2) := by kernel_rfl
@[go_sem] theorem wc5 : xu Go.Proofs.Tryz.prog 3 = some (false, 1) := by kernel_rfl
@[go_sem] theorem vc6 : xu Go.Proofs.Tryz.prog 4 = some (false, 1) := by kernel_rfl
@[go_sem] theorem gda : xu Go.Proofs.Tryz.prog 5 = some (false, 1) := by kernel_rfl
@[go_sem] theorem bcz : xu Go.Proofs.Tryz.prog 22 = some (false, 1) := by kernel_rfl
@[go_sem] theorem bcy : xu Go.Proofs.Tryz.prog 23 = some (false, 1) := by kernel_rfl
@[go_sem] theorem zcy : xu Go.Proofs.Tryz.prog 24 = some (false, 1) := by kernel_rfl
@[go_sem] theorem bcN : xu Go.Proofs.Tryz.prog 25 = some (false, 1) := by kernel_rfl
@[go_sem] theorem gcR : xu Go.Proofs.Tryz.prog 26 = some (false, 1) := by kernel_rfl
@[go_sem] theorem ucF : xu Go.Proofs.Tryz.prog 27 = some (false, 1) := by kernel_rfl
@[go_sem] theorem ucu : xu Go.Proofs.Tryz.prog 29 = some (true, 2) := by kernel_rfl
@[go_sem] theorem zcJ : xu Go.Proofs.Tryz.prog 31 = some (true, 8) := by kernel_rfl
@[go_sem] theorem uct : xu Go.Proofs.Tryz.prog 34 = some (false, 1) := by kernel_rfl
@[go_sem] theorem zcx : xu Go.Proofs.Tryz.prog 45 = some (true, 5) := by kernel_rfl
@[go_sem] theorem xct : xu Go.Proofs.Tryz.prog 48 = some (false, 1) := by kernel_rfl
@[go_sem] theorem xcD : xu Go.Proofs.Tryz.prog 50 = some (true, 7) := by kernel_rfl
@[go_sem] theorem kcT : xu Go.Proofs.Tryz.prog 56 = some (true, 14) := by kernel_rfl
@[go_sem] theorem wcA : xu Go.Proofs.Tryz.prog 62 = some (true, 2) := by kernel_rfl
@[go_sem] theorem bcM : xu Go.Proofs.Tryz.prog 64 = some (true, 4) := by kernel_rfl
@[go_sem] theorem ucQ : xu Go.Proofs.Tryz.prog 70 = some (false, 1) := by kernel_rfl
@[go_sem] theorem wcB : xu Go.Proofs.Tryz.prog 72 = some (true, 2) := by kernel_rfl
@[go_sem] theorem vcN : xu Go.Proofs.Tryz.prog 74 = some (true, 4) := by kernel_rfl
@[go_sem] theorem gcm : xu Go.Proofs.Tryz.prog 149 = some (true, 2) := by kernel_rfl
@[go_sem] theorem gcq : xu Go.Proofs.Tryz.prog 254 = some (false, 1) := by kernel_rfl
@[go_sem] theorem udl : zOf Go.Proofs.Tryz.prog 3 = some (D.c (C.int IntKind.i64 0)) := by kernel_rfl
@[go_sem] theorem zc9 : zOf Go.Proofs.Tryz.prog 26 = some (D.c (C.int IntKind.u64 0)) := by kernel_rfl
@[go_sem] theorem qc7 : zOf Go.Proofs.Tryz.prog 29 = some (D.agg [D.c (C.int IntKind.u64 0), D.nil]) := by kernel_rfl
@[go_sem] theorem zc8 : zOf Go.Proofs.Tryz.prog 31 = some (D.agg [D.nil, D.nil, D.nil, D.nil, D.c (C.int IntKind.u64 0), D.nil, D.c (C.int IntKind.u64 0), D.c (C.int IntKind.u64 0)]) := by kernel_rfl
@[go_sem] theorem bdb : zOf Go.Proofs.Tryz.prog 34 = some (D.c (C.int IntKind.i64 0)) := by kernel_rfl
@[go_sem] theorem bcZ : zOf Go.Proofs.Tryz.prog 45 = some (D.agg [D.c (C.int IntKind.u64 0), D.c (C.int IntKind.u64 0), D.c (C.int IntKind.u64 0), D.c (C.int IntKind.u64 0), D.c (C.int IntKind.i64 0)]) := by kernel_rfl
@[go_sem] theorem yc8 : zOf Go.Proofs.Tryz.prog 50 = some (D.agg [D.c (C.int IntKind.u64 0), D.c (C.int IntKind.u64 0), D.c (C.int IntKind.u64 0), D.c (C.int IntKind.u64 0), D.c (C.int IntKind.u64 0), D.nil, D.c (C.bool false)]) := by kernel_rfl
@[go_sem] theorem vc8 : zOf Go.Proofs.Tryz.prog 62 = some (D.agg [D.c (C.int IntKind.u64 0), D.c (C.int IntKind.u64 0)]) := by kernel_rfl
@[go_sem] theorem zc3 : zOf Go.Proofs.Tryz.prog 64 = some (D.agg [D.c (C.int IntKind.u64 0), D.c (C.int IntKind.u64 0), D.c (C.int IntKind.u64 0), D.c (C.int IntKind.i64 0)]) := by kernel_rfl
@[go_sem] theorem wc4 : zOf Go.Proofs.Tryz.prog 72 = some (D.agg [D.c (C.int IntKind.u64 0), D.c (C.flt FloatKind.f64 (some 0))]) := by kernel_rfl
@[go_sem] theorem wcV : zOf Go.Proofs.Tryz.prog 74 = some (D.agg [D.c (C.int IntKind.u64 0), D.c (C.int IntKind.i64 0), D.c (C.int IntKind.u64 0), D.c (C.int IntKind.u64 0)]) := by kernel_rfl
@[go_sem] theorem ycM : zOf Go.Proofs.Tryz.prog 149 = some (D.agg [D.c (C.int IntKind.u64 0), D.c (C.flt FloatKind.f64 (some 0))]) := by kernel_rfl
@[go_sem] theorem ucC : zOf Go.Proofs.Tryz.prog 254 = some (D.c (C.int IntKind.u64 0)) := by kernel_rfl
@[go_sem] theorem ydf : zc0 Go.Proofs.Tryz.prog 3 = [C.int IntKind.i64 0] := by kernel_rfl
@[go_sem] theorem jda : zc0 Go.Proofs.Tryz.prog 26 = [C.int IntKind.u64 0] := by kernel_rfl
@[go_sem] theorem zdb : zc0 Go.Proofs.Tryz.prog 45 = [C.int IntKind.u64 0, C.int IntKind.u64 0, C.int IntKind.u64 0, C.int IntKind.u64 0, C.int IntKind.i64 0] := by kernel_rfl
@[go_sem] theorem yc5 : zc0 Go.Proofs.Tryz.prog 50 = [C.int IntKind.u64 0, C.int IntKind.u64 0, C.int IntKind.u64 0, C.int IntKind.u64 0, C.int IntKind.u64 0, C.sl [], C.bool false] := by kernel_rfl
@[go_sem] theorem yc2 : zc0 Go.Proofs.Tryz.prog 62 = [C.int IntKind.u64 0, C.int IntKind.u64 0] := by kernel_rfl
@[go_sem] theorem zc4 : zc0 Go.Proofs.Tryz.prog 64 = [C.int IntKind.u64 0, C.int IntKind.u64 0, C.int IntKind.u64 0, C.int IntKind.i64 0] := by kernel_rfl
@[go_sem] theorem uc1 : zc0 Go.Proofs.Tryz.prog 70 = [C.flt FloatKind.f64 (some 0)] := by kernel_rfl
@[go_sem] theorem qcY : zc0 Go.Proofs.Tryz.prog 72 = [C.int IntKind.u64 0, C.flt FloatKind.f64 (some 0)] := by kernel_rfl
@[go_sem] theorem kcZ : zc0 Go.Proofs.Tryz.prog 74 = [C.int IntKind.u64 0, C.int IntKind.i64 0, C.int IntKind.u64 0, C.int IntKind.u64 0] := by kernel_rfl
@[go_sem] theorem vcS : zc0 Go.Proofs.Tryz.prog 149 = [C.int IntKind.u64 0, C.flt FloatKind.f64 (some 0)] := by kernel_rfl
@[go_sem] theorem vcY : uac Go.Proofs.Tryz.prog 3 = some [C.int IntKind.i64 0] := by kernel_rfl
@[go_sem] theorem ucR : uac Go.Proofs.Tryz.prog 26 = some [C.int IntKind.u64 0] := by kernel_rfl
@[go_sem] theorem wcv : uac Go.Proofs.Tryz.prog 45 = some [C.int IntKind.u64 0, C.int IntKind.u64 0, C.int IntKind.u64 0, C.int IntKind.u64 0, C.int IntKind.i64 0] := by kernel_rfl
@[go_sem] theorem kcA : uac Go.Proofs.Tryz.prog 50 = some [C.int IntKind.u64 0, C.int IntKind.u64 0, C.int IntKind.u64 0, C.int IntKind.u64 0, C.int IntKind.u64 0, C.sl [], C.bool false] := by kernel_rfl
@[go_sem] theorem bcR : uac Go.Proofs.Tryz.prog 62 = some [C.int IntKind.u64 0, C.int IntKind.u64 0] := by kernel_rfl
@[go_sem] theorem ycF : uac Go.Proofs.Tryz.prog 64 = some [C.int IntKind.u64 0, C.int IntKind.u64 0, C.int IntKind.u64 0, C.int IntKind.i64 0] := by kernel_rfl
@[go_sem] theorem vcA : uac Go.Proofs.Tryz.prog 70 = some [C.flt FloatKind.f64 (some 0)] := by kernel_rfl
@[go_sem] theorem gct : uac Go.Proofs.Tryz.prog 72 = some [C.int IntKind.u64 0, C.flt FloatKind.f64 (some 0)] := by kernel_rfl
@[go_sem] theorem bcu : uac Go.Proofs.Tryz.prog 74 = some [C.int IntKind.u64 0, C.int IntKind.i64 0, C.int IntKind.u64 0, C.int IntKind.u64 0] := by kernel_rfl
@[go_sem] theorem bco : uac Go.Proofs.Tryz.prog 149 = some [C.int IntKind.u64 0, C.flt FloatKind.f64 (some 0)] := by kernel_rfl
end Dm
