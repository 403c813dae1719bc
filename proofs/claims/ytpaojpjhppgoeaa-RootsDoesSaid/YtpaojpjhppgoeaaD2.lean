import Derived.Test.YtpaojpjhppgoeaaD1
set_option linter.unusedSimpArgs false
set_option linter.unusedVariables false
/-! Operations in whatever order: what is done of each; two that have nothing to do with each other may change places. -/
namespace Dm
open Go
section
variable {δ : List Deferred} {P : Program} {T : Tab} {all : Array Oper} {s s' s'' e : St}

/-- The temporaries that an operation reads. -/
def opT (o : Oper) : List Nat := o.op.operands.toList.filterMap fun | .tmp t => some t | _ => none
structure Ent where
  i : Nat
  o : Oper
  T : List Nat
  W : List Nat
  B : Nat
  r : St
def Ent.app (x : Ent) (s : St) : St := s.mrg x.T x.o.dst x.r
def Ex (P : Program) (T : Tab) (x : Ent) (s : St) : Prop :=
  aop P T x.o (s.loc (opT x.o) x.T x.B) (fun r => r = x.r) ∧ Fit (opT x.o) x.T x.B x.o.dst s x.r ∧ (∀ id ∈ x.T, id ∉ x.W → lk id x.r.os = lk id s.os) ∧ ∀ t, x.o.dst = some t → (lk t x.r.tm).isSome = true
def Sk (x : Ent) : Prop := x.T = [] ∧ x.r = (⟨[], [], x.B⟩ : St).put x.o.dst .skip
def Good (P : Program) (T : Tab) (all : Array Oper) (x : Ent) (s : St) : Prop :=
  match x.o.guard with
  | none => Ex P T x s
  | some (j, w) => match s.gd (gtmp all j) with
    | .bool b => (b = w → Ex P T x s) ∧ (b = !w → Sk x)
    | .skip => Sk x
    | _ => False
def Eqv (s s' : St) : Prop := (∀ t, lk t s.tm = lk t s'.tm) ∧ ∀ id, lk id s.os = lk id s'.os
theorem Eqv.symm (h : Eqv s s') : Eqv s' s := ⟨fun t => (h.1 t).symm, fun i => (h.2 i).symm⟩
theorem Eqv.trans (h : Eqv s s') (h' : Eqv s' s'') : Eqv s s'' := ⟨fun t => (h.1 t).trans (h'.1 t), fun i => (h.2 i).trans (h'.2 i)⟩
theorem pickL_congr {α : Type} {l l' : List (Nat × α)} : ∀ {ks : List Nat}, (∀ k ∈ ks, lk k l = lk k l') → pickL ks l = pickL ks l'
  | [], _ => rfl
  | k :: ks, h => by
    rw [pickL, pickL, h k (by simp), pickL_congr fun k hk => h k (by simp [hk])]
theorem opT_looks {o : Oper} {t : Nat} (h : t ∈ opT o) : t ∈ o.looksAt all := by
  unfold Oper.looksAt
  exact List.mem_append_left _ h
theorem gtmp_looks {o : Oper} {j : Nat} {w : Bool} (h : o.guard = some (j, w)) {t : Nat} (ht : gtmp all j = some t) : t ∈ o.looksAt all := by
  unfold Oper.looksAt
  refine List.mem_append_right _ ?_
  rw [h]
  unfold gtmp at ht
  cases hj : all[j]? with
  | none => rw [hj] at ht; cases ht
  | some x =>
    rw [hj] at ht
    have ht' : x.dst = some t := ht
    simp [hj, ht']
theorem Ex.of {x : Ent} (h : Ex P T x s) (h1 : ∀ t ∈ opT x.o, lk t s.tm = lk t s'.tm) (h2 : ∀ id ∈ x.T, lk id s.os = lk id s'.os) : Ex P T x s' := by
  obtain ⟨h3, h4, h5, h6⟩ := h
  have e : s.loc (opT x.o) x.T x.B = s'.loc (opT x.o) x.T x.B := by
    unfold St.loc
    rw [pickL_congr h1, pickL_congr h2]
  refine ⟨by rw [← e]; exact h3, ⟨h4.low, fun t y ht hy => h4.vals t y ht (by rw [h1 t ht]; exact hy), fun i o hi ho => h4.obs i o hi (by rw [h2 i hi]; exact ho), h4.nx, h4.ros, h4.rv⟩, fun id hi hw => (h5 id hi hw).trans (h2 id hi), h6⟩
theorem Good.of {x : Ent} (h : Good P T all x s) (h1 : ∀ t ∈ x.o.looksAt all, lk t s.tm = lk t s'.tm) (h2 : ∀ id ∈ x.T, lk id s.os = lk id s'.os) : Good P T all x s' := by
  have hE : Ex P T x s → Ex P T x s' := fun h => h.of (fun t ht => h1 t (opT_looks ht)) h2
  unfold Good at *
  cases hg : x.o.guard with
  | none => rw [hg] at h; exact hE h
  | some jw =>
    obtain ⟨j, w⟩ := jw
    rw [hg] at h
    have e : s.gd (gtmp all j) = s'.gd (gtmp all j) := by
      cases ht : gtmp all j with
      | none => rfl
      | some t => simp [St.gd, St.get, h1 t (gtmp_looks hg ht)]
    simp only at h ⊢
    rw [← e]
    split at h <;> simp_all
/-- What any operation that was carried out, or passed over, keeps. -/
theorem Good.facts {x : Ent} (h : Good P T all x s) : (∀ i o, lk i x.r.os = some o → i ∈ x.T ∨ x.B ≤ i ∧ i < x.r.nx) ∧ (∀ id ∈ x.T, id ∉ x.W → lk id x.r.os = lk id s.os) ∧ (∀ id ∈ x.T, id < x.B) := by
  have hE : Ex P T x s → _ := fun ⟨_, h4, h5, _⟩ => (⟨fun i o hi => (h4.ros i o hi).1, h5, h4.low⟩ : (∀ i o, lk i x.r.os = some o → i ∈ x.T ∨ x.B ≤ i ∧ i < x.r.nx) ∧ (∀ id ∈ x.T, id ∉ x.W → lk id x.r.os = lk id s.os) ∧ (∀ id ∈ x.T, id < x.B))
  have hS : Sk x → (∀ i o, lk i x.r.os = some o → i ∈ x.T ∨ x.B ≤ i ∧ i < x.r.nx) ∧ (∀ id ∈ x.T, id ∉ x.W → lk id x.r.os = lk id s.os) ∧ (∀ id ∈ x.T, id < x.B) := fun ⟨h1, h2⟩ => by
    rw [h1, h2]
    refine ⟨fun i o hi => ?_, by simp, by simp⟩
    cases hd : x.o.dst <;> rw [hd] at hi <;> cases hi
  unfold Good at h
  cases hg : x.o.guard with
  | none => rw [hg] at h; exact hE h
  | some jw =>
    obtain ⟨j, w⟩ := jw
    rw [hg] at h
    simp only at h
    generalize s.gd (gtmp all j) = v at h
    split at h
    · rename_i b
      by_cases hb : b = w
      · exact hE (h.1 hb)
      · exact hS (h.2 (by cases b <;> cases w <;> simp_all))
    · exact hS h
    · cases h
theorem mrg_tm {x : Ent} {t : Nat} : lk t (x.app s).tm = if x.o.dst = some t then some (x.r.get t) else lk t s.tm := by
  unfold Ent.app St.mrg
  cases x.o.dst with
  | none => simp
  | some u =>
    simp only [lk_cons, Option.some.injEq]
    by_cases h : t = u
    · subst h; simp
    · have h' : ¬ u = t := fun e => h e.symm
      simp [h, h']
theorem mrg_os {x : Ent} {i : Nat} : lk i (x.app s).os = (lk i x.r.os).or (if i ∈ x.T then none else lk i s.os) := by
  unfold Ent.app St.mrg
  simp only [lk_app, lk_without]
theorem Eqv.app {x : Ent} (h : Eqv s s') : Eqv (x.app s) (x.app s') := by
  refine ⟨fun t => ?_, fun i => ?_⟩
  · rw [mrg_tm, mrg_tm, h.1]
  · rw [mrg_os, mrg_os, h.2]

/-- Two operations that have nothing to do with each other. -/
structure Ind (all : Array Oper) (y x : Ent) : Prop where
  a : y.o.apart all x.o = true
  w1 : ∀ id ∈ y.W, id ∉ x.T
  w2 : ∀ id ∈ x.W, id ∉ y.T
  n1 : ∀ id ∈ x.T, ¬ (y.B ≤ id ∧ id < y.r.nx)
  n3 : y.r.nx ≤ x.B
  n4 : y.B ≤ y.r.nx
theorem swap {x y : Ent} (hy : Good P T all y s) (hx : Good P T all x (y.app s)) (hi : Ind all y x) : Good P T all x s ∧ Good P T all y (x.app s) ∧ Eqv (y.app (x.app s)) (x.app (y.app s)) := by
  obtain ⟨a1, a2, a3⟩ := Oper.apart_spec hi.a
  obtain ⟨y1, y2, y3⟩ := hy.facts
  obtain ⟨x1, x2, x3⟩ := hx.facts
  have hyx : ∀ id ∈ x.T, lk id (y.app s).os = lk id s.os := fun id hid => by
    rw [mrg_os]
    by_cases h : id ∈ y.T
    · rw [y2 id h (fun hw => hi.w1 id hw hid), if_pos h]
      simp
    · cases hl : lk id y.r.os with
      | none => simp [h]
      | some o => exact absurd ((y1 id o hl).resolve_left h) (hi.n1 id hid)
  have hgx : Good P T all x s := hx.of (fun t ht => by
    rw [mrg_tm, if_neg]
    exact fun hd => a1 t hd ht) hyx
  have hxy : ∀ id ∈ y.T, lk id (x.app s).os = lk id s.os := fun id hid => by
    rw [mrg_os]
    by_cases h : id ∈ x.T
    · rw [x2 id h (fun hw => hi.w2 id hw hid), if_pos h, hyx id h]
      simp
    · cases hl : lk id x.r.os with
      | none => simp [h]
      | some o =>
        have h1 := (x1 id o hl).resolve_left h
        have h2 := y3 id hid
        have h3 := hi.n3
        have h4 := hi.n4
        omega
  refine ⟨hgx, hy.of (fun t ht => ?_) (fun id hid => (hxy id hid).symm), fun t => ?_, fun id => ?_⟩
  · rw [mrg_tm, if_neg]
    exact fun hd => a3 t hd ht
  · rw [mrg_tm, mrg_tm, mrg_tm, mrg_tm]
    by_cases h1 : y.o.dst = some t
    · have h2 : x.o.dst ≠ some t := a2 t h1
      rw [if_pos h1, if_neg h2, if_pos h1]
    · rw [if_neg h1, if_neg h1]
  · rw [mrg_os, mrg_os (x := x) (s := s), mrg_os (x := x), mrg_os (x := y) (s := s)]
    by_cases hT : id ∈ y.T
    · by_cases hT' : id ∈ x.T
      · have e1 := y2 id hT (fun hw => hi.w1 id hw hT')
        have e2 := x2 id hT' (fun hw => hi.w2 id hw hT)
        rw [hyx id hT'] at e2
        simp [hT, hT', e1, e2]
      · have : lk id x.r.os = none := by
          cases hl : lk id x.r.os with
          | none => rfl
          | some o =>
            have h1 := (x1 id o hl).resolve_left hT'
            have h2 := y3 id hT
            have h3 := hi.n3
            have h4 := hi.n4
            omega
        simp [hT, hT', this]
    · by_cases hT' : id ∈ x.T
      · have : lk id y.r.os = none := by
          cases hl : lk id y.r.os with
          | none => rfl
          | some o => exact absurd ((y1 id o hl).resolve_left hT) (hi.n1 id hT')
        simp [hT, hT', this]
      · cases hly : lk id y.r.os with
        | none => simp [hT, hT']
        | some o =>
          have h1 := (y1 id o hly).resolve_left hT
          cases hlx : lk id x.r.os with
          | none => simp [hT']
          | some o' =>
            have h2 := (x1 id o' hlx).resolve_left hT'
            have h3 := hi.n3
            omega

def Tr (P : Program) (T : Tab) (all : Array Oper) : List Ent → St → St → Prop
  | [], s, e => Eqv s e
  | x :: l, s, e => Good P T all x s ∧ Tr P T all l (x.app s) e
theorem Tr.eqv : ∀ {l : List Ent} {s s' : St}, Tr P T all l s e → Eqv s s' → Tr P T all l s' e
  | [], _, _, h, h' => h'.symm.trans h
  | _ :: _, _, _, h, h' => ⟨h.1.of (fun t _ => h'.1 t) (fun i _ => h'.2 i), h.2.eqv h'.app⟩
theorem Tr.front {x : Ent} {post : List Ent} : ∀ {pre : List Ent} {s : St}, (∀ y ∈ pre, Ind all y x) → Tr P T all (pre ++ x :: post) s e → Good P T all x s ∧ Tr P T all (pre ++ post) (x.app s) e
  | [], _, _, h => h
  | y :: pre, _, hi, h => by
    obtain ⟨h1, h2⟩ := h
    obtain ⟨h3, h4⟩ := Tr.front (fun z hz => hi z (by simp [hz])) h2
    obtain ⟨h5, h6, h7⟩ := swap h1 h3 (hi y (by simp))
    exact ⟨h5, h6, h4.eqv h7.symm⟩
end
end Dm
