import Derived.Test.YtpaojpjhppgoeaaS12
set_option linter.unusedSimpArgs false
set_option linter.unusedVariables false
/-! Loops; regions that draw their order and only read. -/
namespace Dm
open Go

/-! ### A state that says less -/
def D.bel0 (N : Nat) : D → Bool
  | .ref id _ => decide (id < N)
  | .eref id _ _ _ _ => decide (id < N)
  | .vec id _ => decide (id < N)
  | .view id _ _ _ _ => decide (id < N)
  | .agg _ => false
  | .tup _ => false
  | .fn _ _ _ => false
  | _ => true
def D.bel1 (N : Nat) : D → Bool
  | .agg l => l.all (D.bel0 N)
  | .fn _ fi ca => fi.all (D.bel0 N) && ca.all (D.bel0 N)
  | d => d.bel0 N
def D.bel2 (N : Nat) : D → Bool
  | .agg l => l.all (D.bel1 N)
  | .tup l => l.all (D.bel1 N)
  | .fn _ fi ca => fi.all (D.bel1 N) && ca.all (D.bel1 N)
  | d => d.bel1 N
def Ob.bel (N : Nat) : Ob → Bool
  | .box cs => cs.all (D.bel2 N)
  | .vec .. => true
def dle (d : D) : D → Prop
  | .undef => True
  | d' => d = d'
def ole : Ob → Ob → Prop
  | .box cs, .box cs' => pw dle cs cs'
  | o, o' => o = o'
def subT (tm : List (Nat × D)) : List (Nat × D) → Prop
  | [] => True
  | (t, d') :: l => (∃ d, lk t tm = some d ∧ dle d d') ∧ subT tm l
def subO (os : List (Nat × Ob)) : List (Nat × Ob) → Prop
  | [] => True
  | (i, o') :: l => (∃ o, lk i os = some o ∧ ole o o') ∧ subO os l
def St.bel (s : St) : Bool := s.tm.all (fun x => x.2.bel2 s.nx) && s.os.all (fun x => decide (x.1 < s.nx) && x.2.bel s.nx)
/-- 's'' says no more than 's'. -/
def Sub (N : Nat) (s s' : St) : Prop := subT s.tm s'.tm ∧ subO s.os s'.os ∧ N ≤ s'.nx ∧ s'.nx ≤ s.nx ∧ s'.bel = true

def G.cut (g : G) (N : Nat) : G := ⟨fun i => if i < N then g.ρ i else none, fun i => if i < N then g.κ i else none, g.I⟩

section
variable {δ : List Deferred} {P : Program} {g g' : G} {s s' : St} {a : Act} {w w' : World} {n N : Nat}

theorem VRel.cut0 {M : Nat} {v : Value} {d : D} (h : VRel g w v d) (hb : d.bel0 M = true) : VRel (g.cut M) w v d := by
  cases h <;> simp only [D.bel0, decide_eq_true_eq, Bool.false_eq_true] at hb
  case undef => exact .undef _
  case skip => exact .skip
  case c h => exact .c _ _ h
  case ref h => exact .ref _ _ _ (by simp [G.cut, hb, h])
  case eref h hn hv => exact .eref _ _ _ _ _ _ _ _ _ _ (by simp only [G.cut, if_pos hb]; exact h) hn hv
  case rp hI hcell => exact .rp _ _ _ _ hI hcell
  case nilp => exact .nilp
  case nilf => exact .nilf
  case nil => exact .nil
  case csl h => exact .csl _ _ h
  case view h hc hl hh hm hv => exact .view _ _ _ _ _ _ _ _ _ _ (by simp only [G.cut, if_pos hb]; exact h) hc hl hh hm hv
  case vec h hn hm ha hv => exact .vec _ _ _ _ _ _ _ (by simp only [G.cut, if_pos hb]; exact h) hn hm ha hv
theorem VRel.cut1 {M : Nat} {v : Value} {d : D} (h : VRel g w v d) (hb : d.bel1 M = true) : VRel (g.cut M) w v d := by
  unfold D.bel1 at hb
  split at hb
  · cases h with
    | agg vs _ hl hp => exact .agg vs _ hl fun i u e hu he => (hp i u e hu he).cut0 (List.all_eq_true.1 hb _ (List.mem_of_getElem? he))
  · simp only [Bool.and_eq_true] at hb
    cases h with
    | fn _ fi ca _ _ h1 h2 h3 h4 => exact .fn _ fi ca _ _ h1 h2 (fun i u e hu he => (h3 i u e hu he).cut0 (List.all_eq_true.1 hb.1 _ (List.mem_of_getElem? he))) (fun i u e hu he => (h4 i u e hu he).cut0 (List.all_eq_true.1 hb.2 _ (List.mem_of_getElem? he)))
  · exact h.cut0 hb
theorem VRel.cut2 {M : Nat} {v : Value} {d : D} (h : VRel g w v d) (hb : d.bel2 M = true) : VRel (g.cut M) w v d := by
  unfold D.bel2 at hb
  split at hb
  · cases h with
    | agg vs _ hl hp => exact .agg vs _ hl fun i u e hu he => (hp i u e hu he).cut1 (List.all_eq_true.1 hb _ (List.mem_of_getElem? he))
  · cases h with
    | tup vs _ hl hp => exact .tup vs _ hl fun i u e hu he => (hp i u e hu he).cut1 (List.all_eq_true.1 hb _ (List.mem_of_getElem? he))
  · simp only [Bool.and_eq_true] at hb
    cases h with
    | fn _ fi ca _ _ h1 h2 h3 h4 => exact .fn _ fi ca _ _ h1 h2 (fun i u e hu he => (h3 i u e hu he).cut1 (List.all_eq_true.1 hb.1 _ (List.mem_of_getElem? he))) (fun i u e hu he => (h4 i u e hu he).cut1 (List.all_eq_true.1 hb.2 _ (List.mem_of_getElem? he)))
  · exact h.cut1 hb

theorem VRel.le {v : Value} {d d' : D} (h : VRel g w v d) (hd : dle d d') : VRel g w v d' := by
  unfold dle at hd
  split at hd
  · exact .undef _
  · subst hd; exact h

theorem subT_get {tm : List (Nat × D)} : ∀ {l : List (Nat × D)} {t : Nat} {d' : D}, subT tm l → lk t l = some d' → ∃ d, lk t tm = some d ∧ dle d d'
  | [], t, d', _, h => by cases h
  | (u, e) :: l, t, d', hs, h => by
    simp only [lk_cons] at h
    split at h
    · rename_i he; subst he; cases h; exact hs.1
    · exact subT_get hs.2 h
theorem subO_get {os : List (Nat × Ob)} : ∀ {l : List (Nat × Ob)} {t : Nat} {d' : Ob}, subO os l → lk t l = some d' → ∃ d, lk t os = some d ∧ ole d d'
  | [], t, d', _, h => by cases h
  | (u, e) :: l, t, d', hs, h => by
    simp only [lk_cons] at h
    split at h
    · rename_i he; subst he; cases h; exact hs.1
    · exact subO_get hs.2 h
theorem lk_mem {α : Type} : ∀ {l : List (Nat × α)} {t : Nat} {d : α}, lk t l = some d → (t, d) ∈ l
  | [], t, d, h => by cases h
  | (u, e) :: l, t, d, h => by
    simp only [lk_cons] at h
    split at h
    · rename_i he; subst he; cases h; simp
    · exact List.mem_cons_of_mem _ (lk_mem h)

theorem ole_blk {o o' : Ob} (h : ole o o') (id : Nat) : g.blk id o' = g.blk id o := by
  cases o <;> cases o' <;> simp only [ole, reduceCtorEq] at h
  · rfl
  · rw [h]

theorem Rel.sub (hr : Rel δ g s a w) (h : Sub N s s') : Rel δ (g.cut s'.nx) s' a w ∧ StepN N g s w (g.cut s'.nx) s' w := by
  obtain ⟨h1, h2, h3, h4, h5⟩ := h
  simp only [St.bel, Bool.and_eq_true] at h5
  have hlt : ∀ id o', lk id s'.os = some o' → id < s'.nx ∧ o'.bel s'.nx = true := fun id o' h => by
    have := List.all_eq_true.1 h5.2 _ (lk_mem h)
    simpa using this
  have hblk : ∀ id o o', lk id s'.os = some o' → ole o o' → (g.cut s'.nx).blk id o' = g.blk id o := fun id o o' h hle => by
    rw [← ole_blk hle id]
    obtain ⟨h6, _⟩ := hlt id o' h
    cases o' <;> simp only [G.blk, G.cut, if_pos h6]
  have hown : ∀ b, Own (g.cut s'.nx) s' b → Own g s b := fun b ⟨id, o', h6, h7⟩ => by
    obtain ⟨o, h8, h9⟩ := subO_get h2 h6
    exact ⟨id, o, h8, by rw [← hblk id o o' h6 h9]; exact h7⟩
  refine ⟨⟨fun t d' ht => ?_, hr.defers, ⟨fun id o' ho' => ?_, fun id o1 id' o2 b h6 h7 h8 h9 => ?_, fun id hid => ⟨if_neg (by omega), if_neg (by omega)⟩, fun b hb => ⟨(hr.o.imm b hb).1, fun ho => (hr.o.imm b hb).2 (hown b ho)⟩, hr.o.cel⟩⟩,
    ⟨fun id b hid hb => by simp only [G.cut, if_pos (show id < s'.nx by omega)]; exact hb, fun id x l c hid hk => ⟨x, l, c, by simp only [G.cut, if_pos (show id < s'.nx by omega)]; exact hk, Nat.le_refl _, fun _ => ⟨rfl, rfl⟩⟩, fun b hb => hb, Nat.le_refl _, fun _ _ _ => rfl, fun b _ hn ho => hn (hown b ho), fun b _ _ hb => hb, .refl w⟩⟩
  · obtain ⟨d, h6, h7⟩ := subT_get h1 ht
    obtain ⟨v, h8, h9⟩ := hr.tm t d h6
    refine ⟨v, h8, (h9.le h7).cut2 ?_⟩
    have := List.all_eq_true.1 h5.1 _ (lk_mem ht)
    simpa using this
  · obtain ⟨o, h6, h7⟩ := subO_get h2 ho'
    obtain ⟨h8, h9⟩ := hlt id o' ho'
    have hok := hr.o.ok id o h6
    cases o <;> cases o' <;> simp only [ole, reduceCtorEq] at h7
    · rename_i cs cs'
      obtain ⟨h10, h11⟩ := pw_get h7
      obtain ⟨b, e, cells, h12, h13, h14, h15⟩ := hok
      refine ⟨b, e, cells, by simp only [G.cut, if_pos h8]; exact h12, h13, by omega, fun i v d hv hd => ?_⟩
      have hi : i < cs.length := by
        rw [h10]
        rcases Nat.lt_or_ge i cs'.length with h | h
        · exact h
        · rw [List.getElem?_eq_none h] at hd; cases hd
      refine ((h15 i v _ hv (List.getElem?_eq_getElem hi)).le (h11 i _ d (List.getElem?_eq_getElem hi) hd)).cut2 ?_
      exact List.all_eq_true.1 h9 _ (List.mem_of_getElem? hd)
    · cases h7
      obtain ⟨a0, cap, h12, h13⟩ := hok
      exact ⟨a0, cap, by simp only [G.cut, if_pos h8]; exact h12, h13⟩
  · obtain ⟨o3, h10, h11⟩ := subO_get h2 h6
    obtain ⟨o4, h12, h13⟩ := subO_get h2 h7
    exact hr.o.apart id o3 id' o4 b h10 h12 (by rw [← hblk id o3 o1 h6 h11]; exact h8) (by rw [← hblk id' o4 o2 h7 h13]; exact h9)

/-- Behind one round. -/
def lp {ι : Type} (N : Nat) (S : ι → St) (μ : ι → Nat) (m : Nat) (Q : Exit → St → Prop) : Exit → St → Prop
  | .normal, s => ∃ i, μ i < m ∧ Sub N s (S i)
  | e, s => Q e s

open Classical in
/-- A loop: what it comes to at every round's head, and a measure. -/
theorem SWp.loop {ι : Type} {c : Code} {Q : Exit → St → Prop} (S : ι → St) (μ : ι → Nat) (i0 : ι) (h0 : Sub N s (S i0)) (hround : ∀ i, SWp P n N c (lp N S μ (μ i) Q) (S i)) : SWp P n N (.loop c) Q s := by
  intro δ g a w hr hn
  let J : ι → Act → World → Prop := fun i a' w' => ∃ g', Rel δ g' (S i) a' w' ∧ a'.tmps.size = n ∧ StepN N g s w g' (S i) w'
  let I : Act → World → Prop := fun a' w' => ∃ i, J i a' w'
  let M : Act → World → Nat → Prop := fun a' w' k => ∃ i, J i a' w' ∧ μ i = k
  have hleast : ∀ a' w', I a' w' → ∃ k, M a' w' k ∧ ∀ j, M a' w' j → k ≤ j := by
    intro a' w' ⟨i, hi⟩
    have key : ∀ k, M a' w' k → ∃ k, M a' w' k ∧ ∀ j, M a' w' j → k ≤ j := by
      intro k
      induction k using Nat.strongRecOn with
      | _ k ih =>
        intro hk
        by_cases h : ∃ j, j < k ∧ M a' w' j
        · obtain ⟨j, hj, hm⟩ := h
          exact ih j hj hm
        · exact ⟨k, hk, fun j hj => Nat.le_of_not_lt fun hlt => h ⟨j, hlt, hj⟩⟩
    exact key (μ i) ⟨i, hi, rfl⟩
  let ν : Act → World → Nat := fun a' w' => if h : I a' w' then (hleast a' w' h).choose else 0
  have hν : ∀ a' w' (h : I a' w'), M a' w' (ν a' w') ∧ ∀ j, M a' w' j → ν a' w' ≤ j := by
    intro a' w' h
    have e : ν a' w' = (hleast a' w' h).choose := dif_pos h
    rw [e]
    exact (hleast a' w' h).choose_spec
  refine wp_loop I ν ⟨i0, g.cut (S i0).nx, (hr.sub h0).1, hn, (hr.sub h0).2⟩ fun a' w' hI => ?_
  obtain ⟨⟨i, ⟨g', h1, h2, h3⟩, h4⟩, _⟩ := hν a' w' hI
  refine wp_mono (hround i δ g' a' w' h1 h2) fun e a'' w'' ⟨g'', s'', h5, h6, h7, h8⟩ => ?_
  cases e with
  | normal =>
    obtain ⟨j, hj, hsub⟩ := h5
    obtain ⟨h9, h10⟩ := h6.sub hsub
    have hJ : J j a'' w'' := ⟨_, h9, h7, (h3.trans h8).trans h10⟩
    refine ⟨⟨j, hJ⟩, ?_⟩
    have := (hν a'' w'' ⟨j, hJ⟩).2 (μ j) ⟨j, hJ, rfl⟩
    omega
  | _ => exact ⟨g'', s'', h5, h6, h7, h3.trans h8⟩

theorem SWp.mono {c : Code} {Q Q' : Exit → St → Prop} (h : SWp P n N c Q s) (hq : ∀ e s', Q e s' → Q' e s') : SWp P n N c Q' s :=
  fun δ g a w hr hn => wp_mono (h δ g a w hr hn) fun e a' w' ⟨g', s', h1, h2⟩ => ⟨g', s', hq e s' h1, h2⟩

/-- A slice that is nil may be taken for one's own, without elements. -/
theorem SWp.nilvec {c : Code} {Q : Exit → St → Prop} (t z : Nat) (e : TypeId) (ht : lk t s.tm = some .nil) (hN : N ≤ s.nx) (h : SWp P n N c Q ⟨(t, .vec s.nx 0) :: s.tm, (s.nx, .vec true z e []) :: s.os, s.nx + 1⟩) : SWp P n N c Q s := by
  intro δ g a w hr hn
  obtain ⟨h1, h2⟩ := vec_sound' hr w (Nat.le_refl _) (fun _ _ => rfl) (sz := z) (e := e) (els := []) (a0 := none) (cap := 0) (Nat.le_refl _) (by simp) (by simp) (.inl ⟨rfl, rfl⟩) none (fun x hx => by cases hx)
  obtain ⟨v, h3, h4⟩ := hr.tm t _ ht
  cases h4
  have hr' : Rel δ (g.vec s.nx (none, 0, 0)) ⟨(t, .vec s.nx 0) :: s.tm, (s.nx, .vec true z e []) :: s.os, s.nx + 1⟩ a w := by
    refine ⟨fun u d hu => ?_, h1.defers, h1.o.tm⟩
    simp only [lk_cons] at hu
    split at hu
    · rename_i he; subst he; cases hu
      refine ⟨_, h3, ?_⟩
      exact .vec none 0 _ _ none 0 0 (by simp [G.vec]) (Nat.le_refl _) (Nat.zero_le _) (.inl rfl) fun _ => ⟨rfl, rfl⟩
    · exact h1.tm u d hu
  refine wp_mono (h δ _ a w hr' hn) fun e a' w' ⟨g'', s'', h5, h6, h7, h8⟩ => ⟨g'', s'', h5, h6, h7, ?_⟩
  exact (h2.toN.tm (tm := s.tm) (tm' := (t, .vec s.nx 0) :: s.tm)).trans h8
end
end Dm
