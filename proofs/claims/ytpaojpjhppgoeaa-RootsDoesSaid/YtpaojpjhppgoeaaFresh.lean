import Derived.Test.YtpaojpjhppgoeaaS12
set_option linter.unusedSimpArgs false
set_option linter.unusedVariables false
/-! Functions that hand back new slices, which are then the caller's own. -/
namespace Dm
open Go
/-- The contract of a function that hands back new slices. -/
def FreshFn (P : Program) (f : FuncId) (rs : List D) (r : D) (fr : Fr) : Prop :=
  (∃ fn, P.funcs[f]? = some fn ∧ (fn.name == "runtime.NumGoroutine") = false ∧ fn.body.isNone = false) ∧
  ∀ (I : Nat → Prop) (w : World) (vs : Array Value), (∀ b, I b → Cel w b) → vs.size = rs.length →
    (∀ (i : Nat) (v : Value) (d : D), vs[i]? = some v → rs[i]? = some d → VRel (G0 I) w v d) →
    Calls P f vs w fun e w' => ∃ v g', e = .returned v ∧ RelO g' ⟨[], news 0 fr [], fr.length⟩ w' ∧ VRel g' w' v r ∧ Ext w w' ∧ (∀ b, I b → g'.I b) ∧ (∀ b, b < w.heap.size → g'.I b → I b) ∧ ∀ b, b < w.heap.size → ¬ Own g' ⟨[], news 0 fr [], fr.length⟩ b

def Fr.ob (x : Nat × TypeId × Bool × List (List C)) : Ob := .vec x.2.2.1 x.1 x.2.1 x.2.2.2
theorem lk_news {id : Nat} : ∀ (fr : Fr) (nx : Nat) (os : List (Nat × Ob)), lk id (news nx fr os) = if nx ≤ id then match fr[id - nx]? with | some x => some (Fr.ob x) | none => lk id os else lk id os
  | [], nx, os => by simp [news]
  | (z, e, hb, els) :: l, nx, os => by
    rw [news, lk_news l]
    by_cases h1 : nx + 1 ≤ id
    · rw [if_pos h1, if_pos (show nx ≤ id by omega), show id - nx = (id - (nx + 1)) + 1 by omega, List.getElem?_cons_succ]
      have : lk id ((nx, Ob.vec hb z e els) :: os) = lk id os := by simp only [lk_cons]; rw [if_neg (show ¬ id = nx by omega)]
      rw [this]
    · rw [if_neg h1]
      by_cases h2 : nx ≤ id
      · have : id = nx := by omega
        subst this
        simp [lk_cons, Fr.ob]
      · rw [if_neg h2]
        simp only [lk_cons]
        rw [if_neg (show ¬ id = nx by omega)]

section
variable {P : Program} {g g' : G} {s s' : St} {a : Act} {w w' : World} {n N : Nat}

/-- Two ghosts, one behind the other. -/
def G.cat (g g' : G) (nx : Nat) : G := ⟨fun id => if id < nx then g.ρ id else g'.ρ (id - nx), fun id => if id < nx then g.κ id else g'.κ (id - nx), g'.I⟩

theorem VRel.sh1 {nx : Nat} {v : Value} {d : D} (h : VRel g' w v d) : VRel (g.cat g' nx) w v (d.sh1 nx) := by
  cases d <;> try exact .undef _
  case c x => cases h with | c _ _ h => exact .c _ _ h
  case nil => cases h; exact .nil
  case csl els => cases h with | csl _ _ h => exact .csl _ _ h
  case vec id m =>
    cases h with
    | vec a' cap' _ _ a0 len cap hk hn hm ha hv =>
      exact .vec _ _ _ _ a0 len cap (by simp only [G.cat]; rw [if_neg (by omega), Nat.add_sub_cancel]; exact hk) hn hm ha hv
theorem VRel.sh2 {nx : Nat} {v : Value} {d : D} (h : VRel g' w v d) : VRel (g.cat g' nx) w v (d.sh2 nx) := by
  unfold D.sh2
  split
  · cases h with
    | agg vs _ hl hp =>
      refine .agg vs _ (by simpa using hl) fun i u e hu he => ?_
      simp only [List.getElem?_map, Option.map_eq_some_iff] at he
      obtain ⟨e', he', rfl⟩ := he
      exact (hp i u e' hu he').sh1
  · exact h.sh1
theorem VRel.sh3 {nx : Nat} {v : Value} {d : D} (h : VRel g' w v d) : VRel (g.cat g' nx) w v (d.sh3 nx) := by
  unfold D.sh3
  split
  · cases h with
    | tup vs _ hl hp =>
      refine .tup vs _ (by simpa using hl) fun i u e hu he => ?_
      simp only [List.getElem?_map, Option.map_eq_some_iff] at he
      obtain ⟨e', he', rfl⟩ := he
      exact (hp i u e' hu he').sh2
  · exact h.sh2

theorem RelO.cat (ho : RelO g s w) {fr : Fr} (hn : RelO g' ⟨[], news 0 fr [], fr.length⟩ w') (he : Ext w w') (h3 : ∀ b, g.I b → g'.I b) (h4 : ∀ b, b < w.heap.size → g'.I b → g.I b) (h5 : ∀ b, b < w.heap.size → ¬ Own g' ⟨[], news 0 fr [], fr.length⟩ b) :
    RelO (g.cat g' s.nx) ⟨[], news s.nx fr s.os, s.nx + fr.length⟩ w' ∧ Step g s w (g.cat g' s.nx) ⟨[], news s.nx fr s.os, s.nx + fr.length⟩ w' := by
  have hle : g.Le (g.cat g' s.nx) := by
    refine ⟨fun id b hb => ?_, fun id a l c hk => ⟨a, l, c, ?_, Nat.le_refl _, fun _ => ⟨rfl, rfl⟩⟩, h3⟩
    · have : id < s.nx := by
        rcases Nat.lt_or_ge id s.nx with h | h
        · exact h
        · rw [(ho.fresh id h).1] at hb; cases hb
      simp only [G.cat, if_pos this, hb]
    · have : id < s.nx := by
        rcases Nat.lt_or_ge id s.nx with h | h
        · exact h
        · rw [(ho.fresh id h).2] at hk; cases hk
      simp only [G.cat, if_pos this, hk]
  have hkeep : Keeps g.I w w' := fun b hb => he.2.1 b (ho.imm b hb).1
  -- what an object there is
  have hcase : ∀ id o, lk id (news s.nx fr s.os) = some o → (id < s.nx ∧ lk id s.os = some o) ∨ (s.nx ≤ id ∧ ∃ x, fr[id - s.nx]? = some x ∧ o = Fr.ob x ∧ lk (id - s.nx) (news 0 fr []) = some o) := by
    intro id o h
    rw [lk_news] at h
    split at h
    · rename_i hle'
      split at h
      · rename_i x hx
        cases h
        exact .inr ⟨hle', x, hx, rfl, by rw [lk_news]; simp [hx]⟩
      · have := ho.lt h; omega
    · exact .inl ⟨by omega, h⟩
  have hold : ∀ id o, id < s.nx → (g.cat g' s.nx).blk id o = g.blk id o := fun id o h => by cases o <;> simp only [G.blk, G.cat, if_pos h]
  have hnew : ∀ id x, s.nx ≤ id → (g.cat g' s.nx).blk id (Fr.ob x) = g'.blk (id - s.nx) (Fr.ob x) := fun id x h => by simp only [Fr.ob, G.blk, G.cat, if_neg (Nat.not_lt.2 h)]
  have hoO : ∀ b, Own (g.cat g' s.nx) ⟨[], news s.nx fr s.os, s.nx + fr.length⟩ b → (b < w.heap.size ∧ Own g s b) ∨ (w.heap.size ≤ b ∧ Own g' ⟨[], news 0 fr [], fr.length⟩ b) := by
    rintro b ⟨id, o, h1, h2⟩
    rcases hcase id o h1 with ⟨h6, h7⟩ | ⟨h6, x, h7, rfl, h8⟩
    · rw [hold id o h6] at h2
      have : Own g s b := ⟨id, o, h7, h2⟩
      exact .inl ⟨Own.lt ho this, this⟩
    · rw [hnew id x h6] at h2
      have : Own g' ⟨[], news 0 fr [], fr.length⟩ b := ⟨_, _, h8, h2⟩
      rcases Nat.lt_or_ge b w.heap.size with h | h
      · exact absurd this (h5 b h)
      · exact .inr ⟨h, this⟩
  refine ⟨⟨fun id o h => ?_, fun id o id' o' b h1 h2 h6 h7 => ?_, fun id hid => ?_, fun b hb => ⟨(hn.imm b hb).1, fun h => ?_⟩, hn.cel⟩, ⟨hle, he.1, fun b hb _ => he.2.1 b hb, fun b hb h h' => ?_, fun b hb _ h => h4 b hb h, he.2.2⟩⟩
  · rcases hcase id o h with ⟨h6, h7⟩ | ⟨h6, x, h7, rfl, h8⟩
    · exact (ho.ok id o h7).mono hkeep hle (fun b hb => he.2.1 b ((ho.ok id o h7).lt.1 b hb)) (by cases o <;> simp only [G.cat, if_pos h6])
    · have := hn.ok _ _ h8
      obtain ⟨a, cap, h9, h10⟩ := this
      exact ⟨a, cap, by simp only [G.cat]; rw [if_neg (by omega)]; exact h9, h10⟩
  · rcases hcase id o h1 with ⟨h8, h9⟩ | ⟨h8, x, h9, rfl, h10⟩ <;> rcases hcase id' o' h2 with ⟨h11, h12⟩ | ⟨h11, y, h12, rfl, h13⟩
    · rw [hold id o h8] at h6; rw [hold id' o' h11] at h7
      exact ho.apart id o id' o' b h9 h12 h6 h7
    · rw [hold id o h8] at h6; rw [hnew id' y h11] at h7
      exact absurd ⟨_, _, h13, h7⟩ (h5 b (Own.lt ho ⟨id, o, h9, h6⟩))
    · rw [hnew id x h8] at h6; rw [hold id' o' h11] at h7
      exact absurd ⟨_, _, h10, h6⟩ (h5 b (Own.lt ho ⟨id', o', h12, h7⟩))
    · rw [hnew id x h8] at h6; rw [hnew id' y h11] at h7
      have := hn.apart _ _ _ _ b h10 h13 h6 h7
      omega
  · have h6 := hn.fresh (id - s.nx) (by show fr.length ≤ _; have : s.nx + fr.length ≤ id := hid; omega)
    have : ¬ id < s.nx := by have : s.nx + fr.length ≤ id := hid; omega
    simp only [G.cat, if_neg this]
    exact h6
  · rcases hoO b h with ⟨h6, h7⟩ | ⟨h6, h7⟩
    · exact (ho.imm b (h4 b h6 hb)).2 h7
    · exact (hn.imm b hb).2 h7
  · rcases hoO b h' with ⟨h6, h7⟩ | ⟨h6, h7⟩
    · exact h h7
    · omega

/-- A call by such a contract. -/
theorem FreshFn.give {f : FuncId} {rs ds : List D} {r : D} {fr : Fr} (h : FreshFn P f rs r fr) {os : List (Nat × Ob)} {nx : Nat} {Q : D → List (Nat × Ob) → Nat → Prop} (hp : pw (pur2 os) ds rs)
    (hQ : Q (r.sh3 nx) (news nx fr (rmv os (vids2 ds))) (nx + fr.length)) : ACall P f ds os nx Q := by
  refine ⟨h.1, fun g w vs ho hsz hv => ?_⟩
  obtain ⟨h8, h9⟩ := ho.give (vids2 ds)
  obtain ⟨hp1, hp2⟩ := pw_get hp
  have h2 : ∀ (i : Nat) (v : Value) (d : D), vs[i]? = some v → rs[i]? = some d → VRel (G0 (g.imm fun b => g.I b ∨ ∃ id ∈ vids2 ds, ∃ o, lk id os = some o ∧ g.blk id o = some b).I) w v d := fun i v r hvi hr => by
    have hi : i < vs.size := by
      rcases Nat.lt_or_ge i vs.size with h | h
      · exact h
      · rw [Array.getElem?_eq_none h] at hvi; cases hvi
    have hd := List.getElem?_eq_getElem (l := ds) (i := i) (by omega)
    exact pur2_give ho rfl (fun b hb => .inl hb) (fun id hid b o h3 h4 => .inr ⟨id, vids2_get hd hid, o, h3, h4⟩) (hv i v _ hvi hd) (hp2 i _ r hd hr)
  refine (h.2 _ w vs (fun b hb => h8.cel b hb) (by omega) h2).mono ?_
  rintro e w' ⟨v, g', he, hn, hvr, hext, h3, h4, h5⟩
  obtain ⟨h6, h7⟩ := h8.cat hn hext h3 h4 h5
  exact ⟨v, _, _, _, _, he, hQ, h6, hvr.sh3, h9.trans h7⟩
end
end Dm
