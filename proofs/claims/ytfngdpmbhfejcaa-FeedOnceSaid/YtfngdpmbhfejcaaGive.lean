import Derived.Test.YtfngdpmbhfejcaaS8
set_option linter.unusedSimpArgs false
set_option linter.unusedVariables false
/-! Objects that are given away: from then on they are never written. -/
namespace Dm
open Go
section
variable {δ : List Deferred} {P : Program} {g g' : G} {s s' : St} {a : Act} {w w' : World} {n N : Nat}

/-- The ghost with other blocks that are never written. -/
def G.imm (g : G) (I : Nat → Prop) : G := { g with I := I }

theorem lk_filter {os : List (Nat × Ob)} {i id : Nat} : lk id (os.filter fun x => x.1 != i) = if id = i then none else lk id os := by
  induction os with
  | nil => simp [lk]
  | cons x l ih =>
    obtain ⟨m, o⟩ := x
    by_cases hm : m = i
    · subst hm
      rw [List.filter_cons_of_neg (by simp), ih]
      simp only [lk_cons]
      split <;> rfl
    · rw [List.filter_cons_of_pos (by simp [hm])]
      simp only [lk_cons, ih]
      by_cases h1 : id = m
      · subst h1; simp [hm]
      · simp [h1]
theorem lk_rmv {id : Nat} : ∀ (l : List Nat) (os : List (Nat × Ob)), lk id (rmv os l) = if id ∈ l then none else lk id os
  | [], os => by simp [rmv]
  | i :: l, os => by
    rw [rmv, lk_rmv l, lk_filter]
    by_cases h1 : id = i
    · simp [h1]
    · simp [h1]

/-- Objects that are given away: they are never written again. -/
theorem RelO.give (ho : RelO g s w) (l : List Nat) : RelO (g.imm fun b => g.I b ∨ ∃ id ∈ l, ∃ o, lk id s.os = some o ∧ g.blk id o = some b) ⟨[], rmv s.os l, s.nx⟩ w ∧
    Step g s w (g.imm fun b => g.I b ∨ ∃ id ∈ l, ∃ o, lk id s.os = some o ∧ g.blk id o = some b) ⟨[], rmv s.os l, s.nx⟩ w := by
  have hblk : ∀ (I : Nat → Prop) id o, (g.imm I).blk id o = g.blk id o := fun I id o => by cases o <;> rfl
  have hin : ∀ id o, lk id (rmv s.os l) = some o → id ∉ l ∧ lk id s.os = some o := fun id o h => by
    rw [lk_rmv] at h
    split at h
    · cases h
    · rename_i hn; exact ⟨hn, h⟩
  have hle : g.Le (g.imm fun b => g.I b ∨ ∃ id ∈ l, ∃ o, lk id s.os = some o ∧ g.blk id o = some b) := ⟨fun _ _ h => h, fun _ a l c h => ⟨a, l, c, h, Nat.le_refl _, fun _ => ⟨rfl, rfl⟩⟩, fun b hb => .inl hb⟩
  refine ⟨⟨fun id o h => (ho.ok id o (hin id o h).2).mono (fun _ _ => rfl) hle (fun _ _ => rfl) rfl, fun id o id' o' b h1 h2 h3 h4 => ho.apart id o id' o' b (hin _ _ h1).2 (hin _ _ h2).2 (by rwa [hblk] at h3) (by rwa [hblk] at h4), ho.fresh, fun b hb => ?_, fun b hb => hb.elim (ho.cel b) fun ⟨id, _, o, h1, h2⟩ => Own.cel ho ⟨id, o, h1, h2⟩⟩,
    ⟨hle, Nat.le_refl _, fun b hb _ => rfl, fun b _ h => ?_, fun b _ h hb => ?_, .refl w⟩⟩
  · have hno : ∀ id ∈ l, ∀ o, lk id s.os = some o → g.blk id o = some b → ¬ Own (g.imm fun b => g.I b ∨ ∃ id ∈ l, ∃ o, lk id s.os = some o ∧ g.blk id o = some b) ⟨[], rmv s.os l, s.nx⟩ b := by
      rintro id hid o h1 h2 ⟨id', o', h3, h4⟩
      rw [hblk] at h4
      obtain ⟨h5, h6⟩ := hin _ _ h3
      have := ho.apart id o id' o' b h1 h6 h2 h4
      subst this
      exact h5 hid
    rcases hb with hb | ⟨id, hid, o, h1, h2⟩
    · refine ⟨(ho.imm b hb).1, ?_⟩
      rintro ⟨id', o', h3, h4⟩
      rw [hblk] at h4
      exact (ho.imm b hb).2 ⟨id', o', (hin _ _ h3).2, h4⟩
    · exact ⟨Own.lt ho ⟨id, o, h1, h2⟩, hno id hid o h1 h2⟩
  · rintro ⟨id', o', h3, h4⟩
    rw [hblk] at h4
    exact h ⟨id', o', (hin _ _ h3).2, h4⟩
  · rcases hb with hb | ⟨id, hid, o, h1, h2⟩
    · exact hb
    · exact absurd ⟨id, o, h1, h2⟩ h


/-- One slice, given away. -/
theorem vec_give (ho : RelO g s w) {id : Nat} {hd : Bool} {sz : Nat} {e : TypeId} {els : List (List C)} (hl : lk id s.os = some (.vec hd sz e els)) {v : Value} (hv : VRel g w v (.vec id els.length)) :
    VRel (g.imm fun b => g.I b ∨ ∃ id' ∈ [id], ∃ o, lk id' s.os = some o ∧ g.blk id' o = some b) w v (.c (.sl els)) := by
  cases hv with
  | vec a' cap' _ _ a0 len cap hkk hle hm ha hvq =>
    obtain ⟨a1, cap1, h1, h2, h3, h4, h5⟩ := ho.ok id _ hl
    rw [hkk] at h1; cases h1
    obtain ⟨rfl, rfl⟩ := hvq rfl
    rcases h5 with ⟨rfl, hc⟩ | ⟨b, off, cells, vs, rfl, h6, h7, h9, h8⟩
    · have : els = [] := List.eq_nil_of_length_eq_zero (by omega)
      subst this
      exact .c _ _ (.slnil _ _ h3)
    · refine .c _ _ (.sl b off cap' sz els vs (.inr ⟨id, by simp, _, hl, by simp [G.blk, hkk]⟩) h2 h3 h4 (fun i j x y hx hy => ?_) (fun i j x y hx hy => ((h8 i j x y hx hy).2).mono (fun _ _ => rfl) fun b hb => .inl hb))
      have := (h8 i j x y hx hy).1
      simp only [World.cell?, h6]
      simpa using this

theorem frz_sound (hr : Rel δ g s a w) {v : Value} {d d' : D} {s' : St} (hv : VRel g w v d) (h : frz s d = (d', s')) :
    ∃ g', Rel δ g' s' a w ∧ VRel g' w v d' ∧ Step g s w g' s' w ∧ s'.tm = s.tm := by
  unfold frz at h
  split at h
  · split at h
    · rename_i hl
      split at h
      · rename_i hn
        cases h
        subst hn
        obtain ⟨h1, h2⟩ := hr.o.give [_]
        refine ⟨_, ⟨fun t d ht => ?_, hr.defers, h1.tm⟩, vec_give hr.o hl hv, h2.tm, rfl⟩
        obtain ⟨v, h3, h4⟩ := hr.tm t d ht
        exact ⟨v, h3, h2.vrel hr.o h4⟩
      · cases h; exact ⟨g, hr, hv, .refl _ _ _, rfl⟩
    · cases h; exact ⟨g, hr, hv, .refl _ _ _, rfl⟩
  · cases h; exact ⟨g, hr, hv, .refl _ _ _, rfl⟩
end
end Dm
