import Derived.Test.YtpaojpjhppgoeaaS8
set_option linter.unusedSimpArgs false
set_option linter.unusedVariables false
/-! Objects that are given away: from then on they are never written. -/
namespace Dm
open Go
section
variable {δ : List Deferred} {P : Program} {g g' : G} {s s' : St} {a : Act} {w w' : World} {n N : Nat}

/-- The ghost with other blocks that are never written. -/
def G.imm (g : G) (I : Nat → Prop) : G := { g with I := I }

theorem lk_filter {os : List (Nat × Ob)} {i id : Nat} : lk id (os.filter fun x => x.1 != i) = if id = i then none else lk id os := by
  induction os with
  | nil => simp [lk]
  | cons x l ih =>
    obtain ⟨m, o⟩ := x
    by_cases hm : m = i
    · subst hm
      rw [List.filter_cons_of_neg (by simp), ih]
      simp only [lk_cons]
      split <;> rfl
    · rw [List.filter_cons_of_pos (by simp [hm])]
      simp only [lk_cons, ih]
      by_cases h1 : id = m
      · subst h1; simp [hm]
      · simp [h1]
theorem lk_rmv {id : Nat} : ∀ (l : List Nat) (os : List (Nat × Ob)), lk id (rmv os l) = if id ∈ l then none else lk id os
  | [], os => by simp [rmv]
  | i :: l, os => by
    rw [rmv, lk_rmv l, lk_filter]
    by_cases h1 : id = i
    · simp [h1]
    · simp [h1]

/-- Objects that are given away: they are never written again. -/
theorem RelO.give (ho : RelO g s w) (l : List Nat) : RelO (g.imm fun b => g.I b ∨ ∃ id ∈ l, ∃ o, lk id s.os = some o ∧ g.blk id o = some b) ⟨[], rmv s.os l, s.nx⟩ w ∧
    Step g s w (g.imm fun b => g.I b ∨ ∃ id ∈ l, ∃ o, lk id s.os = some o ∧ g.blk id o = some b) ⟨[], rmv s.os l, s.nx⟩ w := by
  have hblk : ∀ (I : Nat → Prop) id o, (g.imm I).blk id o = g.blk id o := fun I id o => by cases o <;> rfl
  have hin : ∀ id o, lk id (rmv s.os l) = some o → id ∉ l ∧ lk id s.os = some o := fun id o h => by
    rw [lk_rmv] at h
    split at h
    · cases h
    · rename_i hn; exact ⟨hn, h⟩
  have hle : g.Le (g.imm fun b => g.I b ∨ ∃ id ∈ l, ∃ o, lk id s.os = some o ∧ g.blk id o = some b) := ⟨fun _ _ h => h, fun _ a l c h => ⟨a, l, c, h, Nat.le_refl _, fun _ => ⟨rfl, rfl⟩⟩, fun b hb => .inl hb⟩
  refine ⟨⟨fun id o h => (ho.ok id o (hin id o h).2).mono (fun _ _ => rfl) hle (fun _ _ => rfl) rfl, fun id o id' o' b h1 h2 h3 h4 => ho.apart id o id' o' b (hin _ _ h1).2 (hin _ _ h2).2 (by rwa [hblk] at h3) (by rwa [hblk] at h4), ho.fresh, fun b hb => ?_, fun b hb => hb.elim (ho.cel b) fun ⟨id, _, o, h1, h2⟩ => Own.cel ho ⟨id, o, h1, h2⟩⟩,
    ⟨hle, Nat.le_refl _, fun b hb _ => rfl, fun b _ h => ?_, fun b _ h hb => ?_, .refl w⟩⟩
  · have hno : ∀ id ∈ l, ∀ o, lk id s.os = some o → g.blk id o = some b → ¬ Own (g.imm fun b => g.I b ∨ ∃ id ∈ l, ∃ o, lk id s.os = some o ∧ g.blk id o = some b) ⟨[], rmv s.os l, s.nx⟩ b := by
      rintro id hid o h1 h2 ⟨id', o', h3, h4⟩
      rw [hblk] at h4
      obtain ⟨h5, h6⟩ := hin _ _ h3
      have := ho.apart id o id' o' b h1 h6 h2 h4
      subst this
      exact h5 hid
    rcases hb with hb | ⟨id, hid, o, h1, h2⟩
    · refine ⟨(ho.imm b hb).1, ?_⟩
      rintro ⟨id', o', h3, h4⟩
      rw [hblk] at h4
      exact (ho.imm b hb).2 ⟨id', o', (hin _ _ h3).2, h4⟩
    · exact ⟨Own.lt ho ⟨id, o, h1, h2⟩, hno id hid o h1 h2⟩
  · rintro ⟨id', o', h3, h4⟩
    rw [hblk] at h4
    exact h ⟨id', o', (hin _ _ h3).2, h4⟩
  · rcases hb with hb | ⟨id, hid, o, h1, h2⟩
    · exact hb
    · exact absurd ⟨id, o, h1, h2⟩ h


/-- One slice, given away. -/
theorem vec_give (ho : RelO g s w) {id : Nat} {hd : Bool} {sz : Nat} {e : TypeId} {els : List (List C)} (hl : lk id s.os = some (.vec hd sz e els)) {v : Value} (hv : VRel g w v (.vec id els.length)) :
    VRel (g.imm fun b => g.I b ∨ ∃ id' ∈ [id], ∃ o, lk id' s.os = some o ∧ g.blk id' o = some b) w v (.c (.sl els)) := by
  cases hv with
  | vec a' cap' _ _ a0 len cap hkk hle hm ha hvq =>
    obtain ⟨a1, cap1, h1, h2, h3, h4, h5⟩ := ho.ok id _ hl
    rw [hkk] at h1; cases h1
    obtain ⟨rfl, rfl⟩ := hvq rfl
    rcases h5 with ⟨rfl, hc⟩ | ⟨b, off, cells, vs, rfl, h6, h7, h9, h8⟩
    · have : els = [] := List.eq_nil_of_length_eq_zero (by omega)
      subst this
      exact .c _ _ (.slnil _ _ h3)
    · refine .c _ _ (.sl b off cap' sz els vs (.inr ⟨id, by simp, _, hl, by simp [G.blk, hkk]⟩) h2 h3 h4 (fun i j x y hx hy => ?_) (fun i j x y hx hy => ((h8 i j x y hx hy).2).mono (fun _ _ => rfl) fun b hb => .inl hb))
      have := (h8 i j x y hx hy).1
      simp only [World.cell?, h6]
      simpa using this

theorem frz_sound (hr : Rel δ g s a w) {v : Value} {d d' : D} {s' : St} (hv : VRel g w v d) (h : frz s d = (d', s')) :
    ∃ g', Rel δ g' s' a w ∧ VRel g' w v d' ∧ Step g s w g' s' w ∧ s'.tm = s.tm := by
  unfold frz at h
  split at h
  · split at h
    · rename_i hl
      split at h
      · rename_i hn
        cases h
        subst hn
        obtain ⟨h1, h2⟩ := hr.o.give [_]
        refine ⟨_, ⟨fun t d ht => ?_, hr.defers, h1.tm⟩, vec_give hr.o hl hv, h2.tm, rfl⟩
        obtain ⟨v, h3, h4⟩ := hr.tm t d ht
        exact ⟨v, h3, h2.vrel hr.o h4⟩
      · cases h; exact ⟨g, hr, hv, .refl _ _ _, rfl⟩
    · cases h; exact ⟨g, hr, hv, .refl _ _ _, rfl⟩
  · cases h; exact ⟨g, hr, hv, .refl _ _ _, rfl⟩

/-- The rest of a slice of one's own. -/
theorem cut_sound (hr : Rel δ g s a w) {id l : Nat} {hd : Bool} {sz : Nat} {e : TypeId} {els : List (List C)} {v : Value} (hv : VRel g w v (.vec id els.length)) (hlk : lk id s.os = some (.vec hd sz e els)) (hle : l ≤ els.length) :
    ∃ a0 cap, v = .slice a0 els.length cap ∧ ∃ g', Rel δ g' ⟨s.tm, (s.nx, .vec false sz e (els.drop l)) :: rmv s.os [id], s.nx + 1⟩ a w ∧ VRel g' w (sliced a0 l els.length cap sz) (.vec s.nx (els.drop l).length) ∧
      Step g s w g' ⟨s.tm, (s.nx, .vec false sz e (els.drop l)) :: rmv s.os [id], s.nx + 1⟩ w := by
  cases hv with
  | vec a' cap' _ _ a0 len cap hkk hlen hm ha hvq =>
    obtain ⟨a1, cap1, h1, h2, h3, h4, h5⟩ := hr.o.ok id _ hlk
    rw [hkk] at h1; cases h1
    obtain ⟨rfl, rfl⟩ := hvq rfl
    have hfr := hr.o.fresh s.nx (Nat.le_refl _)
    have hdl : (els.drop l).length = els.length - l := List.length_drop
    have hne : ∀ i o, lk i s.os = some o → i ≠ s.nx := fun i o ho hi => by
      subst hi
      have := hr.o.ok _ o ho
      cases o with
      | box cs => obtain ⟨b, _, _, h, _⟩ := this; rw [hfr.1] at h; cases h
      | vec _ _ _ _ => obtain ⟨b, _, h, _⟩ := this; rw [hfr.2] at h; cases h
    have hidne := hne id _ hlk
    let g' : G := ⟨g.ρ, fun i => if i = s.nx then some (if cap' = l then a' else a'.map (·.add (l * sz)), els.length - l, cap' - l) else g.κ i, g.I⟩
    have hκ : ∀ i, i ≠ s.nx → g'.κ i = g.κ i := fun i hi => if_neg hi
    have hκ0 : g'.κ s.nx = some (if cap' = l then a' else a'.map (·.add (l * sz)), els.length - l, cap' - l) := if_pos rfl
    have hgle : g.Le g' := ⟨fun _ _ h => h, fun i x y z h => ⟨x, y, z, by
      have : i ≠ s.nx := fun hi => by rw [hi, hfr.2] at h; cases h
      rw [hκ i this]; exact h, Nat.le_refl _, fun _ => ⟨rfl, rfl⟩⟩, fun _ h => h⟩
    have hin : ∀ i o, lk i ((s.nx, Ob.vec false sz e (els.drop l)) :: rmv s.os [id]) = some o → (i = s.nx ∧ o = .vec false sz e (els.drop l)) ∨ (i ≠ s.nx ∧ i ≠ id ∧ lk i s.os = some o) := fun i o h => by
      simp only [lk_cons, lk_rmv] at h
      split at h
      · rename_i hi; cases h; exact .inl ⟨hi, rfl⟩
      · rename_i hi
        split at h
        · cases h
        · rename_i hi2; exact .inr ⟨hi, by simpa using hi2, h⟩
    have hblk : ∀ i o, i ≠ s.nx → g'.blk i o = g.blk i o := fun i o hi => by
      cases o with
      | box cs => rfl
      | vec _ _ _ _ => simp only [G.blk, hκ i hi]
    have hblk0 : ∀ b, g'.blk s.nx (.vec false sz e (els.drop l)) = some b → g.blk id (.vec hd sz e els) = some b := fun b hb => by
      simp only [G.blk, hκ0] at hb
      simp only [G.blk, hkk]
      by_cases hc : cap' = l
      · rw [if_pos hc] at hb
        cases a' with
        | none => cases hb
        | some x => exact hb
      · rw [if_neg hc] at hb
        cases a' with
        | none => cases hb
        | some x =>
          have e1 : (x.add (l * sz)).block = x.block := by
            rcases h5 with ⟨h5, _⟩ | ⟨b', off', _, _, h5, _⟩
            · cases h5
            · cases h5
              rw [addr_add]
          simp only [Option.map_some] at hb
          rw [e1] at hb
          exact hb
    have hown : ∀ b, Own g' ⟨s.tm, (s.nx, .vec false sz e (els.drop l)) :: rmv s.os [id], s.nx + 1⟩ b → Own g s b := fun b ⟨i, o, h6, h7⟩ => by
      rcases hin i o h6 with ⟨rfl, rfl⟩ | ⟨h8, _, h9⟩
      · exact ⟨id, _, hlk, hblk0 b h7⟩
      · rw [hblk i o h8] at h7; exact ⟨i, o, h9, h7⟩
    have hrel : VRel g' w (sliced a' l els.length cap' sz) (.vec s.nx (els.drop l).length) := by
      rw [hdl]
      refine .vec _ _ _ _ _ _ _ hκ0 (Nat.le_refl _) (by omega) ?_ (fun _ => ⟨rfl, rfl⟩)
      rcases ha with h6 | ⟨b, o, rfl⟩
      · exact .inl (by omega)
      · right
        split
        · exact ⟨b, o, rfl⟩
        · exact ⟨b, o + l * sz, by rw [Option.map_some, addr_add]⟩
    have hst : Step g s w g' ⟨s.tm, (s.nx, .vec false sz e (els.drop l)) :: rmv s.os [id], s.nx + 1⟩ w :=
      ⟨hgle, Nat.le_refl _, fun _ _ _ => rfl, fun b _ hno h => hno (hown b h), fun _ _ _ h => h, .refl w⟩
    refine ⟨a', cap', rfl, g', ⟨fun t d ht => ?_, hr.defers, ⟨fun i o hi => ?_, fun i o i' o' b h6 h7 h8 h9 => ?_, fun i hi => ?_, fun b hb => ⟨(hr.o.imm b hb).1, fun h => (hr.o.imm b hb).2 (hown b h)⟩, hr.o.cel⟩⟩, hrel, hst⟩
    · obtain ⟨v, h6, h7⟩ := hr.tm t d ht
      exact ⟨v, h6, hst.vrel hr.o h7⟩
    · rcases hin i o hi with ⟨rfl, rfl⟩ | ⟨h8, _, h9⟩
      · refine ⟨_, _, hκ0.trans (by rw [hdl]), by rw [hdl]; omega, by omega, fun x hx => h4 x (List.mem_of_mem_drop hx), ?_⟩
        rcases h5 with ⟨rfl, hc⟩ | ⟨b, off, cells, vs, rfl, h10, h11, h12, h13⟩
        · exact .inl ⟨by simp, by omega⟩
        · right
          by_cases hc : cap' = l
          · refine ⟨b, off, cells, vs, by rw [if_pos hc], h10, by rw [hc, Nat.sub_self]; omega, ⟨fun h => (by cases h), h12.2⟩, fun i j x y hx _ => ?_⟩
            have : els.drop l = [] := List.drop_eq_nil_of_le (by omega)
            rw [this] at hx; simp at hx
          · refine ⟨b, off + l * sz, cells, fun i j => vs (l + i) j, by rw [if_neg hc, Option.map_some, addr_add], h10, ?_, ⟨fun h => (by cases h), h12.2⟩, fun i j x y hx hy => ?_⟩
            · have h14 : l * sz + (cap' - l) * sz = cap' * sz := by rw [← Nat.add_mul]; congr 1; omega
              omega
            · rw [List.getElem?_drop] at hx
              have := h13 (l + i) j x y hx hy
              rw [show off + l * sz + i * sz + j = off + (l + i) * sz + j by rw [Nat.add_mul]; omega]
              exact ⟨this.1, this.2.mono (fun _ _ => rfl) fun _ h => h⟩
      · exact (hr.o.ok i o h9).mono (fun _ _ => rfl) hgle (fun _ _ => rfl) (hκ i h8)
    · rcases hin i o h6 with ⟨rfl, rfl⟩ | ⟨h10, h11, h12⟩ <;> rcases hin i' o' h7 with ⟨rfl, rfl⟩ | ⟨h13, h14, h15⟩
      · rfl
      · rw [hblk i' o' h13] at h9
        exact absurd (hr.o.apart id _ i' o' b hlk h15 (hblk0 b h8) h9) (fun h => h14 h.symm)
      · rw [hblk i o h10] at h8
        exact absurd (hr.o.apart i o id _ b h12 hlk h8 (hblk0 b h9)) h11
      · rw [hblk i o h10] at h8
        rw [hblk i' o' h13] at h9
        exact hr.o.apart i o i' o' b h12 h15 h8 h9
    · have hi' : s.nx + 1 ≤ i := hi
      rw [hκ i (by omega)]
      exact hr.o.fresh i (by omega)
end
end Dm
