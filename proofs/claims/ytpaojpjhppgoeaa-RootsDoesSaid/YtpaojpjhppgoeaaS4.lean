import Derived.Test.YtpaojpjhppgoeaaS3
set_option linter.unusedSimpArgs false
set_option linter.unusedVariables false
/-! Soundness, fourth part: objects made, and changed. -/
namespace Dm
open Go
section
variable {P : Program} {g g' : G} {s : St} {a : Act} {w w' : World}

theorem lk_upd {α : Type} (i j : Nat) (y : α) : ∀ (l : List (Nat × α)), lk j (upd i y l) = if j = i ∧ (lk i l).isSome = true then some y else lk j l
  | [] => by simp [upd, lk]
  | (m, x) :: l => by
    simp only [upd]
    by_cases h : i = m
    · subst h
      by_cases h2 : j = i
      · subst h2; simp [lk]
      · simp [lk, h2]
    · rw [if_neg h]
      simp only [lk_cons, if_neg h]
      by_cases h2 : j = m
      · subst h2
        have : ¬ j = i := fun e => h e.symm
        simp [this]
      · rw [if_neg h2, if_neg h2, lk_upd]

theorem OK.mono {id : Nat} {o : Ob} (h : OK g w id o) (hk : Keeps g.I w w') (hg : g.Le g') (hb : ∀ b, g.blk id o = some b → w'.heap[b]? = w.heap[b]?) (hκ : g'.κ id = g.κ id) : OK g' w' id o := by
  cases o with
  | box cs =>
    obtain ⟨b, e, cells, h1, h2, h3, h4⟩ := h
    exact ⟨b, e, cells, hg.ρ _ _ h1, by rw [hb b h1]; exact h2, h3, fun i v d hv hd => (h4 i v d hv hd).mono hk hg⟩
  | vec hd sz e els =>
    obtain ⟨a0, cap, h1, h2, h3, h4, h5⟩ := h
    refine ⟨a0, cap, by rw [hκ]; exact h1, h2, h3, h4, ?_⟩
    rcases h5 with h5 | ⟨b, off, cells, vs, rfl, h6, h7, h9, h8⟩
    · exact .inl h5
    · refine .inr ⟨b, off, cells, vs, rfl, ?_, h7, h9, fun i j x y hx hy => ⟨(h8 i j x y hx hy).1, (h8 i j x y hx hy).2.mono hk hg.I⟩⟩
      rw [hb b (by simp [G.blk, h1])]
      exact h6

theorem OK.lt {id : Nat} {o : Ob} (h : OK g w id o) : (∀ b, g.blk id o = some b → b < w.heap.size) ∧ (g.ρ id ≠ none ∨ g.κ id ≠ none) := by
  have hlt : ∀ (b : Nat) (o : Obj), w.heap[b]? = some o → b < w.heap.size := fun b o hb => by
    rcases Nat.lt_or_ge b w.heap.size with h | h
    · exact h
    · rw [Array.getElem?_eq_none h] at hb; cases hb
  cases o with
  | box cs =>
    obtain ⟨b, e, cells, h1, h2, h3, h4⟩ := h
    refine ⟨fun b' hb => ?_, .inl (by rw [h1]; simp)⟩
    simp only [G.blk, h1, Option.some.injEq] at hb
    exact hb ▸ hlt _ _ h2
  | vec hd sz e els =>
    obtain ⟨a0, cap, h1, h2, h3, h4, h5⟩ := h
    refine ⟨fun b' hb => ?_, .inr (by rw [h1]; simp)⟩
    rcases h5 with ⟨rfl, _⟩ | ⟨b, off, cells, vs, rfl, h6, h7, h9, h8⟩
    · simp [G.blk, h1] at hb
    · simp only [G.blk, h1, Option.some.injEq] at hb
      exact hb ▸ hlt _ _ h6

theorem RelO.lt (h : RelO g s w) {id : Nat} {o : Ob} (ho : lk id s.os = some o) : id < s.nx := by
  rcases Nat.lt_or_ge id s.nx with h1 | h1
  · exact h1
  · obtain ⟨h2, h3⟩ := h.fresh id h1
    rcases (h.ok id o ho).lt.2 with h4 | h4
    · exact absurd h2 h4
    · exact absurd h3 h4

theorem Own.lt (h : RelO g s w) {b : Nat} (ho : Own g s b) : b < w.heap.size := by
  obtain ⟨id, o, h1, h2⟩ := ho
  exact (h.ok id o h1).lt.1 b h2

theorem Own.cel (h : RelO g s w) {b : Nat} (ho : Own g s b) : Cel w b := by
  obtain ⟨id, o, h1, h2⟩ := ho
  have := h.ok id o h1
  cases o with
  | box cs =>
    obtain ⟨b', e, cells, h3, h4, _⟩ := this
    simp only [G.blk, h3, Option.some.injEq] at h2
    subst h2
    exact ⟨cells, e, _, h4⟩
  | vec hd sz e els =>
    obtain ⟨a0, cap, h3, h4, h5, h6, h7⟩ := this
    rcases h7 with ⟨rfl, _⟩ | ⟨b', off, cells, vs, rfl, h8, _⟩
    · simp [G.blk, h3] at h2
    · simp [G.blk, h3] at h2
      subst h2
      exact ⟨cells, e, _, h8⟩

/-- An object more. -/
theorem RelO.add (h : RelO g s w) (o : Ob) (tm : List (Nat × D)) (hg : g.Le g') (hI : ∀ b, g'.I b → g.I b) (hρ : ∀ i, i ≠ s.nx → g'.ρ i = g.ρ i) (hκ : ∀ i, i ≠ s.nx → g'.κ i = g.κ i)
    (hsz : w.heap.size ≤ w'.heap.size) (hs : ∀ b, b < w.heap.size → w'.heap[b]? = w.heap[b]?) (ho : OK g' w' s.nx o) (hb : ∀ b, g'.blk s.nx o = some b → w.heap.size ≤ b) (he : Env w w' := by exact ⟨rfl, rfl, rfl⟩) :
    RelO g' ⟨tm, (s.nx, o) :: s.os, s.nx + 1⟩ w' ∧ Step g s w g' ⟨tm, (s.nx, o) :: s.os, s.nx + 1⟩ w' := by
  have hk : Keeps g.I w w' := fun b hb => hs b (h.imm b hb).1
  have hblk : ∀ id o', lk id s.os = some o' → g'.blk id o' = g.blk id o' := fun id o' h1 => by
    have := h.lt h1
    cases o' with
    | box cs => exact hρ id (by omega)
    | vec hd sz e els => simp only [G.blk, hκ id (by omega)]
  have hold : ∀ b, b < w.heap.size → Own g' ⟨tm, (s.nx, o) :: s.os, s.nx + 1⟩ b → Own g s b := fun b hlt ⟨id, o', h1, h2⟩ => by
    simp only [lk_cons] at h1
    split at h1
    · rename_i e; subst e; cases h1
      have := hb b h2
      omega
    · exact ⟨id, o', h1, by rw [← hblk id o' h1]; exact h2⟩
  refine ⟨⟨fun id o' h1 => ?_, fun id o1 id' o2 b h1 h2 h3 h4 => ?_, fun id hid => ?_, fun b hb' => ?_, fun b hb' => (h.cel b (hI b hb')).keep (hs b (h.imm b (hI b hb')).1)⟩, ⟨hg, hsz, fun b hb _ => hs b hb, fun b hlt hno ho' => hno (hold b hlt ho'), fun b _ _ hb => hI b hb, he⟩⟩
  · simp only [lk_cons] at h1
    split at h1
    · rename_i e; subst e; cases h1; exact ho
    · have hlt := h.lt h1
      exact (h.ok id o' h1).mono hk hg (fun b hb => hs b ((h.ok id o' h1).lt.1 b hb)) (hκ id (by omega))
  · simp only [lk_cons] at h1 h2
    split at h1 <;> split at h2
    · rename_i e1 e2; rw [e1, e2]
    · rename_i e1 e2
      cases h1; subst e1
      have := hb b h3
      rw [hblk id' o2 h2] at h4
      have := (h.ok id' o2 h2).lt.1 b h4
      omega
    · rename_i e1 e2
      cases h2; subst e2
      have := hb b h4
      rw [hblk id o1 h1] at h3
      have := (h.ok id o1 h1).lt.1 b h3
      omega
    · rw [hblk id o1 h1] at h3
      rw [hblk id' o2 h2] at h4
      exact h.apart id o1 id' o2 b h1 h2 h3 h4
  · have hid' : s.nx + 1 ≤ id := hid
    rw [hρ id (by omega), hκ id (by omega)]
    exact h.fresh id (by omega)
  · have := h.imm b (hI b hb')
    exact ⟨Nat.lt_of_lt_of_le this.1 hsz, fun ho' => this.2 (hold b this.1 ho')⟩

/-- An object changed. -/
theorem RelO.replace (h : RelO g s w) {id : Nat} {o : Ob} (hid : lk id s.os = some o) (o' : Ob) (tm : List (Nat × D)) (hg : g.Le g') (hI : ∀ b, g'.I b → g.I b)
    (hρ : ∀ i, i ≠ id → g'.ρ i = g.ρ i) (hκ : ∀ i, i ≠ id → g'.κ i = g.κ i) (hsz : w.heap.size ≤ w'.heap.size)
    (hs : ∀ b, b < w.heap.size → g.blk id o ≠ some b → w'.heap[b]? = w.heap[b]?) (ho : OK g' w' id o') (hb : ∀ b, g'.blk id o' = some b → g.blk id o = some b ∨ w.heap.size ≤ b) (he : Env w w' := by exact ⟨rfl, rfl, rfl⟩) :
    RelO g' ⟨tm, upd id o' s.os, s.nx⟩ w' ∧ Step g s w g' ⟨tm, upd id o' s.os, s.nx⟩ w' := by
  have hlk : ∀ j, lk j (upd id o' s.os) = if j = id then some o' else lk j s.os := fun j => by rw [lk_upd, hid]; simp
  have hk : Keeps g.I w w' := fun b hb => hs b (h.imm b hb).1 fun e => (h.imm b hb).2 ⟨id, o, hid, e⟩
  have hblk : ∀ j o', j ≠ id → lk j s.os = some o' → g'.blk j o' = g.blk j o' := fun j o' hne h1 => by
    cases o' with
    | box cs => exact hρ j hne
    | vec hd sz e els => simp only [G.blk, hκ j hne]
  have hold : ∀ b, b < w.heap.size → Own g' ⟨tm, upd id o' s.os, s.nx⟩ b → Own g s b := fun b hlt ⟨j, o1, h1, h2⟩ => by
    simp only [hlk] at h1
    split at h1
    · rename_i e; subst e; cases h1
      rcases hb b h2 with h3 | h3
      · exact ⟨_, _, hid, h3⟩
      · omega
    · rename_i hne
      exact ⟨j, o1, h1, by rw [← hblk j o1 hne h1]; exact h2⟩
  refine ⟨⟨fun j o1 h1 => ?_, fun i o1 j o2 b h1 h2 h3 h4 => ?_, fun j hj => ?_, fun b hb' => ?_, fun b hb' => (h.cel b (hI b hb')).keep (hs b (h.imm b (hI b hb')).1 fun e => (h.imm b (hI b hb')).2 ⟨id, o, hid, e⟩)⟩, ⟨hg, hsz, fun b hb hno => hs b hb fun e => hno ⟨_, _, hid, e⟩, fun b hlt hno ho' => hno (hold b hlt ho'), fun b _ _ hb => hI b hb, he⟩⟩
  · simp only [hlk] at h1
    split at h1
    · rename_i e; subst e; cases h1; exact ho
    · rename_i hne
      refine (h.ok j o1 h1).mono hk hg (fun b hb => hs b ((h.ok j o1 h1).lt.1 b hb) fun e => hne ?_) (hκ j hne)
      exact h.apart j o1 id o b h1 hid hb e
  · simp only [hlk] at h1 h2
    split at h1 <;> split at h2
    · rename_i e1 e2; rw [e1, e2]
    · rename_i e1 hne
      cases h1; subst e1
      rw [hblk j o2 hne h2] at h4
      rcases hb b h3 with h5 | h5
      · exact h.apart _ _ _ _ b hid h2 h5 h4
      · have := (h.ok j o2 h2).lt.1 b h4
        omega
    · rename_i hne e2
      cases h2; subst e2
      rw [hblk i o1 hne h1] at h3
      rcases hb b h4 with h5 | h5
      · exact h.apart _ _ _ _ b h1 hid h3 h5
      · have := (h.ok i o1 h1).lt.1 b h3
        omega
    · rename_i hne hne'
      rw [hblk i o1 hne h1] at h3
      rw [hblk j o2 hne' h2] at h4
      exact h.apart i o1 j o2 b h1 h2 h3 h4
  · have hlt := h.lt hid
    have hj' : s.nx ≤ j := hj
    rw [hρ j (by omega), hκ j (by omega)]
    exact h.fresh j hj
  · have := h.imm b (hI b hb')
    exact ⟨Nat.lt_of_lt_of_le this.1 hsz, fun ho' => this.2 (hold b this.1 ho')⟩
end
end Dm
