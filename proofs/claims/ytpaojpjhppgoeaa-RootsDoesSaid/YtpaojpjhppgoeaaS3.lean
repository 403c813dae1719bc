import Derived.Test.YtpaojpjhppgoeaaS2
set_option linter.unusedSimpArgs false
set_option linter.unusedVariables false
/-! Soundness, third part: slices cut, and the rest of what only computes. -/
namespace Dm
open Go
section
variable {δ : List Deferred} {P : Program} {g : G} {s : St} {a : Act} {w : World}

theorem min_sound (ts : Array TypeId) (ty : TypeId) {l : List D} {vs : Array Value} {d : D} (hl : vs.size = l.length)
    (hp : ∀ (i : Nat) (v : Value) (d : D), vs[i]? = some v → l[i]? = some d → VRel g w v d) (hd : minD l = some d) :
    ∃ r, Runs P (Builtin.min_ ts ty vs) w r ∧ VRel g w r d := by
  unfold minD at hd
  split at hd <;> cases hd
  rename_i k a k' b
  obtain ⟨x, y, rfl⟩ : ∃ x y, vs = #[x, y] := by
    obtain ⟨l⟩ := vs
    match l, hl with
    | [x, y], _ => exact ⟨x, y, rfl⟩
  obtain rfl := (hp 0 x _ rfl rfl).int_inv
  obtain rfl := (hp 1 y _ rfl rfl).int_inv
  exact ⟨_, fun w' _ => by simp [Builtin.min_, Builtin.min2], .c _ _ (.int _ _)⟩
theorem max_sound (ts : Array TypeId) (ty : TypeId) {l : List D} {vs : Array Value} {d : D} (hl : vs.size = l.length)
    (hp : ∀ (i : Nat) (v : Value) (d : D), vs[i]? = some v → l[i]? = some d → VRel g w v d) (hd : maxD l = some d) :
    ∃ r, Runs P (Builtin.max_ ts ty vs) w r ∧ VRel g w r d := by
  unfold maxD at hd
  split at hd <;> cases hd
  rename_i k a k' b
  obtain ⟨x, y, rfl⟩ : ∃ x y, vs = #[x, y] := by
    obtain ⟨l⟩ := vs
    match l, hl with
    | [x, y], _ => exact ⟨x, y, rfl⟩
  obtain rfl := (hp 0 x _ rfl rfl).int_inv
  obtain rfl := (hp 1 y _ rfl rfl).int_inv
  exact ⟨_, fun w' _ => by simp [Builtin.max_, Builtin.max2], .c _ _ (.int _ _)⟩

/-- A slice of pure data, cut. -/
theorem CRel.cut {I : Nat → Prop} {a0 : Option Addr} {n cap : Nat} {els : List (List C)} (h : CRel I w (.slice a0 n cap) (.sl els)) {l hh m z : Nat}
    (h1 : l ≤ hh) (h2 : hh ≤ n) (h3 : hh ≤ m) (h4 : m ≤ cap) (h5 : l = 0 ∨ Wide z els) :
    CRel I w (.slice (if m = l then a0 else a0.map (·.add (l * z))) (hh - l) (m - l)) (.sl ((els.take hh).drop l)) := by
  by_cases he : l = hh
  · subst he
    have e1 : (els.take l).drop l = [] := by simp
    rw [e1, Nat.sub_self]
    have hc : m - l ≤ maxLen := by
      cases h with
      | slnil a cap hc => omega
      | sl b off cap sz _ vs hb hl hc => omega
    exact .slnil _ _ hc
  · cases h with
    | slnil a cap hc => omega
    | sl b off cap sz _ vs hb hl hc hsz hcell hrel =>
      have hm : m ≠ l := by omega
      have ho : l * z = l * sz := by
        rcases h5 with h5 | h5
        · subst h5; omega
        · have hi : l < els.length := by omega
          have h6 := hsz els[l] (List.getElem_mem hi)
          have h7 := h5 els[l] (List.getElem_mem hi)
          have : z = sz := by omega
          rw [this]
      have hlen : ((els.take hh).drop l).length = hh - l := by simp; omega
      rw [if_neg hm, Option.map_some, addr_add, ← hlen, ho]
      have hget : ∀ (i : Nat) (x : List C), ((els.take hh).drop l)[i]? = some x → els[l + i]? = some x := fun i x hx => by
        rw [List.getElem?_drop, List.getElem?_take] at hx
        split at hx
        · exact hx
        · cases hx
      refine .sl b (off + l * sz) (m - l) sz _ (fun i j => vs (l + i) j) hb (by omega) (by omega) (fun x hx => hsz x (List.mem_of_mem_take (List.mem_of_mem_drop hx))) (fun i j x y hx hy => ?_) (fun i j x y hx hy => hrel _ _ _ _ (hget i x hx) hy)
      have := hcell (l + i) j x y (hget i x hx) hy
      rwa [show off + (l + i) * sz + j = off + l * sz + i * sz + j by rw [Nat.add_mul]; omega] at this

theorem elOf_elem {t : TypeId} {x : TypeId × Nat × Nat} (h : elOf P t = some x) : P.underlying t = some (.slice (P.elem t)) ∧ ∀ w, (Go.sizeOf (P.elem t)).run P w = .ok x.2.1 w := by
  obtain ⟨h1, h2⟩ := elOf_spec h
  have e : P.elem t = x.1 := by simp [Program.elem, h1]
  rw [e]
  exact ⟨h1, fun w => elOf_size h w⟩

theorem OptRel.some_inv {x : Option Operand} {k : IntKind} {i : Int} (hr : Rel δ g s a w) (h : x.map s.ev = some (.int k i)) : x.map a.eval = some (.int k i) := by
  cases x with
  | none => cases h
  | some x =>
    simp only [Option.map_some, Option.some.injEq] at h ⊢
    have := hr.ev x
    rw [h] at this
    exact this.int_inv
theorem OptRel.none_inv {x : Option Operand} (h : x.map s.ev = none) : x.map a.eval = none := by
  cases x with
  | none => rfl
  | some x => cases h

theorem slice_sound (hr : Rel δ g s a w) (t : TypeId) {p d : D} {lo hi mx : Option Operand} {C0 : Prop} {v : Value} (hv : VRel g w v p)
    (hd : sliceD P t p (lo.map s.ev) (hi.map s.ev) (mx.map s.ev) = some (C0, d)) (hc : C0) :
    ∃ r, Runs P (Instr.sliceAt t v (lo.map a.eval) (hi.map a.eval) (mx.map a.eval)) w r ∧ VRel g w r d := by
  unfold sliceD at hd
  split at hd
  · rename_i els e z y he
    obtain ⟨hu, hs⟩ := elOf_elem he
    cases hv with
    | c _ _ hv =>
    obtain ⟨a0, cap, rfl, hle, hcap⟩ := CRel.len hv
    split at hd <;> try cases hd
    · rename_i h1 h2 h3
      rw [OptRel.none_inv h1, OptRel.none_inv h2, OptRel.none_inv h3]
      have hrun : ∀ w', (Instr.sliceAt t (.slice a0 els.length cap) none none none).run P w' = .ok (sliced a0 0 els.length cap z) w' := fun w' => by rw [run_sliceAt_slice (h := hu), run_slice_all w' t a0 _ cap hu, hs w']; rfl
      have := hv.cut (l := 0) (hh := els.length) (m := cap) (z := z) (Nat.zero_le _) (Nat.le_refl _) hle (Nat.le_refl _) (.inl rfl)
      simp only [List.drop_zero, List.take_length] at this
      exact ⟨_, fun w' _ => hrun w', .c _ _ this⟩
    · rename_i k h h1 h2 h3
      rw [OptRel.none_inv h1, OptRel.some_inv hr h2, OptRel.none_inv h3]
      have hrun : ∀ w', (Instr.sliceAt t (.slice a0 els.length cap) none (some (.int k h)) none).run P w' = .ok (sliced a0 0 h.toNat cap z) w' := fun w' => by rw [run_sliceAt_slice (h := hu), run_slice_h w' t a0 _ cap hu _ _ hc.1 (by omega), hs w']; rfl
      have := hv.cut (l := 0) (hh := h.toNat) (m := cap) (z := z) (Nat.zero_le _) (by omega) (by omega) (Nat.le_refl _) (.inl rfl)
      simp only [List.drop_zero] at this
      exact ⟨_, fun w' _ => hrun w', .c _ _ this⟩
    · rename_i k l h1 h2 h3
      obtain ⟨hc, hw⟩ := hc
      rw [OptRel.some_inv hr h1, OptRel.none_inv h2, OptRel.none_inv h3]
      have hrun : ∀ w', (Instr.sliceAt t (.slice a0 els.length cap) (some (.int k l)) none none).run P w' = .ok (sliced a0 l.toNat els.length cap z) w' := fun w' => by rw [run_sliceAt_slice (h := hu), run_slice_l w' t a0 _ cap hu _ _ hc.1 hc.2, hs w']; rfl
      have := hv.cut (l := l.toNat) (hh := els.length) (m := cap) (z := z) (by omega) (Nat.le_refl _) hle (Nat.le_refl _) (.inr hw)
      simp only [List.take_length] at this
      exact ⟨_, fun w' _ => hrun w', .c _ _ this⟩
    · rename_i k l k' h h1 h2 h3
      obtain ⟨hc, hw⟩ := hc
      rw [OptRel.some_inv hr h1, OptRel.some_inv hr h2, OptRel.none_inv h3]
      have hrun : ∀ w', (Instr.sliceAt t (.slice a0 els.length cap) (some (.int k l)) (some (.int k' h)) none).run P w' = .ok (sliced a0 l.toNat h.toNat cap z) w' := fun w' => by rw [run_sliceAt_slice (h := hu), run_slice_lh w' t a0 _ cap hu _ _ _ _ hc.1 hc.2.1 (by omega), hs w']; rfl
      have := hv.cut (l := l.toNat) (hh := h.toNat) (m := cap) (z := z) (by omega) (by omega) (by omega) (Nat.le_refl _) (.inr hw)
      exact ⟨_, fun w' _ => hrun w', .c _ _ this⟩
    · rename_i k h k' m h1 h2 h3
      obtain ⟨hc1, hc2, rfl⟩ := hc
      rw [OptRel.none_inv h1, OptRel.some_inv hr h2, OptRel.some_inv hr h3]
      have hrun : ∀ w', (Instr.sliceAt t (.slice a0 els.length cap) none (some (.int k m)) (some (.int k' m))).run P w' = .ok (sliced a0 0 m.toNat m.toNat z) w' := fun w' => by rw [run_sliceAt_slice (h := hu), run_slice_hm w' t a0 _ cap hu _ _ _ _ hc1 (by omega) (by omega), hs w']; rfl
      have h4 := hv.cut (l := 0) (hh := m.toNat) (m := m.toNat) (z := z) (Nat.zero_le _) (by omega) (Nat.le_refl _) (by omega) (.inl rfl)
      simp only [List.drop_zero] at h4
      have hl : (els.take m.toNat).length = m.toNat := by simp; omega
      refine ⟨_, fun w' _ => hrun w', ?_⟩
      show VRel g w (sliced a0 0 m.toNat m.toNat z) _
      simp only [sliced, Nat.sub_zero] at h4 ⊢
      have h5 := VRel.csl (g := g) (w := w) (if m.toNat = 0 then a0 else a0.map (·.add (0 * z))) (els.take m.toNat) (by rw [hl]; exact h4)
      rwa [hl] at h5
  · rename_i x he
    obtain ⟨x1, x2, x3⟩ := x
    obtain ⟨hu, hs⟩ := elOf_elem he
    cases hv
    split at hd <;> cases hd
    · rename_i k h h1 h2 h3
      subst hc
      rw [OptRel.none_inv h1, OptRel.some_inv hr h2, OptRel.none_inv h3]
      have hrun : ∀ w', (Instr.sliceAt t (.slice none 0 0) none (some (.int k 0)) none).run P w' = .ok (sliced none 0 (0 : Int).toNat 0 x2) w' := fun w' => by rw [run_sliceAt_slice (h := hu), run_slice_h w' t none _ 0 hu _ _ (by omega) (by omega), hs w']; rfl
      exact ⟨_, fun w' _ => hrun w', .nil⟩
    · rename_i k h h1 h2 h3
      subst hc
      rw [OptRel.some_inv hr h1, OptRel.none_inv h2, OptRel.none_inv h3]
      have hrun : ∀ w', (Instr.sliceAt t (.slice none 0 0) (some (.int k 0)) none none).run P w' = .ok (sliced none (0 : Int).toNat 0 0 x2) w' := fun w' => by rw [run_sliceAt_slice (h := hu), run_slice_l w' t none _ 0 hu _ _ (by omega) (by omega), hs w']; rfl
      exact ⟨_, fun w' _ => hrun w', .nil⟩
  · cases hd
end
end Dm
