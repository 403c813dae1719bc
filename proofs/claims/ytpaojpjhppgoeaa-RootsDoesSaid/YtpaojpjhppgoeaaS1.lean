import Derived.Test.YtpaojpjhppgoeaaAwp
set_option linter.unusedSimpArgs false
set_option linter.unusedVariables false
/-! Soundness, first part: operations that only compute and read. -/
namespace Dm
open Go

theorem lk_cons {α : Type} (n m : Nat) (x : α) (l : List (Nat × α)) : lk n ((m, x) :: l) = if n = m then some x else lk n l := rfl

section
variable {δ : List Deferred} {P : Program} {g : G} {s : St} {a : Act} {w : World}

theorem valD1_rel (v : Value) : VRel g w v (valD1 v) := by
  unfold valD1
  split
  · exact .c _ _ (.bool _)
  · exact .c _ _ (.int _ _)
  · exact .c _ _ (.flt _ _)
  · exact .c _ _ (.str _)
  · exact .nilp
  · exact .nil
  · exact .nilf
  · exact .undef _

theorem valD_rel (v : Value) : VRel g w v (valD v) := by
  unfold valD
  split
  · rename_i cs
    refine .agg cs _ (by simp) fun i v d hv hd => ?_
    simp at hd
    obtain ⟨u, hu, rfl⟩ := hd
    rw [hv] at hu
    cases hu
    exact valD1_rel v
  · exact valD1_rel _

theorem Rel.ev (h : Rel δ g s a w) (x : Operand) : VRel g w (a.eval x) (s.ev x) := by
  cases x with
  | tmp t =>
    show VRel g w (a.tmps.getD t Go.undef) ((lk t s.tm).getD .undef)
    cases hl : lk t s.tm with
    | none => exact .undef _
    | some d =>
      obtain ⟨v, hv, hr⟩ := h.tm t d hl
      simp [Array.getD, Option.getD]
      simp [Array.getElem?_eq_some_iff] at hv
      obtain ⟨h1, h2⟩ := hv
      simp [h1, h2, hr]
  | const v => exact valD_rel v
  | global g => exact .undef _
  | func f => exact .fn _ _ _ _ _ rfl rfl (fun i v d h => by simp at h) (fun i v d h => by simp at h)

theorem Rel.put (h : Rel δ g s a w) (t : Option Tmp) {v : Value} {d : D} (hv : VRel g w v d) (ht : ∀ x, t = some x → x < a.tmps.size) : Rel δ g (s.put t d) (a.put t v) w := by
  cases t with
  | none => exact h
  | some t =>
    refine ⟨fun u e hu => ?_, h.defers, ⟨h.o.ok, h.o.apart, h.o.fresh, h.o.imm, h.o.cel⟩⟩
    simp only [St.put, lk_cons] at hu
    by_cases e1 : u = t
    · rw [if_pos e1] at hu
      cases hu
      refine ⟨v, ?_, hv⟩
      simp [Act.put, e1, ht t rfl]
    · rw [if_neg e1] at hu
      obtain ⟨v', h1, h2⟩ := h.tm u e hu
      refine ⟨v', ?_, h2⟩
      simp [Act.put, Array.getElem?_setIfInBounds, Ne.symm e1, h1]

theorem put_size (a : Act) (t : Option Tmp) (v : Value) : (a.put t v).tmps.size = a.tmps.size := by cases t <;> simp [Act.put]

/-! ### Types -/
theorem tyOf_spec {t : TypeId} {z : Bool × Nat} (h : tyOf P t = some z) (w : World) : (isAgg t).run P w = .ok z.1 w ∧ (Go.sizeOf t).run P w = .ok z.2 w := by
  unfold tyOf at h
  cases hu : P.underlying t with
  | none => simp [hu] at h
  | some d =>
    cases hi : P.info? t with
    | none => simp [hu, hi] at h
    | some i =>
      rw [hu, hi] at h
      constructor
      · cases d <;> simp at h <;> subst h <;> simp [isAgg, underlying, hu]
      · cases d <;> simp at h <;> subst h <;> simp [Go.sizeOf, typeInfo, hi]

/-! ### Reading cells -/
/-- Cells in a row from an address on. -/
def At (g : G) (w : World) (b off : Nat) (cs : List D) : Prop := ∀ (j : Nat) (d : D), cs[j]? = some d → ∃ v, w.cell? ⟨b, off + j, none⟩ = some v ∧ VRel g w v d

theorem run_cells {b off : Nat} {cs : List D} (h : At g w b off cs) : ∃ vs : List Value, vs.length = cs.length ∧
    Runs P (loadCells ⟨b, off, none⟩ cs.length) w vs.toArray ∧ ∀ (i : Nat) (v : Value) (d : D), vs[i]? = some v → cs[i]? = some d → VRel g w v d := by
  have hc : ∀ j, j < cs.length → ∃ v, w.cell? ⟨b, off + j, none⟩ = some v ∧ ∀ d, cs[j]? = some d → VRel g w v d := by
    intro j hj
    obtain ⟨v, h1, h2⟩ := h j cs[j] (List.getElem?_eq_getElem hj)
    exact ⟨v, h1, fun d hd => by rw [List.getElem?_eq_getElem hj] at hd; cases hd; exact h2⟩
  let f : Nat → Value := fun j => if hj : j < cs.length then (hc j hj).choose else .nilFunc
  have hf : ∀ j (hj : j < cs.length), f j = (hc j hj).choose := fun j hj => by simp only [f, dif_pos hj]
  refine ⟨(List.range cs.length).map f, by simp, ?_, ?_⟩
  · intro w' hw'
    have := run_loadCells (P := P) (w := w') ⟨b, off, none⟩ cs.length f (fun j hj => by
      have e : (Addr.add ⟨b, off, none⟩ j) = ⟨b, off + j, none⟩ := by
        unfold Addr.add; split
        · subst_vars; rfl
        · rfl
      rw [e, hf j hj]
      exact hw'.cell (hc j hj).choose_spec.1)
    exact this
  · intro i v d hv hd
    simp only [List.getElem?_map, Option.map_eq_some_iff] at hv
    obtain ⟨j, hj, rfl⟩ := hv
    have hi : i < cs.length := by
      rcases Nat.lt_or_ge i cs.length with h | h
      · exact h
      · rw [List.getElem?_eq_none h] at hd; cases hd
    rw [List.getElem?_range hi] at hj
    cases hj
    rw [hf _ hi]
    exact (hc _ hi).choose_spec.2 d hd

/-- A variable read. -/
theorem run_loadVar_at {t : TypeId} {z : Bool × Nat} (ht : tyOf P t = some z) {b off : Nat} {cs : List D} (h : At g w b off cs) {o : Nat} {d : D} (hd : ldc z cs o = some d) :
    ∃ v, Runs P (loadVar t ⟨b, off + o, none⟩) w v ∧ VRel g w v d := by
  obtain ⟨ag, n⟩ := z
  cases ag with
  | true =>
    simp only [ldc] at hd
    split at hd
    · rename_i hle
      cases hd
      have h' : At g w b (off + o) ((cs.drop o).take n) := fun j d hj => by
        have hj2 : (cs.drop o)[j]? = some d := by
          rw [List.getElem?_take] at hj
          split at hj
          · exact hj
          · cases hj
        rw [List.getElem?_drop] at hj2
        obtain ⟨v, hv, hr⟩ := h (o + j) d hj2
        exact ⟨v, by rw [show off + o + j = off + (o + j) by omega]; exact hv, hr⟩
      obtain ⟨vs, hl, hrun, hrel⟩ := run_cells (P := P) h'
      have hn : ((cs.drop o).take n).length = n := by simp; omega
      rw [hn] at hrun
      refine ⟨.agg vs.toArray, fun w' hw' => ?_, .agg _ _ (by simpa using hl) (by simpa using hrel)⟩
      obtain ⟨h1, h2⟩ := tyOf_spec ht w'
      simp only [loadVar]
      simp [h1, h2, hrun w' hw']
    · cases hd
  | false =>
    simp only [ldc] at hd
    obtain ⟨v, hv, hr⟩ := h o d hd
    refine ⟨v, fun w' hw' => ?_, hr⟩
    obtain ⟨h1, h2⟩ := tyOf_spec ht w'
    simp only [loadVar]
    simp [h1, hw'.cell hv]

theorem At.of_box {id : Nat} {cs : List D} (h : OK g w id (.box cs)) : ∃ b, g.ρ id = some b ∧ At g w b 0 cs := by
  obtain ⟨b, e, cells, h1, h2, h3, h4⟩ := h
  refine ⟨b, h1, fun j d hj => ?_⟩
  have hj' : j < cells.size := by
    rw [h3]
    rcases Nat.lt_or_ge j cs.length with h | h
    · exact h
    · rw [List.getElem?_eq_none h] at hj; cases hj
  refine ⟨cells[j], ?_, h4 j _ d (Array.getElem?_eq_getElem hj') hj⟩
  simp [World.cell?, h2, hj']

theorem At.of_rp {b off : Nat} {cs : List C} {vs : Nat → Value} (hcell : ∀ (j : Nat) (y : C), cs[j]? = some y → w.cell? ⟨b, off + j, none⟩ = some (vs j) ∧ CRel g.I w (vs j) y) :
    At g w b off (cs.map .c) := fun j d hj => by
  simp only [List.getElem?_map, Option.map_eq_some_iff] at hj
  obtain ⟨y, hy, rfl⟩ := hj
  exact ⟨_, (hcell j y hy).1, .c _ _ (hcell j y hy).2⟩

theorem Rel.load (h : Rel δ g s a w) {t : TypeId} {p d : D} {v : Value} (hv : VRel g w v p) (hd : ldD P s t p = some d) :
    ∃ u, Runs P (Instr.loadAt t v) w u ∧ VRel g w u d := by
  cases p <;> simp only [ldD] at hd <;> try cases hd
  case ref id off =>
    split at hd
    · rename_i z cs hz ho
      cases hv with
      | ref b _ _ hb =>
        obtain ⟨b', h1, h2⟩ := At.of_box (h.o.ok id _ ho)
        rw [hb] at h1; cases h1
        obtain ⟨u, hu, hr⟩ := run_loadVar_at hz h2 hd
        rw [Nat.zero_add] at hu
        exact ⟨u, fun w' hw' => by simp [Instr.loadAt, Instr.sureAddr, hu w' hw'], hr⟩
    · cases hd
  case eref id n sz i off =>
    split at hd
    · rename_i z hd0 sz' e els hz ho
      split at hd
      · rename_i hc
        obtain ⟨hc1, rfl, hc3⟩ := hc
        cases hv with
        | eref b _ _ _ _ _ _ a0 len cap hk hn hv =>
          obtain ⟨a1, cap1, h1, h2, h3, h4, h5⟩ := h.o.ok id _ ho
          rw [hk] at h1; cases h1
          obtain ⟨o, rfl, rfl⟩ := hv hc1
          rcases h5 with ⟨h5, _⟩ | ⟨b', o', cells, vs, h5, h6, h7, _, h8⟩
          · cases h5
          · cases h5
            have hi : i < els.length := by omega
            have hat : At g w b (o + i * sz) ((els.getD i (zc0 P e)).map .c) := fun j d hj => by
              simp only [List.getElem?_map, Option.map_eq_some_iff] at hj
              obtain ⟨y, hy, rfl⟩ := hj
              have hx : els[i]? = some (els.getD i (zc0 P e)) := by simp [List.getD, List.getElem?_eq_getElem hi]
              obtain ⟨h9, h10⟩ := h8 i j _ y hx hy
              exact ⟨vs i j, by simp [World.cell?, h6, h9], .c _ _ h10⟩
            obtain ⟨u, hu, hr⟩ := run_loadVar_at hz hat hd
            exact ⟨u, fun w' hw' => by simp [Instr.loadAt, Instr.sureAddr, hu w' hw'], hr⟩
      · cases hd
    · cases hd
  case rp cs =>
    split at hd
    · rename_i z hz
      cases hv with
      | rp b off _ vs hI hcell =>
        obtain ⟨u, hu, hr⟩ := run_loadVar_at hz (At.of_rp hcell) hd
        rw [Nat.add_zero] at hu
        exact ⟨u, fun w' hw' => by simp [Instr.loadAt, Instr.sureAddr, hu w' hw'], hr⟩
    · cases hd
end
end Dm
