import Derived.Test.YtpaojpjhppgoeaaS4
set_option linter.unusedSimpArgs false
set_option linter.unusedVariables false
/-! Soundness, fifth part: operations that make and write memory. -/
namespace Dm
open Go
section
variable {δ : List Deferred} {P : Program} {g g' : G} {s : St} {a : Act} {w w' : World}

theorem CRel.one {I : Nat → Prop} {v : Value} {x : C} (h : CRel I w v x) : v.oneCell' = true ∧ v.cells = #[v] := by
  cases h <;> first | exact ⟨rfl, rfl⟩ | exact ⟨by assumption, by assumption⟩

theorem VRel.one {v : Value} {d : D} (h : VRel g w v d) (hd : d.one = true) : v.oneCell' = true := by
  cases h <;> first | rfl | (simp [D.one] at hd; done) | skip
  rename_i h
  exact h.one.1

theorem cells_rel {v : Value} {d : D} {cs : List D} (h : VRel g w v d) (hc : d.cells? = some cs) :
    v.cells.size = cs.length ∧ ∀ (i : Nat) (u : Value) (e : D), v.cells[i]? = some u → cs[i]? = some e → VRel g w u e := by
  have single : ∀ (hv : v.cells = #[v]) (hcs : cs = [d]), v.cells.size = cs.length ∧ ∀ (i : Nat) (u : Value) (e : D), v.cells[i]? = some u → cs[i]? = some e → VRel g w u e := by
    intro hv hcs
    subst hcs
    rw [hv]
    refine ⟨rfl, fun i u e hu he => ?_⟩
    match i, hu, he with
    | 0, hu, he =>
      simp at hu he
      subst hu; subst he
      exact h
    | i + 1, hu, he => simp at hu
  cases h with
  | undef => simp [D.cells?] at hc
  | skip => simp [D.cells?] at hc
  | c _ x h0 => exact single h0.one.2 (by simpa [D.cells?] using hc.symm)
  | agg vs ds hl hp =>
    simp only [D.cells?, Option.some.injEq] at hc
    subst hc
    exact ⟨hl, hp⟩
  | tup => simp [D.cells?] at hc
  | _ => exact single rfl (by simpa [D.cells?] using hc.symm)

theorem toC_rel {v : Value} {d : D} {x : C} (h : VRel g w v d) (hx : d.toC = some x) : CRel g.I w v x := by
  cases h <;> simp only [D.toC, reduceCtorEq, Option.some.injEq] at hx
  · subst hx; assumption
  · subst hx; exact .slnil _ _ (by simp [maxLen])
  · subst hx; assumption

theorem toCs_rel : ∀ {ds : List D} {xs : List C}, D.toCs ds = some xs → xs.length = ds.length ∧ ∀ (i : Nat) (d : D) (x : C), ds[i]? = some d → xs[i]? = some x → d.toC = some x
  | [], xs, h => by
    simp only [D.toCs, Option.some.injEq] at h
    subst h
    exact ⟨rfl, fun i d x h => by simp at h⟩
  | d :: l, xs, h => by
    simp only [D.toCs] at h
    split at h
    · rename_i x ys h1 h2
      cases h
      obtain ⟨h3, h4⟩ := toCs_rel h2
      refine ⟨by simp [h3], fun i e y he hy => ?_⟩
      cases i with
      | zero => simp at he hy; subst he; subst hy; exact h1
      | succ i => exact h4 i e y (by simpa using he) (by simpa using hy)
    · cases h

/-- A value's cells, as pure data. -/
theorem cells_toCs {v : Value} {d : D} {cs : List D} {xs : List C} (h : VRel g w v d) (hc : d.cells? = some cs) (hx : D.toCs cs = some xs) :
    v.cells.size = xs.length ∧ (∀ (i : Nat) (u : Value) (x : C), v.cells[i]? = some u → xs[i]? = some x → CRel g.I w u x) := by
  obtain ⟨h1, h2⟩ := cells_rel h hc
  obtain ⟨h3, h4⟩ := toCs_rel hx
  refine ⟨by omega, fun i u x hu hxx => ?_⟩
  have hi : i < cs.length := by
    rw [← h3]
    rcases Nat.lt_or_ge i xs.length with h | h
    · exact h
    · rw [List.getElem?_eq_none h] at hxx; cases hxx
  have hd := List.getElem?_eq_getElem hi
  exact toC_rel (h2 i u _ hu hd) (h4 i _ x hd hxx)

theorem heap_alloc_lt (w : World) (o : Obj) (b : Nat) (hb : b < w.heap.size) : (w.alloc o).heap[b]? = w.heap[b]? := heap_alloc_old w o hb
theorem size_alloc (w : World) (o : Obj) : (w.alloc o).heap.size = w.heap.size + 1 := by
  unfold World.alloc
  simp

/-- The ghost with a box more, with a slice more, with a slice changed. -/
def G.box (g : G) (id b : Nat) : G := { g with ρ := fun i => if i = id then some b else g.ρ i }
def G.vec (g : G) (id : Nat) (x : Option Addr × Nat × Nat) : G := { g with κ := fun i => if i = id then some x else g.κ i }

theorem Rel.of (h : Rel δ g s a w) {s' : St} (ho : RelO g' s' w') (hst : Step g s w g' ⟨[], s'.os, s'.nx⟩ w') (htm : s'.tm = s.tm) : Rel δ g' s' a w' :=
  ⟨fun t d hd => by
    rw [htm] at hd
    obtain ⟨v, h1, h2⟩ := h.tm t d hd
    exact ⟨v, h1, hst.vrel h.o h2⟩, h.defers, ho⟩

theorem RelO.tm {tm : List (Nat × D)} (h : RelO g s w) : RelO g ⟨tm, s.os, s.nx⟩ w := ⟨h.ok, h.apart, h.fresh, h.imm, h.cel⟩
theorem Step.tm {s' : St} {tm tm' : List (Nat × D)} (h : Step g s w g' s' w') : Step g ⟨tm, s.os, s.nx⟩ w g' ⟨tm', s'.os, s'.nx⟩ w' := ⟨h.le, h.size, h.same, h.own, h.imm, h.env⟩

theorem box_sound (hr : Rel δ g s a w) {v : Value} {d : D} {cs : List D} (hv : VRel g w v d) (hc : d.cells? = some cs) (t : TypeId) (dst : Option Tmp) (hd : ∀ x, dst = some x → x < a.tmps.size) :
    ∃ g', Rel δ g' (s.bx dst cs) (a.put dst (.pointer (some ⟨w.heap.size, 0, none⟩))) (w.alloc (.cells v.cells t)) ∧ Step g s w g' (s.bx dst cs) (w.alloc (.cells v.cells t)) := by
  obtain ⟨h1, h2⟩ := cells_rel hv hc
  have hfr := hr.o.fresh s.nx (Nat.le_refl _)
  have hle : g.Le (g.box s.nx w.heap.size) := ⟨fun id b hb => by
    simp only [G.box]
    split
    · rename_i e; rw [e, hfr.1] at hb; cases hb
    · exact hb, fun id x l c hk => ⟨x, l, c, hk, Nat.le_refl _, fun _ => ⟨rfl, rfl⟩⟩, fun b hb => hb⟩
  have hk : Keeps g.I w (w.alloc (.cells v.cells t)) := fun b hb => heap_alloc_lt _ _ _ (hr.o.imm b hb).1
  obtain ⟨h3, h4⟩ := hr.o.add (.box cs) s.tm hle (fun b hb => hb) (fun i hi => by simp [G.box, hi]) (fun i hi => rfl) (w' := w.alloc (.cells v.cells t)) (by rw [size_alloc]; omega) (fun b hb => heap_alloc_lt _ _ _ hb)
    ⟨w.heap.size, t, v.cells, by simp [G.box], heap_alloc_new w _, h1, fun i u e hu he => (h2 i u e hu he).mono hk hle⟩
    (fun b hb => by simp [G.blk, G.box] at hb; omega)
  have h5 : Rel δ (g.box s.nx w.heap.size) ⟨s.tm, (s.nx, .box cs) :: s.os, s.nx + 1⟩ a (w.alloc (.cells v.cells t)) := hr.of h3 h4.tm rfl
  have h6 := h5.put dst (v := .pointer (some ⟨w.heap.size, 0, none⟩)) (d := .ref s.nx 0) (.ref _ _ _ (by simp [G.box])) hd
  refine ⟨g.box s.nx w.heap.size, ?_, ?_⟩
  · cases dst <;> exact h6
  · cases dst <;> exact h4.tm

/-- A new slice of its own. -/
theorem vec_sound' (hr : Rel δ g s a w) (w' : World) (hsz : w.heap.size ≤ w'.heap.size) (hs : ∀ b, b < w.heap.size → w'.heap[b]? = w.heap[b]?) {sz : Nat} {e : TypeId} {els : List (List C)} {a0 : Option Addr} {cap : Nat}
    (h1 : els.length ≤ cap) (h2 : cap ≤ maxLen) (h3 : ∀ x ∈ els, x.length = sz)
    (h4 : (a0 = none ∧ cap = 0) ∨ ∃ (b : Nat) (cells : Array Value) (vs : Nat → Nat → Value), a0 = some ⟨b, 0, none⟩ ∧ w.heap.size ≤ b ∧ w'.heap[b]? = some (.cells cells e (0, 0)) ∧ (cells.size = cap * sz ∧ ∀ v ∈ cells.toList, v.oneCell' = true) ∧
      ∀ (i j : Nat) (x : List C) (y : C), els[i]? = some x → x[j]? = some y → cells[i * sz + j]? = some (vs i j) ∧ CRel g.I w (vs i j) y)
    (dst : Option Tmp) (hd : ∀ x, dst = some x → x < a.tmps.size) (he : Env w w' := by exact ⟨rfl, rfl, rfl⟩) :
    Rel δ (g.vec s.nx (a0, els.length, cap)) (s.vc dst sz e els) (a.put dst (.slice a0 els.length cap)) w' ∧ Step g s w (g.vec s.nx (a0, els.length, cap)) (s.vc dst sz e els) w' := by
  have hfr := hr.o.fresh s.nx (Nat.le_refl _)
  have hle : g.Le (g.vec s.nx (a0, els.length, cap)) := ⟨fun id b hb => hb, fun id x l c hk => ⟨x, l, c, by
    simp only [G.vec]
    split
    · rename_i e; rw [e, hfr.2] at hk; cases hk
    · exact hk, Nat.le_refl _, fun _ => ⟨rfl, rfl⟩⟩, fun b hb => hb⟩
  have hk : Keeps g.I w w' := fun b hb => hs _ (hr.o.imm b hb).1
  obtain ⟨h5, h6⟩ := hr.o.add (.vec true sz e els) s.tm hle (fun b hb => hb) (fun i hi => rfl) (fun i hi => by simp [G.vec, hi]) (w' := w') hsz hs
    (by
      refine ⟨a0, cap, by simp [G.vec], h1, h2, h3, ?_⟩
      rcases h4 with h4 | ⟨b, cells, vs, rfl, h5, h6, h7, h8⟩
      · exact .inl h4
      · exact .inr ⟨b, 0, cells, vs, rfl, h6, by omega, ⟨fun _ => ⟨rfl, h7.1⟩, h7.2⟩, fun i j x y hx hy => ⟨by rw [Nat.zero_add]; exact (h8 i j x y hx hy).1, (h8 i j x y hx hy).2.mono hk fun b hb => hb⟩⟩)
    (fun b hb => by
      rcases h4 with ⟨rfl, _⟩ | ⟨b, cells, vs, rfl, h5, _⟩
      · simp [G.blk, G.vec] at hb
      · simp [G.blk, G.vec] at hb; omega) he
  have h7 : Rel δ (g.vec s.nx (a0, els.length, cap)) ⟨s.tm, (s.nx, .vec true sz e els) :: s.os, s.nx + 1⟩ a w' := hr.of h5 h6.tm rfl
  have h8 := h7.put dst (v := .slice a0 els.length cap) (d := .vec s.nx els.length) (.vec a0 cap _ _ a0 els.length cap (by simp [G.vec]) (Nat.le_refl _) (by omega) (by
    rcases h4 with ⟨rfl, h4⟩ | ⟨b, cells, vs, rfl, h5, _⟩
    · exact .inl (by omega)
    · exact .inr ⟨b, 0, rfl⟩) fun _ => ⟨rfl, rfl⟩) hd
  refine ⟨?_, ?_⟩
  · cases dst <;> exact h8
  · cases dst <;> exact h6.tm
theorem vec_sound (hr : Rel δ g s a w) (w' : World) (hsz : w.heap.size ≤ w'.heap.size) (hs : ∀ b, b < w.heap.size → w'.heap[b]? = w.heap[b]?) {sz : Nat} {e : TypeId} {els : List (List C)} {a0 : Option Addr} {cap : Nat}
    (h1 : els.length ≤ cap) (h2 : cap ≤ maxLen) (h3 : ∀ x ∈ els, x.length = sz)
    (h4 : (a0 = none ∧ cap = 0) ∨ ∃ (b : Nat) (cells : Array Value) (vs : Nat → Nat → Value), a0 = some ⟨b, 0, none⟩ ∧ w.heap.size ≤ b ∧ w'.heap[b]? = some (.cells cells e (0, 0)) ∧ (cells.size = cap * sz ∧ ∀ v ∈ cells.toList, v.oneCell' = true) ∧
      ∀ (i j : Nat) (x : List C) (y : C), els[i]? = some x → x[j]? = some y → cells[i * sz + j]? = some (vs i j) ∧ CRel g.I w (vs i j) y)
    (dst : Option Tmp) (hd : ∀ x, dst = some x → x < a.tmps.size) (he : Env w w' := by exact ⟨rfl, rfl, rfl⟩) :
    ∃ g', Rel δ g' (s.vc dst sz e els) (a.put dst (.slice a0 els.length cap)) w' ∧ Step g s w g' (s.vc dst sz e els) w' :=
  ⟨_, vec_sound' hr w' hsz hs h1 h2 h3 h4 dst hd he⟩
end
end Dm
