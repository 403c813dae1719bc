import Derived.Test.YtpaojpjhppgoeaaS7
set_option linter.unusedSimpArgs false
set_option linter.unusedVariables false
/-! Soundness, eighth part: slices made, stores. -/
namespace Dm
open Go
section
variable {δ : List Deferred} {P : Program} {g g' : G} {s : St} {a : Act} {w w' : World}

theorem idx_lt {els : List (List C)} {z i j : Nat} {x : List C} {y : C} (hw : Wide z els) (hx : els[i]? = some x) (hy : x[j]? = some y) : i < els.length ∧ j < z ∧ i * z + j < els.length * z := by
  have hi : i < els.length := by
    rcases Nat.lt_or_ge i els.length with h3 | h3
    · exact h3
    · rw [List.getElem?_eq_none h3] at hx; cases hx
  have hj : j < z := by
    have := hw x (List.mem_of_getElem? hx)
    rcases Nat.lt_or_ge j x.length with h3 | h3
    · omega
    · rw [List.getElem?_eq_none h3] at hy; cases hy
  have : (i + 1) * z ≤ els.length * z := Nat.mul_le_mul_right _ hi
  rw [Nat.add_mul] at this
  exact ⟨hi, hj, by omega⟩

theorem Flat.set {I : Nat → Prop} {z : Nat} {els : List (List C)} {cells : Array Value} (h : Flat I w z els cells.toList) (hw : Wide z els) {k : Nat} (hk : k < els.length) {us : Array Value} {xs : List C} (hl : us.size = xs.length) (hz : xs.length = z)
    (hu : ∀ (i : Nat) (u : Value) (x : C), us[i]? = some u → xs[i]? = some x → CRel I w u x) :
    Flat I w z (els.set k xs) (us.zipIdx.foldl (fun cs (c, j) => cs.setIfInBounds (k * z + j) c) cells).toList := by
  have e : us.zipIdx.foldl (fun cs (c, j) => cs.setIfInBounds (k * z + j) c) cells = (us.toList.zipIdx 0).foldl (fun cs x => cs.setIfInBounds (k * z + x.2) x.1) cells := by
    rw [← Array.foldl_toList, Array.toList_zipIdx]
  rw [e]
  have hcl : cells.toList.length = cells.size := Array.length_toList
  have hul : us.toList.length = us.size := Array.length_toList
  have hle : (k + 1) * z ≤ els.length * z := Nat.mul_le_mul_right _ hk
  rw [Nat.add_mul] at hle
  have hsz := h.1
  have hget := fun i => foldl_set_get (k * z) us.toList 0 us.toList cells i (fun j => by rw [Nat.zero_add]) (by omega)
  refine ⟨by rw [Array.length_toList, foldl_set_size]; simp; omega, fun i j x y hx hy => ?_⟩
  rw [Array.getElem?_toList, hget]
  by_cases hik : i = k
  · subst hik
    rw [List.getElem?_set_self hk] at hx
    cases hx
    have hj : j < xs.length := by
      rcases Nat.lt_or_ge j xs.length with h3 | h3
      · exact h3
      · rw [List.getElem?_eq_none h3] at hy; cases hy
    rw [if_pos (by omega), show i * z + j - i * z - 0 = j by omega]
    have hju : j < us.size := by omega
    exact ⟨us[j], by simp [hju], hu j _ y (Array.getElem?_eq_getElem hju) hy⟩
  · rw [List.getElem?_set_ne (Ne.symm hik)] at hx
    obtain ⟨u, h1, h2⟩ := h.2 i j x y hx hy
    obtain ⟨h3, h4, h5⟩ := idx_lt hw hx hy
    refine ⟨u, ?_, h2⟩
    rw [if_neg]
    · simpa using h1
    · intro hc
      rcases Nat.lt_or_gt_of_ne hik with h6 | h6
      · have : (i + 1) * z ≤ k * z := Nat.mul_le_mul_right _ h6
        rw [Nat.add_mul] at this
        omega
      · have : (k + 1) * z ≤ i * z := Nat.mul_le_mul_right _ h6
        rw [Nat.add_mul] at this
        omega

theorem fillS_sound (z : Nat) : ∀ (ps : List (Nat × Value)) (qs : List (Nat × D)) (cells : Array Value) (els els' : List (List C)), ps.length = qs.length →
    (∀ (k : Nat) (i : Nat) (v : Value) (j : Nat) (d : D), ps[k]? = some (i, v) → qs[k]? = some (j, d) → i = j ∧ VRel g w v d) → Flat g.I w z els cells.toList → Wide z els → fillS z els qs = some els' →
    ∃ us, Instr.fill (fun i => some (i * z, z)) cells ps = some us ∧ Flat g.I w z els' us.toList ∧ Wide z els' ∧ els'.length = els.length ∧ us.size = cells.size
  | [], [], cells, els, els', _, _, h, hw, hf => by
    simp only [fillS, Option.some.injEq] at hf
    subst hf
    exact ⟨cells, rfl, h, hw, rfl, rfl⟩
  | (i, v) :: ps, (j, d) :: qs, cells, els, els', hl, hp, h, hw, hf => by
    obtain ⟨rfl, hv⟩ := hp 0 i v j d rfl rfl
    simp only [fillS] at hf
    split at hf <;> try cases hf
    rename_i vs hc
    split at hf <;> try cases hf
    rename_i xs hx
    split at hf <;> try cases hf
    rename_i hcond
    obtain ⟨h1, h2⟩ := cells_toCs hv hc hx
    have hset := h.set hw hcond.2 h1 hcond.1 h2
    have hw' : Wide z (els.set i xs) := fun x hx => by
      rcases List.mem_or_eq_of_mem_set hx with h | h
      · exact hw x h
      · rw [h]; exact hcond.1
    obtain ⟨us, h3, h4, h5, h6, h7⟩ := fillS_sound z ps qs _ _ els' (by simpa using hl) (fun k => hp (k + 1)) hset hw' hf
    have hcl : cells.toList.length = cells.size := Array.length_toList
    have hle : (i + 1) * z ≤ els.length * z := Nat.mul_le_mul_right _ hcond.2
    rw [Nat.add_mul] at hle
    have hsz := h.1
    refine ⟨us, ?_, h4, h5, by simpa using h6, ?_⟩
    · simp only [Instr.fill]
      rw [if_neg (by simp; omega)]
      exact h3
    · rw [h7]
      have e : v.cells.zipIdx.foldl (fun cs (c, j) => cs.setIfInBounds (i * z + j) c) cells = (v.cells.toList.zipIdx 0).foldl (fun cs x => cs.setIfInBounds (i * z + x.2) x.1) cells := by
        rw [← Array.foldl_toList, Array.toList_zipIdx]
      rw [e, foldl_set_size]

/-- Rows of zero elements. -/
theorem zero_flat {zv : Value} {zc : List C} (hl : zv.cells.size = zc.length) (hr : ∀ (i : Nat) (u : Value) (x : C), zv.cells[i]? = some u → zc[i]? = some x → CRel g.I w u x) (hz : zc.length ≠ 0) (n : Nat) :
    Flat g.I w zc.length (List.replicate n zc) ((Array.range (n * zc.length)).map (zv.cells[· % zv.cells.size]!)).toList := by
  refine ⟨by simp, fun i j x y hx hy => ?_⟩
  have hw : Wide zc.length (List.replicate n zc) := fun x hx => by rw [(List.mem_replicate.1 hx).2]
  obtain ⟨h1, h2, h3⟩ := idx_lt hw hx hy
  rw [List.length_replicate] at h1 h3
  rw [List.getElem?_replicate, if_pos h1] at hx
  cases hx
  have e1 : (i * zc.length + j) % zv.cells.size = j := by rw [hl, Nat.mul_comm, Nat.mul_add_mod, Nat.mod_eq_of_lt h2]
  have hj : j < zv.cells.size := by omega
  refine ⟨zv.cells[j], ?_, hr j _ y (Array.getElem?_eq_getElem hj) hy⟩
  simp [List.getElem?_range h3, e1, hj]

theorem bsl_sound (hr : Rel δ g s a w) {t : TypeId} {len : Nat} {ps : List (Nat × Value)} {qs : List (Nat × D)} {z : Nat} {e : TypeId} {els : List (List C)} (hl : ps.length = qs.length)
    (hp : ∀ (k : Nat) (i : Nat) (v : Value) (j : Nat) (d : D), ps[k]? = some (i, v) → qs[k]? = some (j, d) → i = j ∧ VRel g w v d) (h : bslD P t len qs = some (z, e, els))
    (ps' : Array (Nat × Value)) (hps : ps'.toList = ps) (dst : Option Tmp) (hd : ∀ x, dst = some x → x < a.tmps.size) :
    ∃ r w' g', (Instr.buildSlice t len ps').run P w = .ok r w' ∧ Rel δ g' (s.vc dst z e els) (a.put dst r) w' ∧ Step g s w g' (s.vc dst z e els) w' := by
  unfold bslD at h
  split at h <;> try cases h
  rename_i e' z' bytes he
  split at h <;> try cases h
  rename_i zc hzc
  split at h <;> try cases h
  rename_i hcond
  split at h <;> try cases h
  rename_i els' hf
  obtain ⟨hul, i, hi, his, hib⟩ := elOf_spec he
  obtain ⟨i', zv, hi', hzv, hzs, hzr⟩ := zcOf_spec hzc
  simp only at hul hi his hib
  rw [hi] at hi'; cases hi'
  obtain ⟨hc1, hc2, hc3⟩ := hcond
  have hz0 := zero_flat (g := g) (w := w) hzs (hzr g w) (by omega) len
  rw [hc2] at hz0
  obtain ⟨us, h1, h2, h3, h4, h5⟩ := fillS_sound z ps qs _ _ els hl hp hz0 (fun x hx => by rw [(List.mem_replicate.1 hx).2]; exact hc2) hf
  rw [List.length_replicate] at h4
  have hus : us.size = len * z := by rw [h5]; simp
  have hrun : (Instr.buildSlice t len ps').run P w = .ok (.slice (some ⟨w.heap.size, 0, none⟩) len len) (w.alloc (.cells us e)) := by
    subst hps
    by_cases hn : len * z = 0
    · have hn0 : len = 0 := by
        rcases Nat.mul_eq_zero.1 hn with h | h
        · exact h
        · exact absurd h hc3
      subst hn0
      rw [Nat.zero_mul] at h1
      have h1' : Instr.fill (fun i => some (i * z, z)) #[] ps'.toList = some us := by rw [← h1, Array.range_zero']; simp
      simp [Instr.buildSlice, Go.run_underlying hul, Go.sizeOf, typeInfo, hi, his, h1', newRow, Array.range_zero']
    · simp [Instr.buildSlice, Go.run_underlying hul, Go.sizeOf, typeInfo, zeroValue, hzv, hi, his, hn, h1, newRow, show ¬ 16777216 < len * z by omega]
  obtain ⟨vs, hvs⟩ := h2.cells (rest := [])
  obtain ⟨g', h6, h7⟩ := vec_sound hr (w.alloc (.cells us e)) (by rw [size_alloc]; omega) (fun b hb => heap_alloc_lt _ _ _ hb) (sz := z) (e := e) (els := els) (a0 := some ⟨w.heap.size, 0, none⟩) (cap := len) (by omega)
    (by simp only [maxLen]; have : len * 1 ≤ len * z := Nat.mul_le_mul_left _ (by omega)
        omega) h3 (.inr ⟨w.heap.size, us, vs, rfl, Nat.le_refl _, heap_alloc_new w _, ⟨hus, h2.one h3 hc3⟩, fun i j x y hx hy => by simpa using hvs i j x y hx hy⟩) dst hd
  rw [h4] at h6
  exact ⟨_, _, g', hrun, h6, h7⟩

theorem mk_sound (hr : Rel δ g s a w) {t : TypeId} {l c : D} {v u : Value} (hv : VRel g w v l) (hu : VRel g w u c) (dst : Option Tmp) (hd : ∀ x, dst = some x → x < a.tmps.size)
    {C0 : Prop} {s' : St} (h : mkD P s t dst l c = some (C0, s')) (hc : C0) :
    ∃ r w' g', (Instr.makeSlice t v u).run P w = .ok r w' ∧ Rel δ g' s' (a.put dst r) w' ∧ Step g s w g' s' w' := by
  unfold mkD at h
  split at h <;> try cases h
  rename_i k l k' c e z bytes he
  split at h <;> cases h
  rename_i zc hzc
  obtain ⟨hul, i, hi, his, hib⟩ := elOf_spec he
  obtain ⟨i', zv, hi', hzv, hzs, hzr⟩ := zcOf_spec hzc
  simp only at hul hi his hib
  rw [hi] at hi'; cases hi'
  obtain ⟨hc1, hc2, hc3, hc4, hc5, hc6⟩ := hc
  obtain rfl := hv.int_inv
  obtain rfl := hu.int_inv
  have hb1 : c * 1 ≤ c * (bytes : Int) := Int.mul_le_mul_of_nonneg_left (by omega) (by omega)
  have hrun := run_make (P := P) w t e i zv hul hi hzv k k' l c hc1 hc2 (by rw [hib, Int.mul_comm]; omega) (by omega)
  have hz0 := zero_flat (g := g) (w := w) hzs (hzr g w) (by omega) l.toNat
  have hzl := zero_flat (g := g) (w := w) hzs (hzr g w) (by omega) c.toNat
  rw [hc4] at hz0 hzl
  have hmc : (madeCells zv.cells (c.toNat * i.size)).size = c.toNat * z := by rw [size_madeCells, his]
  obtain ⟨g', h6, h7⟩ := vec_sound hr (w.alloc (.cells (madeCells zv.cells (c.toNat * i.size)) e)) (by rw [size_alloc]; omega) (fun b hb => heap_alloc_lt _ _ _ hb) (sz := z) (e := e) (els := List.replicate l.toNat zc) (a0 := some ⟨w.heap.size, 0, none⟩) (cap := c.toNat)
    (by simp; omega) (by simp only [maxLen]; omega) (fun x hx => by rw [(List.mem_replicate.1 hx).2]; exact hc4)
    (.inr ⟨w.heap.size, _, fun i j => (madeCells zv.cells (c.toNat * z)).getD (i * z + j) .nilFunc, rfl, Nat.le_refl _, heap_alloc_new w _, ⟨hmc, fun u hu => by rw [his] at hu; exact hzl.one (fun x hx => by rw [(List.mem_replicate.1 hx).2]; exact hc4) hc5 u hu⟩, fun p j x y hx hy => by
      have hx' : (List.replicate c.toNat zc)[p]? = some x := by
        obtain ⟨h1, _⟩ := idx_lt (z := z) (fun x hx => by rw [(List.mem_replicate.1 hx).2]; exact hc4) hx hy
        rw [List.length_replicate] at h1
        rw [List.getElem?_replicate, if_pos h1] at hx
        rw [List.getElem?_replicate, if_pos (by omega), hx]
      obtain ⟨r, h8, h9⟩ := hzl.2 p j x y hx' hy
      have h8' : (madeCells zv.cells (c.toNat * z))[p * z + j]? = some r := by
        rw [← Array.getElem?_toList]
        exact h8
      rw [his]
      simp only [Array.getD_eq_getD_getElem?, h8', Option.getD_some]
      exact ⟨trivial, h9⟩⟩) dst hd
  rw [List.length_replicate] at h6
  exact ⟨_, _, g', hrun, h6, h7⟩

theorem setAt_length {α : Type} (cs vs : List α) (off : Nat) (h : off + vs.length ≤ cs.length) : (setAt cs off vs).length = cs.length := by
  simp only [setAt, List.length_append, List.length_take, List.length_drop]
  omega

theorem run_store_at {b off : Nat} {e : TypeId} {cells : Array Value} (hb : w.heap[b]? = some (.cells cells e (0, 0))) {t : TypeId} {z : Bool × Nat} (ht : tyOf P t = some z) {v : Value} (hv : v.cells.size = z.2) (hfit : off + v.cells.size ≤ cells.size)
    (h1 : ∀ u ∈ v.cells.toList, u.oneCell' = true) :
    (Instr.storeAt t (.pointer (some ⟨b, off, none⟩)) v).run P w = .ok () (w.setRow b (cells.toList.take off ++ v.cells.toList ++ cells.toList.drop (off + v.cells.toList.length)).toArray) := by
  obtain ⟨_, h2⟩ := tyOf_spec ht w
  have hl : v.cells.toList.length = v.cells.size := Array.length_toList
  have hst := run_storeCells_at P b off e v.cells.toList 0 cells w hb (by omega) h1
  rw [Nat.add_zero] at hst
  simp [Instr.storeAt, Instr.sureAddr, storeVar, h2, hv, hst]

theorem seg_get {vs us : Array Value} {off i : Nat} (h : off + us.size ≤ vs.size) : (vs.toList.take off ++ us.toList ++ vs.toList.drop (off + us.toList.length))[i]? = if off ≤ i ∧ i < off + us.size then us[i - off]? else vs[i]? := by
  have h1 : vs.toList.length = vs.size := Array.length_toList
  have h2 : us.toList.length = us.size := Array.length_toList
  have h3 : (vs.toList.take off).length = off := by rw [List.length_take]; omega
  rcases Nat.lt_or_ge i off with h4 | h4
  · rw [List.append_assoc, List.getElem?_append_left (by omega), List.getElem?_take_of_lt h4, if_neg (by omega)]
    simp
  · rw [List.append_assoc, List.getElem?_append_right (by omega), h3]
    rcases Nat.lt_or_ge i (off + us.size) with h5 | h5
    · rw [List.getElem?_append_left (by omega), if_pos ⟨h4, h5⟩]
      simp
    · rw [List.getElem?_append_right (by omega), if_neg (by omega), List.getElem?_drop, h2, show off + us.size + (i - off - us.size) = i by omega]
      simp

theorem store_sound (hr : Rel δ g s a w) {t : TypeId} {p d : D} {v u : Value} (hv : VRel g w v p) (hu : VRel g w u d) {s' : St} (h : stD P s t p d = some s') :
    ∃ w' g', (Instr.storeAt t v u).run P w = .ok () w' ∧ Rel δ g' s' a w' ∧ Step g s w g' s' w' := by
  cases p <;> simp only [stD, reduceCtorEq] at h
  case ref id off =>
    split at h <;> try cases h
    rename_i ag n cs vs ht ho hc
    split at h <;> cases h
    rename_i hcond
    obtain ⟨hc1, hc2, hc3⟩ := hcond
    cases hv with
    | ref b _ _ hb =>
      have hok := hr.o.ok id _ ho
      obtain ⟨b', e, cells, h1, h2, h3, h4⟩ := hok
      rw [hb] at h1; cases h1
      obtain ⟨h5, h6⟩ := cells_rel hu hc
      have hone : ∀ x ∈ u.cells.toList, x.oneCell' = true := fun x hx => by
        obtain ⟨k, hk, rfl⟩ := List.getElem_of_mem hx
        have hk' : k < u.cells.size := by simpa using hk
        have hd : vs[k]? = some (vs[k]'(by omega)) := List.getElem?_eq_getElem (by omega)
        have := h6 k _ _ (Array.getElem?_eq_getElem hk') hd
        exact this.one (List.all_eq_true.1 hc3 _ (List.getElem_mem (by omega)))
      have hrun := run_store_at h2 ht (v := u) (off := off) (by simp only; omega) (by omega) hone
      have hsl := fun i => seg_get (vs := cells) (us := u.cells) (off := off) (i := i) (by omega)
      have hk : Keeps g.I w (w.setRow b (cells.toList.take off ++ u.cells.toList ++ cells.toList.drop (off + u.cells.toList.length)).toArray) := fun k hk => setRow_other w b k _ (fun e => (hr.o.imm k hk).2 ⟨id, _, ho, by rw [e]; exact hb⟩)
      obtain ⟨h7, h8⟩ := hr.o.replace ho (.box (setAt cs off vs)) s.tm (.refl g) (fun b hb => hb) (fun _ _ => rfl) (fun _ _ => rfl) (w' := w.setRow b (cells.toList.take off ++ u.cells.toList ++ cells.toList.drop (off + u.cells.toList.length)).toArray) (by simp)
        (fun k _ hne => setRow_other w b k _ (fun e => hne (by rw [e]; exact hb)))
        (by
          refine ⟨b, e, _, hb, setRow_heap w b cells _ e _ h2, ?_, fun i x y hx hy => ?_⟩
          · rw [setAt_length _ _ _ (by omega)]
            have h9 : cells.toList.length = cells.size := Array.length_toList
            have h10 : u.cells.toList.length = u.cells.size := Array.length_toList
            simp only [List.size_toArray, List.length_append, List.length_take, List.length_drop]
            omega
          · rw [List.getElem?_toArray, hsl] at hx
            simp only [setAt] at hy
            have h9 : (cs.take off).length = off := by rw [List.length_take]; omega
            split at hx
            · rename_i hcc
              rw [List.append_assoc, List.getElem?_append_right (by omega), h9, List.getElem?_append_left (by omega)] at hy
              exact (h6 _ _ _ hx hy).mono hk (.refl g)
            · rename_i hcc
              rcases Nat.lt_or_ge i off with h10 | h10
              · rw [List.append_assoc, List.getElem?_append_left (by omega), List.getElem?_take_of_lt h10] at hy
                exact (h4 _ _ _ hx hy).mono hk (.refl g)
              · rw [List.append_assoc, List.getElem?_append_right (by omega), h9, List.getElem?_append_right (by omega), List.getElem?_drop, show off + vs.length + (i - off - vs.length) = i by omega] at hy
                exact (h4 _ _ _ hx hy).mono hk (.refl g))
        (fun k hk => .inl hk)
      exact ⟨_, g, hrun, hr.of h7 h8.tm rfl, h8⟩
  case eref id n sz i off =>
    split at h <;> try cases h
    rename_i ag m hd0 sz' e els vs ht ho hc
    split at h <;> try cases h
    rename_i xs hx
    split at h <;> cases h
    rename_i hcond
    obtain ⟨hc1, rfl, rfl, hc4, hc5⟩ := hcond
    cases hv with
    | eref b o _ _ _ _ _ a0 len cap hk hn hvv =>
      obtain ⟨a1, cap1, h1, h2, h3, h4, h5⟩ := hr.o.ok id _ ho
      rw [hk] at h1; cases h1
      obtain ⟨o', rfl, rfl⟩ := hvv rfl
      rcases h5 with ⟨h5, _⟩ | ⟨b', o2, cells, vs2, h5, h6, h7, h9, h8⟩
      · cases h5
      · cases h5
        obtain ⟨h10, h11⟩ := cells_toCs hu hc hx
        have hone : ∀ x ∈ u.cells.toList, x.oneCell' = true := fun x hx => by
          obtain ⟨k, hk, rfl⟩ := List.getElem_of_mem hx
          have hk' : k < u.cells.size := by simpa using hk
          have hd : xs[k]? = some (xs[k]'(by omega)) := List.getElem?_eq_getElem (by omega)
          exact (h11 k _ _ (Array.getElem?_eq_getElem hk') hd).one.1
        have hel : els[i]? = some els[i] := List.getElem?_eq_getElem hc4
        have hlen : els[i].length = sz := h4 _ (List.getElem_mem hc4)
        have hle : (i + 1) * sz ≤ cap * sz := Nat.mul_le_mul_right _ (by omega)
        rw [Nat.add_mul] at hle
        have hrun := run_store_at h6 ht (v := u) (off := o' + i * sz + off) (by simp only; omega) (by omega) hone
        have hsl := fun k => seg_get (vs := cells) (us := u.cells) (off := o' + i * sz + off) (i := k) (by omega)
        have hblk : g.blk id (.vec hd0 sz e els) = some b := by simp [G.blk, hk]
        have hkp : Keeps g.I w (w.setRow b (cells.toList.take (o' + i * sz + off) ++ u.cells.toList ++ cells.toList.drop (o' + i * sz + off + u.cells.toList.length)).toArray) := fun k hk => setRow_other w b k _ (fun e => (hr.o.imm k hk).2 ⟨id, _, ho, by rw [e]; exact hblk⟩)
        have hnew : els.getD i (zc0 P e) = els[i] := by simp [List.getD, hel]
        obtain ⟨h12, h13⟩ := hr.o.replace ho (.vec hd0 sz e (els.set i (setAt (els.getD i (zc0 P e)) off xs))) s.tm (.refl g) (fun b hb => hb) (fun _ _ => rfl) (fun _ _ => rfl) (w' := w.setRow b (cells.toList.take (o' + i * sz + off) ++ u.cells.toList ++ cells.toList.drop (o' + i * sz + off + u.cells.toList.length)).toArray) (by simp)
          (fun k _ hne => setRow_other w b k _ (fun e => hne (by rw [e]; exact hblk)))
          (by
            have hsz2 : (cells.toList.take (o' + i * sz + off) ++ u.cells.toList ++ cells.toList.drop (o' + i * sz + off + u.cells.toList.length)).toArray.size = cells.size := by
              have e1 : cells.toList.length = cells.size := Array.length_toList
              have e2 : u.cells.toList.length = u.cells.size := Array.length_toList
              simp only [List.size_toArray, List.length_append, List.length_take, List.length_drop]
              omega
            refine ⟨_, cap, by rw [List.length_set]; exact hk, by rw [List.length_set]; exact h2, h3, fun x hx => ?_, .inr ⟨b, o', _, fun p q => if p = i ∧ off ≤ q ∧ q < off + u.cells.size then u.cells.getD (q - off) .nilFunc else vs2 p q, rfl, setRow_heap w b cells _ e _ h6, by rw [hsz2]; exact h7, by rw [hsz2]; exact ⟨h9.1, fun v hv => by
              simp only [List.append_assoc, List.mem_append] at hv
              rcases hv with hv | hv
              · exact h9.2 v (List.mem_of_mem_take hv)
              · rcases hv with hv | hv
                · exact hone v hv
                · exact h9.2 v (List.mem_of_mem_drop hv)⟩, fun p q x y hxx hyy => ?_⟩⟩
            · rcases List.mem_or_eq_of_mem_set hx with h | h
              · exact h4 x h
              · rw [h, hnew, setAt_length _ _ _ (by omega)]; exact hlen
            · rw [List.getElem?_toArray, hsl]
              by_cases hp : p = i
              · subst hp
                rw [List.getElem?_set_self hc4, hnew] at hxx
                cases hxx
                simp only [setAt] at hyy
                have e1 : (els[p].take off).length = off := by rw [List.length_take]; omega
                by_cases hq : off ≤ q ∧ q < off + u.cells.size
                · rw [if_pos (by omega), show o' + p * sz + q - (o' + p * sz + off) = q - off by omega]
                  rw [List.append_assoc, List.getElem?_append_right (by omega), e1, List.getElem?_append_left (by omega)] at hyy
                  have hk' : q - off < u.cells.size := by omega
                  simp only [true_and, if_pos hq, Array.getD_eq_getD_getElem?, Array.getElem?_eq_getElem hk', Option.getD_some]
                  exact (h11 _ _ y (Array.getElem?_eq_getElem hk') hyy).mono hkp fun b hb => hb
                · rw [if_neg (by omega)]
                  have hy2 : els[p][q]? = some y := by
                    rcases Nat.lt_or_ge q off with h10 | h10
                    · rw [List.append_assoc, List.getElem?_append_left (by omega), List.getElem?_take_of_lt h10] at hyy
                      exact hyy
                    · rw [List.append_assoc, List.getElem?_append_right (by omega), e1, List.getElem?_append_right (by omega), List.getElem?_drop, show off + xs.length + (q - off - xs.length) = q by omega] at hyy
                      exact hyy
                  simp only [true_and, if_neg hq]
                  exact ⟨(h8 p q _ y hel hy2).1, (h8 p q _ y hel hy2).2.mono hkp fun b hb => hb⟩
              · rw [List.getElem?_set_ne (Ne.symm hp)] at hxx
                obtain ⟨h14, h15, _⟩ := idx_lt h4 hxx hyy
                have hno : ¬ (o' + i * sz + off ≤ o' + p * sz + q ∧ o' + p * sz + q < o' + i * sz + off + u.cells.size) := by
                  rcases Nat.lt_or_gt_of_ne hp with h6 | h6
                  · have : (p + 1) * sz ≤ i * sz := Nat.mul_le_mul_right _ h6
                    rw [Nat.add_mul] at this
                    omega
                  · have : (i + 1) * sz ≤ p * sz := Nat.mul_le_mul_right _ h6
                    rw [Nat.add_mul] at this
                    omega
                rw [if_neg hno]
                simp only [hp, false_and, if_false]
                exact ⟨(h8 p q _ y hxx hyy).1, (h8 p q _ y hxx hyy).2.mono hkp fun b hb => hb⟩)
          (fun k hk => .inl hk)
        exact ⟨_, g, hrun, hr.of h12 h13.tm rfl, h13⟩
end
end Dm
