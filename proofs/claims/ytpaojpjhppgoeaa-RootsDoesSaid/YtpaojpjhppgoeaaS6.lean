import Derived.Test.YtpaojpjhppgoeaaS5
set_option linter.unusedSimpArgs false
set_option linter.unusedVariables false
/-! Soundness, sixth part: append. -/
namespace Dm
open Go
section
variable {δ : List Deferred} {P : Program} {g g' : G} {s : St} {a : Act} {w w' : World}

theorem zcOf_spec {e : TypeId} {zc : List C} (h : zcOf P e = some zc) : ∃ i v, P.info? e = some i ∧ i.zero = some v ∧ v.cells.size = zc.length ∧
    ∀ (g : G) (w : World) (i : Nat) (u : Value) (x : C), v.cells[i]? = some u → zc[i]? = some x → CRel g.I w u x := by
  unfold zcOf zOf at h
  cases hi : P.info? e with
  | none => simp [hi] at h
  | some i =>
    cases hz : i.zero with
    | none => simp [hi, hz] at h
    | some v =>
      simp only [hi, hz] at h
      cases hc : (valD v).cells? with
      | none => simp [hc] at h
      | some cs =>
        simp only [hc] at h
        exact ⟨i, v, rfl, hz, (cells_toCs (g := ⟨fun _ => none, fun _ => none, fun _ => False⟩) (w := default) (valD_rel v) hc h).1, fun g w => (cells_toCs (valD_rel v) hc h).2⟩

/-- Elements' cells, one behind the other. -/
def Flat (I : Nat → Prop) (w : World) (z : Nat) (els : List (List C)) (xs : List Value) : Prop :=
  xs.length = els.length * z ∧ ∀ (i j : Nat) (x : List C) (y : C), els[i]? = some x → x[j]? = some y → ∃ u, xs[i * z + j]? = some u ∧ CRel I w u y

theorem Flat.one {I : Nat → Prop} {z : Nat} {els : List (List C)} {xs : List Value} (h : Flat I w z els xs) (hw : Wide z els) (hz : z ≠ 0) : ∀ u ∈ xs, u.oneCell' = true := by
  intro u hu
  obtain ⟨k, hk, rfl⟩ := List.getElem_of_mem hu
  have hk' : k < els.length * z := by rw [← h.1]; exact hk
  have hi : k / z < els.length := Nat.div_lt_of_lt_mul (by rw [Nat.mul_comm]; exact hk')
  have hj : k % z < z := Nat.mod_lt _ (by omega)
  have hx := List.getElem?_eq_getElem hi
  have hl := hw _ (List.getElem_mem hi)
  have hy : els[k / z][k % z]? = some (els[k / z][k % z]'(by omega)) := List.getElem?_eq_getElem (by omega)
  obtain ⟨u, h1, h2⟩ := h.2 _ _ _ _ hx hy
  have e : k / z * z + k % z = k := by rw [Nat.mul_comm]; exact Nat.div_add_mod k z
  rw [e, List.getElem?_eq_getElem hk] at h1
  cases h1
  exact h2.one.1

theorem Flat.append {I : Nat → Prop} {z : Nat} {els new : List (List C)} {xs ys : List Value} (h : Flat I w z els xs) (h' : Flat I w z new ys) : Flat I w z (els ++ new) (xs ++ ys) := by
  refine ⟨by simp [h.1, h'.1, Nat.add_mul], fun i j x y hx hy => ?_⟩
  rcases Nat.lt_or_ge i els.length with hi | hi
  · rw [List.getElem?_append_left hi] at hx
    obtain ⟨u, h1, h2⟩ := h.2 i j x y hx hy
    refine ⟨u, ?_, h2⟩
    have : i * z + j < xs.length := by
      rcases Nat.lt_or_ge (i * z + j) xs.length with h3 | h3
      · exact h3
      · rw [List.getElem?_eq_none h3] at h1; cases h1
    rw [List.getElem?_append_left this]
    exact h1
  · rw [List.getElem?_append_right hi] at hx
    obtain ⟨u, h1, h2⟩ := h'.2 _ j x y hx hy
    refine ⟨u, ?_, h2⟩
    have e1 : els.length * z ≤ i * z := Nat.mul_le_mul_right _ hi
    rw [List.getElem?_append_right (by rw [h.1]; omega), h.1]
    rw [Nat.sub_mul] at h1
    rw [show i * z + j - els.length * z = i * z - els.length * z + j by omega]
    exact h1

theorem mk_flat {I : Nat → Prop} {z : Nat} {els : List (List C)} (hw : Wide z els) (hz : z ≠ 0) {vs : Nat → Nat → Value} (h : ∀ (i j : Nat) (x : List C) (y : C), els[i]? = some x → x[j]? = some y → CRel I w (vs i j) y) :
    Flat I w z els ((List.range (els.length * z)).map fun k => vs (k / z) (k % z)) := by
  refine ⟨by simp, fun i j x y hx hy => ⟨vs i j, ?_, h i j x y hx hy⟩⟩
  have hi : i < els.length := by
    rcases Nat.lt_or_ge i els.length with h3 | h3
    · exact h3
    · rw [List.getElem?_eq_none h3] at hx; cases hx
  have hj : j < z := by
    have := hw x (List.mem_of_getElem? hx)
    rcases Nat.lt_or_ge j x.length with h3 | h3
    · omega
    · rw [List.getElem?_eq_none h3] at hy; cases hy
  have hk : i * z + j < els.length * z := by
    have : (i + 1) * z ≤ els.length * z := Nat.mul_le_mul_right _ hi
    rw [Nat.add_mul] at this
    omega
  have e1 : (i * z + j) / z = i := by
    rw [Nat.mul_comm, Nat.mul_add_div (by omega), Nat.div_eq_of_lt hj, Nat.add_zero]
  have e2 : (i * z + j) % z = j := by
    rw [Nat.mul_comm, Nat.mul_add_mod, Nat.mod_eq_of_lt hj]
  simp [List.getElem?_range hk, e1, e2]

/-- What a view is, in memory. -/
theorem view_spec (hr : Rel δ g s a w) {v : Value} {id c sz lo hi sz' : Nat} {hd : Bool} {e : TypeId} {els : List (List C)} (hv : VRel g w v (.view id c sz lo hi)) (ho : lk id s.os = some (.vec hd sz' e els)) (hc : c = els.length) (hsz : sz = sz') :
    ∃ a0 a' : Option Addr, v = .slice a' (hi - lo) (c - lo) ∧ lo ≤ hi ∧ hi ≤ c ∧ c ≤ maxLen ∧ Wide sz' els ∧ g.κ id = some (a0, c, c) ∧ ((a0 = none ∧ c = 0 ∧ a' = none) ∨
      ∃ (b off : Nat) (cells : Array Value) (vs : Nat → Nat → Value), a0 = some ⟨b, off, none⟩ ∧ w.heap[b]? = some (.cells cells e (0, 0)) ∧ off + c * sz' ≤ cells.size ∧ ((hd = true → off = 0 ∧ cells.size = c * sz') ∧ ∀ v ∈ cells.toList, v.oneCell' = true) ∧
        (∀ (i j : Nat) (x : List C) (y : C), els[i]? = some x → x[j]? = some y → cells[off + i * sz' + j]? = some (vs i j) ∧ CRel g.I w (vs i j) y) ∧ (lo < c ∨ lo = 0 → a' = some ⟨b, off + lo * sz', none⟩) ∧ ∃ o', a' = some ⟨b, o', none⟩) := by
  subst hsz
  cases hv with
  | view a' cap' _ _ _ _ _ a0 len cap hk hle hl hh hm hvv =>
    obtain ⟨a1, cap1, h1, h2, h3, h4, h5⟩ := hr.o.ok id _ ho
    rw [hk] at h1; cases h1
    obtain ⟨rfl, rfl, h6, h7⟩ := hvv hc
    subst hc
    refine ⟨a0, a', rfl, hl, hh, hm, h4, hk, ?_⟩
    rcases h5 with ⟨rfl, h5⟩ | ⟨b, off, cells, vs, rfl, h8, h9, h10, h11⟩
    · exact .inl ⟨rfl, h5, h6 rfl⟩
    · obtain ⟨h12, h13⟩ := h7 b off rfl
      exact .inr ⟨b, off, cells, vs, rfl, h8, h9, h10, h11, h12, h13⟩
/-- What a slice holds, in memory. -/
theorem src_spec (hr : Rel δ g s a w) {y : D} {v : Value} (hv : VRel g w v y) {new : List (List C)} (hn : s.els y = some new) {z : Nat} (hw : Wide z new) (hz : z ≠ 0) :
    ∃ ad cap xs, v = .slice ad new.length cap ∧ Flat g.I w z new xs ∧ (new = [] ∨ ∃ b o, ad = some ⟨b, o, none⟩ ∧ ∀ j u, xs[j]? = some u → w.cell? ((⟨b, o, none⟩ : Addr).add j) = some u) := by
  have nilcase : ∀ (ad : Option Addr) (cap : Nat), v = .slice ad 0 cap → new = [] → ∃ ad cap xs, v = .slice ad new.length cap ∧ Flat g.I w z new xs ∧ (new = [] ∨ ∃ b o, ad = some ⟨b, o, none⟩ ∧ ∀ j u, xs[j]? = some u → w.cell? ((⟨b, o, none⟩ : Addr).add j) = some u) := by
    intro ad cap h1 h2
    subst h2
    exact ⟨ad, cap, [], h1, ⟨by simp, fun i j x y h => by simp at h⟩, .inl rfl⟩
  have slcase : ∀ (u : Value), v = u → CRel g.I w u (.sl new) → ∃ ad cap xs, v = .slice ad new.length cap ∧ Flat g.I w z new xs ∧ (new = [] ∨ ∃ b o, ad = some ⟨b, o, none⟩ ∧ ∀ j u, xs[j]? = some u → w.cell? ((⟨b, o, none⟩ : Addr).add j) = some u) := by
    intro u hu h
    cases h with
    | slnil ad cap hc => exact nilcase ad cap hu rfl
    | sl b off cap sz _ vs hb hl hc hsz hcell hrel =>
      refine ⟨_, cap, _, hu, mk_flat hw hz hrel, ?_⟩
      by_cases he : new = []
      · exact .inl he
      · refine .inr ⟨b, off, rfl, fun j u hj => ?_⟩
        have hj' : j < new.length * z := by
          rcases Nat.lt_or_ge j (new.length * z) with h3 | h3
          · exact h3
          · rw [List.getElem?_eq_none (by simpa using h3)] at hj; cases hj
        simp only [List.getElem?_map, List.getElem?_range hj', Option.map_some, Option.some.injEq] at hj
        subst hj
        have hi : j / z < new.length := Nat.div_lt_of_lt_mul (by rw [Nat.mul_comm]; exact hj')
        have hjj : j % z < z := Nat.mod_lt _ (by omega)
        have hlen := hw _ (List.getElem_mem hi)
        have hlen2 := hsz _ (List.getElem_mem hi)
        have hy : new[j / z][j % z]? = some (new[j / z][j % z]'(by omega)) := List.getElem?_eq_getElem (by omega)
        have := hcell _ _ _ _ (List.getElem?_eq_getElem hi) hy
        rw [addr_add]
        have e1 : sz = z := by omega
        have e : j / z * z + j % z = j := by rw [Nat.mul_comm]; exact Nat.div_add_mod j z
        rw [e1] at this
        rwa [show off + j / z * z + j % z = off + j by omega] at this
  cases y <;> simp only [St.els, reduceCtorEq] at hn
  case c x =>
    cases x <;> simp only [reduceCtorEq, Option.some.injEq] at hn
    subst hn
    cases hv with
    | c _ _ hv => exact slcase _ rfl hv
  case nil =>
    cases hn
    cases hv
    exact nilcase _ _ rfl rfl
  case csl els =>
    cases hn
    cases hv with
    | csl ad _ hv => exact slcase _ rfl hv
  case vec id n =>
    split at hn
    · rename_i hd sz e els ho
      split at hn
      · rename_i he
        cases hn
        cases hv with
        | vec a' cap' _ _ a0 len cap hk hle hm ha hv =>
          obtain ⟨a1, cap1, h1, h2, h3, h4, h5⟩ := hr.o.ok id _ ho
          rw [hk] at h1; cases h1
          obtain ⟨rfl, rfl⟩ := hv he
          subst he
          rcases h5 with ⟨rfl, hc⟩ | ⟨b, off, cells, vs, rfl, h6, h7, h9, h8⟩
          · exact nilcase _ _ (by rw [show new.length = 0 by omega]) (List.eq_nil_of_length_eq_zero (by omega))
          · refine ⟨_, _, _, rfl, mk_flat hw hz (vs := vs) (fun i j x y hx hy => (h8 i j x y hx hy).2), ?_⟩
            by_cases he : new = []
            · exact .inl he
            · refine .inr ⟨b, off, rfl, fun j u hj => ?_⟩
              have hj' : j < new.length * z := by
                rcases Nat.lt_or_ge j (new.length * z) with h3 | h3
                · exact h3
                · rw [List.getElem?_eq_none (by simpa using h3)] at hj; cases hj
              simp only [List.getElem?_map, List.getElem?_range hj', Option.map_some, Option.some.injEq] at hj
              subst hj
              have hi : j / z < new.length := Nat.div_lt_of_lt_mul (by rw [Nat.mul_comm]; exact hj')
              have hjj : j % z < z := Nat.mod_lt _ (by omega)
              have hlen := hw _ (List.getElem_mem hi)
              have hlen2 := h4 _ (List.getElem_mem hi)
              have hy : new[j / z][j % z]? = some (new[j / z][j % z]'(by omega)) := List.getElem?_eq_getElem (by omega)
              have := (h8 _ _ _ _ (List.getElem?_eq_getElem hi) hy).1
              rw [addr_add]
              have e1 : sz = z := by omega
              have e : j / z * z + j % z = j := by rw [Nat.mul_comm]; exact Nat.div_add_mod j z
              rw [e1, show off + j / z * z + j % z = off + j by omega] at this
              simp only [World.cell?, h6]
              simpa using this
      · cases hn
    · cases hn
  case view id c sz lo hi =>
    split at hn
    · rename_i hd sz1 e els ho
      split at hn
      · rename_i he
        obtain ⟨he, rfl⟩ := he
        cases hn
        have hz' : ∀ x, x ∈ (els.take hi).drop lo → x.length = sz := fun x hx => by
          obtain ⟨_, _, _, _, _, h4, _⟩ := hr.o.ok id _ ho
          exact h4 x (List.mem_of_mem_take (List.mem_of_mem_drop hx))
        by_cases hne : (els.take hi).drop lo = []
        · rw [hne]
          cases hv with
          | view a' cap' _ _ _ _ _ a0 len cap hk hle hl hh hm hvv =>
            have : hi - lo = 0 := by
              have := congrArg List.length hne
              simp only [List.length_drop, List.length_take, List.length_nil] at this
              omega
            rw [this]
            exact ⟨a', cap', [], rfl, ⟨by simp, fun i j x y h => by simp at h⟩, .inl rfl⟩
        · have hsz : sz = z := by
            cases hq : (els.take hi).drop lo with
            | nil => exact absurd hq hne
            | cons x l => rw [← hz' x (by rw [hq]; simp), hw x (by rw [hq]; simp)]
          subst hsz
          cases hv with
          | view a' cap' _ _ _ _ _ a0 len cap hk hle hl hh hm hvv =>
            obtain ⟨a1, cap1, h1, h2, h3, h4, h5⟩ := hr.o.ok id _ ho
            rw [hk] at h1; cases h1
            obtain ⟨rfl, rfl, h6, h7⟩ := hvv he
            have hlen : ((els.take hi).drop lo).length = hi - lo := by simp only [List.length_drop, List.length_take]; omega
            have hlt : lo < hi := by
              rcases Nat.lt_or_ge lo hi with h | h
              · exact h
              · exact absurd (List.eq_nil_of_length_eq_zero (by omega)) hne
            rcases h5 with ⟨rfl, h5⟩ | ⟨b, off, cells, vs, rfl, h8, h9, h10, h11⟩
            · omega
            · obtain ⟨h12, _⟩ := h7 b off rfl
              refine ⟨_, _, _, by rw [hlen, h12 (.inl (by omega))], mk_flat hw hz (vs := fun i j => vs (lo + i) j) (fun i j x y hx hy => ?_), .inr ⟨b, off + lo * sz, rfl, fun j u hj => ?_⟩⟩
              · rw [List.getElem?_drop, List.getElem?_take] at hx
                split at hx
                · exact (h11 (lo + i) j x y hx hy).2
                · cases hx
              · have hj' : j < ((els.take hi).drop lo).length * sz := by
                  rcases Nat.lt_or_ge j (((els.take hi).drop lo).length * sz) with h3 | h3
                  · exact h3
                  · rw [List.getElem?_eq_none (by simpa using h3)] at hj; cases hj
                simp only [List.getElem?_map, List.getElem?_range hj', Option.map_some, Option.some.injEq] at hj
                subst hj
                have hi' : j / sz < hi - lo := Nat.div_lt_of_lt_mul (by rw [Nat.mul_comm, ← hlen]; exact hj')
                have hjj : j % sz < sz := Nat.mod_lt _ (by omega)
                have hlt2 : lo + j / sz < els.length := by omega
                have hlen2 := h4 _ (List.getElem_mem hlt2)
                have hy : els[lo + j / sz][j % sz]? = some (els[lo + j / sz][j % sz]'(by omega)) := List.getElem?_eq_getElem (by omega)
                have := (h11 _ _ _ _ (List.getElem?_eq_getElem hlt2) hy).1
                rw [addr_add]
                have e : j / sz * sz + j % sz = j := by rw [Nat.mul_comm]; exact Nat.div_add_mod j sz
                rw [Nat.add_mul, show off + (lo * sz + j / sz * sz) + j % sz = off + lo * sz + j by omega] at this
                simp only [World.cell?, h8]
                simpa using this
      · cases hn
    · cases hn

theorem run_append_zero {t : TypeId} {x : TypeId × Nat × Nat} (h : elOf P t = some x) (ty : TypeId) (base ad : Option Addr) (n cap c : Nat) (hn : n ≤ cap) :
    (Builtin.append_ #[t, t] ty #[.slice base n cap, .slice ad 0 c]).run P w = .ok (.slice base n cap) w := by
  obtain ⟨hu, i, hi, hs, _⟩ := elOf_spec h
  cases base <;> cases ad <;> simp [Builtin.append_, Go.run_underlying hu, Go.sizeOf, typeInfo, hi, Builtin.lenOf, Builtin.firstCells, loadCells, loadCellsFrom, hn, storeCells]

theorem size_drew (w : World) : w.drew.heap.size = w.heap.size := rfl
theorem size_zero (z : Value) (n : Nat) : (Builtin.zeroCells z.cells n).size = n * z.cells.size := by simp [Builtin.zeroCells]

theorem drew_old (w : World) (o : Obj) (b : Nat) (hb : b < w.heap.size) : (w.drew.alloc o).heap[b]? = w.heap[b]? := heap_alloc_lt w.drew o b hb

theorem Flat.cells {I : Nat → Prop} {z : Nat} {els : List (List C)} {xs rest : List Value} (h : Flat I w z els xs) :
    ∃ vs : Nat → Nat → Value, ∀ (i j : Nat) (x : List C) (y : C), els[i]? = some x → x[j]? = some y → (xs ++ rest).toArray[i * z + j]? = some (vs i j) ∧ CRel I w (vs i j) y := by
  refine ⟨fun i j => (xs ++ rest).getD (i * z + j) .nilFunc, fun i j x y hx hy => ?_⟩
  obtain ⟨u, h1, h2⟩ := h.2 i j x y hx hy
  have h3 : (xs ++ rest)[i * z + j]? = some u := by
    have : i * z + j < xs.length := by
      rcases Nat.lt_or_ge (i * z + j) xs.length with h3 | h3
      · exact h3
      · rw [List.getElem?_eq_none h3] at h1; cases h1
    rw [List.getElem?_append_left this, h1]
  simp only [List.getElem?_toArray, List.getD, h3, Option.getD_some]
  exact ⟨trivial, h2⟩

theorem zc_one {zv : Value} {zc : List C} (hl : zv.cells.size = zc.length) (hr : ∀ (g : G) (w : World) (i : Nat) (u : Value) (x : C), zv.cells[i]? = some u → zc[i]? = some x → CRel g.I w u x) : ∀ u ∈ zv.cells.toList, u.oneCell' = true := fun u hu => by
  obtain ⟨k, hk, rfl⟩ := List.getElem_of_mem hu
  have hk' : k < zv.cells.size := by simpa using hk
  exact (hr ⟨fun _ => none, fun _ => none, fun _ => False⟩ default k _ _ (Array.getElem?_eq_getElem hk') (List.getElem?_eq_getElem (by omega))).one.1
theorem zeroCells_one {zs : Array Value} (h : ∀ u ∈ zs.toList, u.oneCell' = true) (n : Nat) : ∀ u ∈ (Builtin.zeroCells zs n).toList, u.oneCell' = true := fun u hu => by
  simp only [Builtin.zeroCells, Array.toList_map, List.mem_map, Array.mem_toList_iff, Array.mem_range] at hu
  obtain ⟨i, hi, rfl⟩ := hu
  have hp : 0 < zs.size := by
    rcases Nat.eq_zero_or_pos zs.size with h0 | h0
    · rw [h0, Nat.mul_zero] at hi; omega
    · exact h0
  have hm := Nat.mod_lt i hp
  rw [getElem!_pos zs (i % zs.size) hm]
  exact h _ (by simp)
/-- A new row behind an append. -/
theorem grown_sound (hr : Rel δ g s a w) {e : TypeId} {z : Nat} {els : List (List C)} {xs : List Value} (hw : Wide z els) (hf : Flat g.I w z els xs) {zv : Value} (hz : zv.cells.size = z) (hz1 : ∀ u ∈ zv.cells.toList, u.oneCell' = true) (hz0 : z ≠ 0) (need old : Nat) (hneed : need = els.length) (hm : els.length ≤ maxLen)
    (dst : Option Tmp) (hd : ∀ x, dst = some x → x < a.tmps.size) (cells : Array Value) (hcells : cells = xs.toArray ++ Builtin.zeroCells zv.cells (grownCap w need old e - need)) :
    ∃ g', Rel δ g' (s.vc dst z e els) (a.put dst (.slice (some ⟨w.heap.size, 0, none⟩) els.length (grownCap w need old e))) (w.drew.alloc (.cells cells e)) ∧ Step g s w g' (s.vc dst z e els) (w.drew.alloc (.cells cells e)) := by
  subst hcells
  subst hneed
  have hge := grownCap_ge w els.length old e
  obtain ⟨vs, hvs⟩ := hf.cells (rest := (Builtin.zeroCells zv.cells (grownCap w els.length old e - els.length)).toList)
  refine vec_sound hr _ (by rw [size_alloc, size_drew]; omega) (fun b hb => drew_old _ _ _ hb) hge (grownCap_le_maxLen w _ old e hm) hw (.inr ⟨w.heap.size, _, vs, rfl, Nat.le_refl _, heap_alloc_new w.drew _, ⟨?_, fun v hv => ?_⟩, fun i j x y hx hy => ?_⟩) dst hd
  · simp only [Array.size_append, List.size_toArray, size_zero, hz, hf.1, ← Nat.add_mul]
    congr 1
    omega
  · simp only [Array.toList_append, List.mem_append] at hv
    rcases hv with hv | hv
    · exact hf.one hw hz0 v hv
    · exact zeroCells_one hz1 _ v hv
  · have := hvs i j x y hx hy
    rw [show xs.toArray ++ Builtin.zeroCells zv.cells (grownCap w els.length old e - els.length) = (xs ++ (Builtin.zeroCells zv.cells (grownCap w els.length old e - els.length)).toList).toArray by apply Array.ext'; simp]
    exact this

/-- The own cells of a slice. -/
theorem own_flat {id cap : Nat} {e : TypeId} {sz : Nat} {els : List (List C)} {a0 : Option Addr} (hk : g.κ id = some (a0, els.length, cap)) (h : OK g w id (.vec true sz e els)) (hz : sz ≠ 0) :
    els.length ≤ cap ∧ cap ≤ maxLen ∧ Wide sz els ∧ ((a0 = none ∧ cap = 0 ∧ els = []) ∨ ∃ (b : Nat) (cells : Array Value), a0 = some ⟨b, 0, none⟩ ∧ w.heap[b]? = some (.cells cells e (0, 0)) ∧ (cells.size = cap * sz ∧ ∀ v ∈ cells.toList, v.oneCell' = true) ∧ Flat g.I w sz els (cells.toList.take (els.length * sz))) := by
  obtain ⟨a1, cap1, h1, h2, h3, h4, h5⟩ := h
  rw [hk] at h1; cases h1
  refine ⟨h2, h3, h4, ?_⟩
  rcases h5 with ⟨rfl, hc⟩ | ⟨b, off, cells, vs, rfl, h6, h7, h9, h8⟩
  · exact .inl ⟨rfl, hc, List.eq_nil_of_length_eq_zero (by omega)⟩
  · obtain ⟨rfl, h10⟩ := h9.1 rfl
    refine .inr ⟨b, cells, rfl, h6, ⟨h10, h9.2⟩, ?_, fun i j x y hx hy => ⟨vs i j, ?_, (h8 i j x y hx hy).2⟩⟩
    · have : els.length * sz ≤ cap * sz := Nat.mul_le_mul_right _ h2
      have hcl : cells.toList.length = cells.size := Array.length_toList
      rw [List.length_take, hcl, h10]
      omega
    · have hi : i < els.length := by
        rcases Nat.lt_or_ge i els.length with h3 | h3
        · exact h3
        · rw [List.getElem?_eq_none h3] at hx; cases hx
      have hj : j < sz := by
        have := h4 x (List.mem_of_getElem? hx)
        rcases Nat.lt_or_ge j x.length with h3 | h3
        · omega
        · rw [List.getElem?_eq_none h3] at hy; cases hy
      have hlt : i * sz + j < els.length * sz := by
        have : (i + 1) * sz ≤ els.length * sz := Nat.mul_le_mul_right _ hi
        rw [Nat.add_mul] at this
        omega
      have := (h8 i j x y hx hy).1
      rw [Nat.zero_add] at this
      rw [List.getElem?_take_of_lt hlt]
      simpa using this

/-- A slice of its own, longer. -/
theorem regrow_sound (hr : Rel δ g s a w) {id : Nat} {hd : Bool} {sz : Nat} {e : TypeId} {els els' : List (List C)} (ho : lk id s.os = some (.vec hd sz e els)) {a0 a1 : Option Addr} {cap cap1 : Nat} (hk : g.κ id = some (a0, els.length, cap))
    (w' : World) (hsz : w.heap.size ≤ w'.heap.size) (hs : ∀ b, b < w.heap.size → g.blk id (.vec hd sz e els) ≠ some b → w'.heap[b]? = w.heap[b]?)
    (hl : els.length ≤ els'.length) (hle : els.length = els'.length → a0 = a1 ∧ cap = cap1) (h1 : els'.length ≤ cap1) (h2 : cap1 ≤ maxLen) (h3 : Wide sz els')
    (h4 : (a1 = none ∧ cap1 = 0) ∨ ∃ (b : Nat) (cells : Array Value) (xs rest : List Value), a1 = some ⟨b, 0, none⟩ ∧ (g.blk id (.vec hd sz e els) = some b ∨ w.heap.size ≤ b) ∧ w'.heap[b]? = some (.cells cells e (0, 0)) ∧ (cells.size = cap1 * sz ∧ ∀ v ∈ cells.toList, v.oneCell' = true) ∧ cells.toList = xs ++ rest ∧ Flat g.I w sz els' xs)
    (dst : Option Tmp) (hdst : ∀ x, dst = some x → x < a.tmps.size) (he : Env w w' := by exact ⟨rfl, rfl, rfl⟩) :
    ∃ g', Rel δ g' (({ s with os := upd id (.vec hd sz e els') s.os } : St).put dst (.vec id els'.length)) (a.put dst (.slice a1 els'.length cap1)) w' ∧ Step g s w g' (({ s with os := upd id (.vec hd sz e els') s.os } : St).put dst (.vec id els'.length)) w' := by
  have hle' : g.Le (g.vec id (a1, els'.length, cap1)) := ⟨fun id b hb => hb, fun j x l c hj => by
    by_cases h : j = id
    · subst h
      rw [hk] at hj; cases hj
      exact ⟨a1, els'.length, cap1, by simp [G.vec], hl, hle⟩
    · exact ⟨x, l, c, by simp [G.vec, h, hj], Nat.le_refl _, fun _ => ⟨rfl, rfl⟩⟩, fun b hb => hb⟩
  have hkp : Keeps g.I w w' := fun b hb => hs b (hr.o.imm b hb).1 fun e => (hr.o.imm b hb).2 ⟨_, _, ho, e⟩
  obtain ⟨h5, h6⟩ := hr.o.replace ho (.vec hd sz e els') s.tm hle' (fun b hb => hb) (fun i hi => rfl) (fun i hi => by simp [G.vec, hi]) (w' := w') (he := he) hsz hs
    (by
      refine ⟨a1, cap1, by simp [G.vec], h1, h2, h3, ?_⟩
      rcases h4 with h4 | ⟨b, cells, xs, rest, rfl, h5, h6, h7, h8, h9⟩
      · exact .inl h4
      · obtain ⟨vs, hvs⟩ := h9.cells (rest := rest)
        rw [← h8] at hvs
        exact .inr ⟨b, 0, cells, vs, rfl, h6, by omega, ⟨fun _ => ⟨rfl, h7.1⟩, h7.2⟩, fun i j x y hx hy => ⟨by rw [Nat.zero_add]; simpa using (hvs i j x y hx hy).1, (hvs i j x y hx hy).2.mono hkp fun b hb => hb⟩⟩)
    (fun b hb => by
      rcases h4 with ⟨rfl, _⟩ | ⟨b, cells, xs, rest, rfl, h5, _⟩
      · simp [G.blk, G.vec] at hb
      · simp [G.blk, G.vec] at hb; subst hb; exact h5)
  have h7 : Rel δ (g.vec id (a1, els'.length, cap1)) ⟨s.tm, upd id (.vec hd sz e els') s.os, s.nx⟩ a w' := hr.of h5 h6.tm rfl
  have h8 := h7.put dst (v := .slice a1 els'.length cap1) (d := .vec id els'.length) (.vec a1 cap1 _ _ a1 els'.length cap1 (by simp [G.vec]) (Nat.le_refl _) (by omega) (by
    rcases h4 with ⟨rfl, h4⟩ | ⟨b, cells, xs, rest, rfl, h5, _⟩
    · exact .inl (by omega)
    · exact .inr ⟨b, 0, rfl⟩) fun _ => ⟨rfl, rfl⟩) hdst
  exact ⟨_, h8, by cases dst <;> exact h6.tm⟩

theorem app_sound (hr : Rel δ g s a w) {t : TypeId} {x y : D} {v u : Value} (hv : VRel g w v x) (hu : VRel g w u y) (dst : Option Tmp) (hd : ∀ x, dst = some x → x < a.tmps.size)
    {C0 : Prop} {s' : St} (h : appD P s t dst x y = some (C0, s')) (hc : C0) (ty : TypeId) :
    ∃ r w' g', (Builtin.append_ #[t, t] ty #[v, u]).run P w = .ok r w' ∧ Rel δ g' s' (a.put dst r) w' ∧ Step g s w g' s' w' := by
  unfold appD at h
  split at h
  · rename_i e z bytes new he hn
    split at h
    · rename_i zc hzc
      split at h
      · rename_i hz
        obtain ⟨hz1, hz2, hz3⟩ := hz
        obtain ⟨hul, i, hi, his, hib⟩ := elOf_spec he
        obtain ⟨i', zv, hi', hzv, hzs, hzr⟩ := zcOf_spec hzc
        simp only at hul hi his hib
        rw [hi] at hi'
        cases hi'
        have hzo := zc_one hzs hzr
        subst his
        subst hib
        have hm2 : ∀ k, k * i.bytes ≤ 140737488355328 → k ≤ maxLen ∧ (k : Int) ≤ 9223372036854775807 := fun k hk => by
          have : k * 1 ≤ k * i.bytes := Nat.mul_le_mul_left _ (by omega)
          have h2 : maxLen = 9223372036854775807 := by decide
          constructor <;> omega
        split at h
        · -- nil
          simp only [Option.some.injEq, Prod.mk.injEq] at h
          obtain ⟨rfl, rfl⟩ := h
          obtain ⟨hw, hb⟩ := hc
          cases hv
          obtain ⟨ad, c, xs, rfl, hf, hcase⟩ := src_spec hr hu hn hw hz2
          by_cases he0 : new = []
          · subst he0
            obtain ⟨g', h1, h2⟩ := vec_sound hr w (Nat.le_refl _) (fun _ _ => rfl) (sz := i.size) (e := e) (els := []) (a0 := none) (cap := 0) (Nat.le_refl _) (by simp) (by simp) (.inl ⟨rfl, rfl⟩) dst hd
            exact ⟨_, w, g', run_append_zero he ty none ad 0 0 c (Nat.le_refl _), h1, h2⟩
          · rcases hcase with h0 | ⟨b, o, rfl, hcell⟩
            · exact absurd h0 he0
            · have hpos : 0 < new.length := by
                rcases Nat.eq_zero_or_pos new.length with h | h
                · exact absurd (List.eq_nil_of_length_eq_zero h) he0
                · exact h
              have hrun := run_append_nil (P := P) w t ty e i zv hul hi hzv ⟨b, o, none⟩ new.length c xs hf.1 hcell hpos (hm2 _ hb).2 (by omega)
              obtain ⟨g', h1, h2⟩ := grown_sound hr hw hf (zv := zv) (by omega) hzo hz2 new.length 0 rfl (hm2 _ hb).1 dst hd _ rfl
              exact ⟨_, _, g', hrun, h1, h2⟩
        · -- clipped
          rename_i els
          simp only [Option.some.injEq, Prod.mk.injEq] at h
          obtain ⟨rfl, rfl⟩ := h
          obtain ⟨hw0, hw, hne, hb⟩ := hc
          have hv0 := hv
          cases hv with
          | csl a0 _ hv =>
            obtain ⟨ad, c, xs, rfl, hf, hcase⟩ := src_spec hr hu hn hw hz2
            obtain ⟨ad', c', xs', hq, hf', hcase'⟩ := src_spec hr hv0 (new := els) rfl hw0 hz2
            cases hq
            rcases hcase with h0 | ⟨b, o, rfl, hcell⟩
            · exact absurd h0 hne
            · have hpos : 0 < new.length := by
                rcases Nat.eq_zero_or_pos new.length with h | h
                · exact absurd (List.eq_nil_of_length_eq_zero h) hne
                · exact h
              have hlen : (els ++ new).length = els.length + new.length := List.length_append
              have hww : Wide i.size (els ++ new) := fun x hx => by
                rcases List.mem_append.1 hx with h | h
                · exact hw0 x h
                · exact hw x h
              by_cases he0 : els = []
              · subst he0
                simp only [List.nil_append, List.length_nil] at hb ⊢
                cases a0 with
                | none =>
                  have hrun := run_append_nil (P := P) w t ty e i zv hul hi hzv ⟨b, o, none⟩ new.length c xs hf.1 hcell hpos (hm2 _ (by simpa using hb)).2 (by simp at hb; omega)
                  obtain ⟨g', h1, h2⟩ := grown_sound hr hw hf (zv := zv) (by omega) hzo hz2 new.length 0 rfl (hm2 _ (by simpa using hb)).1 dst hd _ rfl
                  exact ⟨_, _, g', hrun, h1, h2⟩
                | some b0 =>
                  have hrun := run_append_grow (P := P) w t ty e i zv hul hi hzv b0 0 0 [] (by simp) (by simp) ⟨b, o, none⟩ new.length c xs hf.1 hcell (by omega) (hm2 _ hb).2 (growslice_fits (by omega) hb)
                  simp only [Nat.zero_add] at hrun
                  obtain ⟨g', h1, h2⟩ := grown_sound hr (e := e) hw hf (zv := zv) (by omega) hzo hz2 new.length 0 rfl (hm2 _ (by simpa using hb)).1 dst hd (#[] ++ xs.toArray ++ Builtin.zeroCells zv.cells (grownCap w new.length 0 e - new.length)) (by simp)
                  exact ⟨_, _, g', hrun, h1, h2⟩
              · rcases hcase' with h0 | ⟨b', o', rfl, hcell'⟩
                · exact absurd h0 he0
                · have hrun := run_append_grow (P := P) w t ty e i zv hul hi hzv ⟨b', o', none⟩ els.length els.length xs' hf'.1 hcell' ⟨b, o, none⟩ new.length c xs hf.1 hcell (by omega) (hm2 _ hb).2 (growslice_fits (by omega) hb)
                  obtain ⟨g', h1, h2⟩ := grown_sound hr (e := e) hww (hf'.append hf) (zv := zv) (by omega) hzo hz2 (els.length + new.length) els.length hlen.symm (by rw [hlen]; exact (hm2 _ hb).1) dst hd
                    (xs'.toArray ++ xs.toArray ++ Builtin.zeroCells zv.cells (grownCap w (els.length + new.length) els.length e - (els.length + new.length))) (by apply Array.ext'; simp)
                  rw [hlen] at h1
                  exact ⟨_, _, g', hrun, h1, h2⟩
        · -- grows
          rename_i id n
          split at h <;> try cases h
          rename_i hd0 sz e' els ho
          obtain ⟨rfl, rfl, rfl, rfl, hw, hb⟩ := hc
          have hv0 := hv
          cases hv with
          | vec a' cap' _ _ a0 len cap hk hle hm ha hvq =>
            have hok := hr.o.ok id _ ho
            have hk' := hk
            obtain ⟨a1, cap1, hk1, _⟩ := hok
            rw [hk] at hk1; cases hk1
            obtain ⟨rfl, rfl⟩ := hvq rfl
            obtain ⟨h2, h3, hw0, h5⟩ := own_flat hk (hr.o.ok id _ ho) hz2
            obtain ⟨ad, c, xs, rfl, hf, hcase⟩ := src_spec hr hu hn hw hz2
            have hlen : (els ++ new).length = els.length + new.length := List.length_append
            have hww : Wide i.size (els ++ new) := fun x hx => by
              rcases List.mem_append.1 hx with h | h
              · exact hw0 x h
              · exact hw x h
            have hput : ∀ (k : Nat), k = (els ++ new).length → ({ s with os := upd id (.vec true i.size e (els ++ new)) s.os } : St).put dst (.vec id (els.length + new.length)) = ({ s with os := upd id (.vec true i.size e (els ++ new)) s.os } : St).put dst (.vec id (els ++ new).length) := fun k _ => by rw [hlen]
            rw [hput _ rfl]
            have hbm := hm2 _ hb
            have hres : ∀ (r : Value) (w' : World) (a1 : Option Addr) (cap1 : Nat), (Builtin.append_ #[t, t] ty #[.slice a' els.length cap', .slice ad new.length c]).run P w = .ok (.slice a1 (els ++ new).length cap1) w' →
                (∃ g', Rel δ g' (({ s with os := upd id (.vec true i.size e (els ++ new)) s.os } : St).put dst (.vec id (els ++ new).length)) (a.put dst (.slice a1 (els ++ new).length cap1)) w' ∧ Step g s w g' (({ s with os := upd id (.vec true i.size e (els ++ new)) s.os } : St).put dst (.vec id (els ++ new).length)) w') →
                ∃ r w' g', (Builtin.append_ #[t, t] ty #[.slice a' els.length cap', .slice ad new.length c]).run P w = .ok r w' ∧ Rel δ g' (({ s with os := upd id (.vec true i.size e (els ++ new)) s.os } : St).put dst (.vec id (els ++ new).length)) (a.put dst r) w' ∧ Step g s w g' (({ s with os := upd id (.vec true i.size e (els ++ new)) s.os } : St).put dst (.vec id (els ++ new).length)) w' :=
              fun r w' a1 cap1 h1 ⟨g', h2, h3⟩ => ⟨_, w', g', h1, h2, h3⟩
            by_cases he0 : new = []
            · subst he0
              refine hres .nilFunc w a' cap' (by rw [hlen]; exact run_append_zero he ty a' ad els.length cap' c h2) ?_
              refine regrow_sound hr ho hk w (Nat.le_refl _) (fun _ _ _ => rfl) (by omega) (fun _ => ⟨rfl, rfl⟩) (by rw [hlen]; simpa using h2) h3 hww ?_ dst hd
              rcases h5 with ⟨h5, h6, h7⟩ | ⟨b, cells, h5, h6, h7, h8⟩
              · exact .inl ⟨h5, h6⟩
              · exact .inr ⟨b, cells, _, cells.toList.drop (els.length * i.size), h5, .inl (by simp [G.blk, hk, h5]), h6, h7, (List.take_append_drop _ _).symm, by simpa using h8⟩
            · rcases hcase with h0 | ⟨b', o', rfl, hcell⟩
              · exact absurd h0 he0
              · have hpos : 0 < new.length := by
                  rcases Nat.eq_zero_or_pos new.length with h | h
                  · exact absurd (List.eq_nil_of_length_eq_zero h) he0
                  · exact h
                have hgrow : ∀ (xs' : List Value) (cells : Array Value) (old : Nat), Flat g.I w i.size els xs' → cells = (xs' ++ xs).toArray ++ Builtin.zeroCells zv.cells (grownCap w (els ++ new).length old e - (els ++ new).length) →
                    ∃ g', Rel δ g' (({ s with os := upd id (.vec true i.size e (els ++ new)) s.os } : St).put dst (.vec id (els ++ new).length)) (a.put dst (.slice (some ⟨w.heap.size, 0, none⟩) (els ++ new).length (grownCap w (els ++ new).length old e))) (w.drew.alloc (.cells cells e)) ∧ Step g s w g' (({ s with os := upd id (.vec true i.size e (els ++ new)) s.os } : St).put dst (.vec id (els ++ new).length)) (w.drew.alloc (.cells cells e)) := by
                  intro xs' cells old hf' hcl
                  have hge := grownCap_ge w (els ++ new).length old e
                  refine regrow_sound hr ho hk _ (by rw [size_alloc, size_drew]; omega) (fun b hb _ => drew_old _ _ _ hb) (by omega) (fun h => by omega) hge (grownCap_le_maxLen w _ old e (by rw [hlen]; exact hbm.1)) hww (.inr ⟨w.heap.size, cells, xs' ++ xs, (Builtin.zeroCells zv.cells (grownCap w (els ++ new).length old e - (els ++ new).length)).toList, rfl, .inr (Nat.le_refl _), heap_alloc_new w.drew _, ⟨?_, fun v hv => ?_⟩, by rw [hcl]; simp, hf'.append hf⟩) dst hd
                  · rw [hcl]
                    have := (hf'.append hf).1
                    simp only [Array.size_append, List.size_toArray, size_zero, this]
                    rw [show zv.cells.size = i.size by omega, ← Nat.add_mul]
                    congr 1
                    omega
                  · rw [hcl] at hv
                    simp only [Array.toList_append, List.mem_append] at hv
                    rcases hv with hv | hv
                    · exact (hf'.append hf).one hww hz2 v (List.mem_append.2 hv)
                    · exact zeroCells_one hzo _ v hv
                rcases h5 with ⟨rfl, rfl, rfl⟩ | ⟨b, cells, rfl, h6, h7, h8⟩
                · refine hres .nilFunc _ _ _ ?_ (hgrow [] _ 0 ⟨by simp, fun i j x y h => by simp at h⟩ rfl)
                  simpa using run_append_nil (P := P) w t ty e i zv hul hi hzv ⟨b', o', none⟩ new.length c xs hf.1 hcell hpos (by simpa using hbm.2) (by simp at hb; omega)
                · by_cases hroom : els.length + new.length ≤ cap'
                  · have hfit : els.length * i.size + xs.length ≤ cells.size := by rw [hf.1, h7.1, ← Nat.add_mul]; exact Nat.mul_le_mul_right _ hroom
                    refine hres .nilFunc _ _ _ (by rw [hlen]; exact run_append_room (P := P) w t ty e i hul hi b els.length cap' cells h6 ⟨b', o', none⟩ new.length c xs hf.1 hcell (hf.one hw hz2) hroom hfit) ?_
                    refine regrow_sound hr ho hk _ (by simp) (fun k hkk hne => setRow_other w b k _ (fun e => hne (by simp [G.blk, hk, e]))) (by omega) (fun h => by omega) (by omega) h3 hww
                      (.inr ⟨b, _, cells.toList.take (els.length * i.size) ++ xs, cells.toList.drop (els.length * i.size + xs.length), rfl, .inl (by simp [G.blk, hk]), setRow_heap w b cells _ e _ h6, ⟨?_, fun v hv => ?_⟩, by simp, h8.append hf⟩) dst hd
                    · have hcl : cells.toList.length = cells.size := Array.length_toList
                      obtain ⟨h7, _⟩ := h7
                      simp only [List.size_toArray, List.length_append, List.length_take, List.length_drop, hcl]
                      omega
                    · simp only [List.append_assoc, List.mem_append] at hv
                      rcases hv with hv | hv
                      · exact h7.2 v (List.mem_of_mem_take hv)
                      · rcases hv with hv | hv
                        · exact hf.one hw hz2 v hv
                        · exact h7.2 v (List.mem_of_mem_drop hv)
                  · have holds : ∀ j u, (cells.toList.take (els.length * i.size))[j]? = some u → w.cell? ((⟨b, 0, none⟩ : Addr).add j) = some u := fun j u hj => by
                      rw [List.getElem?_take] at hj
                      split at hj
                      · rw [addr_add]; simp only [World.cell?, h6]; simpa using hj
                      · cases hj
                    have hrun := run_append_grow (P := P) w t ty e i zv hul hi hzv ⟨b, 0, none⟩ els.length cap' _ h8.1 holds ⟨b', o', none⟩ new.length c xs hf.1 hcell (by omega) hbm.2 (growslice_fits (by omega) hb)
                    rw [← hlen] at hrun
                    exact hres .nilFunc _ _ _ hrun (hgrow _ _ cap' h8 (by apply Array.ext'; simp))
        · cases h
      · cases h
    · cases h
  · cases h
end
end Dm
