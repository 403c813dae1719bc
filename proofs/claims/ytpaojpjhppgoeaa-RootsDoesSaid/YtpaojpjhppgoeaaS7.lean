import Derived.Test.YtpaojpjhppgoeaaS6
set_option linter.unusedSimpArgs false
set_option linter.unusedVariables false
/-! Soundness, seventh part: build, make, store. -/
namespace Dm
open Go
section
variable {P : Program} {g g' : G} {s : St} {a : Act} {w w' : World}

/-- Values and cells fit. -/
def PW (g : G) (w : World) (vs : Array Value) (ds : List D) : Prop := vs.size = ds.length ∧ ∀ (i : Nat) (v : Value) (d : D), vs[i]? = some v → ds[i]? = some d → VRel g w v d

theorem foldl_set_size (off : Nat) : ∀ (l : List (Value × Nat)) (cs : Array Value), (l.foldl (fun cs x => cs.setIfInBounds (off + x.2) x.1) cs).size = cs.size
  | [], cs => rfl
  | x :: l, cs => by simp [foldl_set_size off l]

theorem foldl_set_get (off : Nat) (vs : List Value) : ∀ (k : Nat) (l : List Value) (cs : Array Value) (i : Nat), (∀ j, l[j]? = vs[k + j]?) → off + k + l.length ≤ cs.size →
    ((l.zipIdx k).foldl (fun cs x => cs.setIfInBounds (off + x.2) x.1) cs)[i]? = if off + k ≤ i ∧ i < off + k + l.length then l[i - off - k]? else cs[i]?
  | k, [], cs, i, _, _ => by
    simp only [List.zipIdx_nil, List.foldl_nil, List.length_nil, Nat.add_zero]
    split
    · omega
    · rfl
  | k, x :: l, cs, i, hj, hl => by
    simp only [List.zipIdx_cons, List.foldl_cons]
    rw [foldl_set_get off vs (k + 1) l _ i (fun j => by have := hj (j + 1); rw [List.getElem?_cons_succ] at this; rw [this]; congr 1; omega) (by simp at hl ⊢; omega)]
    simp only [List.length_cons] at hl ⊢
    by_cases h1 : off + (k + 1) ≤ i ∧ i < off + (k + 1) + l.length
    · rw [if_pos h1, if_pos (by omega), show i - off - k = (i - off - (k + 1)) + 1 by omega, List.getElem?_cons_succ]
    · rw [if_neg h1]
      by_cases h2 : i = off + k
      · subst h2
        rw [if_pos (by omega), show off + k - off - k = 0 by omega, Array.getElem?_setIfInBounds_self, if_pos (by omega)]
        rfl
      · rw [if_neg (by omega), Array.getElem?_setIfInBounds_ne (by omega)]

theorem PW.set {vs us : Array Value} {cs ds : List D} (h : PW g w vs cs) (hu : PW g w us ds) {off : Nat} (hle : off + us.size ≤ vs.size) :
    PW g w (us.zipIdx.foldl (fun cs (c, j) => cs.setIfInBounds (off + j) c) vs) (setAt cs off ds) := by
  have e : us.zipIdx.foldl (fun cs (c, j) => cs.setIfInBounds (off + j) c) vs = (us.toList.zipIdx 0).foldl (fun cs x => cs.setIfInBounds (off + x.2) x.1) vs := by
    rw [← Array.foldl_toList, Array.toList_zipIdx]
  rw [e]
  have hul : us.toList.length = us.size := Array.length_toList
  have hget := fun i => foldl_set_get off us.toList 0 us.toList vs i (fun j => by rw [Nat.zero_add]) (by rw [hul]; omega)
  have h1 := h.1
  have h2 := hu.1
  refine ⟨?_, fun i v d hv hd => ?_⟩
  · rw [foldl_set_size]
    simp only [setAt, List.length_append, List.length_take, List.length_drop]
    omega
  · rw [hget i] at hv
    simp only [setAt] at hd
    have hlt : (cs.take off).length = off := by rw [List.length_take]; omega
    split at hv
    · rename_i hc
      rw [List.append_assoc, List.getElem?_append_right (by omega), hlt, List.getElem?_append_left (by omega)] at hd
      rw [Nat.sub_zero] at hv
      exact hu.2 _ _ _ (by simpa using hv) hd
    · rename_i hc
      rcases Nat.lt_or_ge i off with h3 | h3
      · rw [List.append_assoc, List.getElem?_append_left (by omega), List.getElem?_take_of_lt h3] at hd
        exact h.2 _ _ _ hv hd
      · rw [List.append_assoc, List.getElem?_append_right (by omega), hlt, List.getElem?_append_right (by omega), List.getElem?_drop] at hd
        rw [show off + ds.length + (i - off - ds.length) = i by omega] at hd
        exact h.2 _ _ _ hv hd

theorem fill_sound (place : Nat → Option (Nat × Nat)) : ∀ (ps : List (Nat × Value)) (qs : List (Nat × D)) (vs : Array Value) (cs ds : List D), ps.length = qs.length →
    (∀ (k : Nat) (i : Nat) (v : Value) (j : Nat) (d : D), ps[k]? = some (i, v) → qs[k]? = some (j, d) → i = j ∧ VRel g w v d) → PW g w vs cs → fillD place cs qs = some ds →
    ∃ us, Instr.fill place vs ps = some us ∧ PW g w us ds
  | [], [], vs, cs, ds, _, _, h, hf => by
    simp only [fillD, Option.some.injEq] at hf
    subst hf
    exact ⟨vs, rfl, h⟩
  | (i, v) :: ps, (j, d) :: qs, vs, cs, ds, hl, hp, h, hf => by
    obtain ⟨rfl, hv⟩ := hp 0 i v j d rfl rfl
    simp only [fillD] at hf
    split at hf
    · rename_i off size xs hpl hc
      split at hf
      · rename_i hcond
        obtain ⟨h1, h2⟩ := cells_rel hv hc
        have h3 := h.1
        obtain ⟨us, h4, h5⟩ := fill_sound place ps qs _ _ ds (by simpa using hl) (fun k => hp (k + 1)) (h.set ⟨h1, h2⟩ (off := off) (by omega)) hf
        refine ⟨us, ?_, h5⟩
        simp only [Instr.fill, hpl]
        rw [if_neg (by simp; omega)]
        exact h4
      · cases hf
    · cases hf

theorem plcOf_spec {t : TypeId} (hb : bldOk P t = true) {ps : List (Nat × Value)} {z : Value} {i : TypeInfo} (hi : P.info? t = some i) (hz : i.zero = some z) {us : Array Value} (h : Instr.fill (plcOf P t) z.cells ps = some us) :
    P.built t ps = some us := by
  unfold bldOk at hb
  unfold Program.built
  rw [hi]
  cases hu : P.underlying t with
  | none => simp [hu] at hb
  | some d =>
    simp only [hu] at hb
    cases d <;> simp only at hb ⊢ <;> try (cases hb; done)
    case array n e =>
      obtain ⟨ie, hie⟩ := Option.isSome_iff_exists.1 hb
      simp only [hz, hie]
      rw [← h]
      congr 1
      funext k
      simp [plcOf, hu, hie]
    case struct fields =>
      have hall : ∀ f ∈ fields.toList, (P.info? f.type).isSome = true := List.all_eq_true.1 hb
      have hm : ∀ (fs : List Field), (∀ f ∈ fs, (P.info? f.type).isSome = true) → ∃ places, fs.mapM (fun f => (P.info? f.type).map fun i => (f.offset, i.size)) = some places ∧ ∀ (k : Nat), places[k]? = (fs[k]?).bind fun (f : Field) => (P.info? f.type).map fun i => (f.offset, i.size) := by
        intro fs
        induction fs with
        | nil => intro _; exact ⟨[], by simp, by simp⟩
        | cons f fs ih =>
          intro h
          obtain ⟨ie, hie⟩ := Option.isSome_iff_exists.1 (h f (by simp))
          obtain ⟨places, h1, h2⟩ := ih (fun f hf => h f (by simp [hf]))
          refine ⟨(f.offset, ie.size) :: places, by simp [List.mapM_cons, hie, h1], fun k => ?_⟩
          cases k with
          | zero => simp [hie]
          | succ k => simpa using h2 k
      obtain ⟨places, h1, h2⟩ := hm fields.toList hall
      simp only [hz, h1]
      rw [← h]
      congr 1
      funext k
      have := h2 k
      simp only [List.getElem?_toArray, this, plcOf, hu]
      rw [Array.getElem?_toList]
      cases fields[k]? with
      | none => rfl
      | some f => simp only [Option.bind_some]; cases P.info? f.type <;> rfl

theorem build_sound {t : TypeId} {ps : List (Nat × Value)} {qs : List (Nat × D)} {d : D} (hl : ps.length = qs.length)
    (hp : ∀ (k : Nat) (i : Nat) (v : Value) (j : Nat) (d : D), ps[k]? = some (i, v) → qs[k]? = some (j, d) → i = j ∧ VRel g w v d) (h : buildD P t qs = some d) (ps' : Array (Nat × Value)) (hps : ps'.toList = ps) :
    ∃ r, Runs P (Instr.build t ps') w r ∧ VRel g w r d := by
  unfold buildD at h
  split at h
  · rename_i cs hb
    split at h
    · rename_i ds hf
      cases h
      have hb' := hb
      unfold bldOf at hb'
      obtain ⟨hz, hbo⟩ : zOf P t = some (.agg cs) ∧ bldOk P t = true := by
        split at hb'
        · rename_i hz
          split at hb'
          · cases hb'; exact ⟨hz, by assumption⟩
          · cases hb'
        · cases hb'
      unfold zOf at hz
      cases hi : P.info? t with
      | none => simp [hi] at hz
      | some i =>
        cases hzz : i.zero with
        | none => simp [hi, hzz] at hz
        | some z =>
          simp only [hi, hzz, Option.some.injEq] at hz
          have hrel : VRel g w z (.agg cs) := by rw [← hz]; exact valD_rel z
          have hpw : PW g w z.cells cs := cells_rel hrel rfl
          obtain ⟨us, h1, h2⟩ := fill_sound (plcOf P t) ps qs _ _ _ hl hp hpw hf
          have := plcOf_spec hbo hi hzz h1
          exact ⟨.agg us, fun w' _ => run_build w' t ps' us (by rw [hps]; exact this), .agg _ _ h2.1 h2.2⟩
    · cases h
  · cases h
end
end Dm
