import Derived.Test.YtpaojpjhppgoeaaS1
import Derived.Laws.StructEq
set_option linter.unusedSimpArgs false
set_option linter.unusedVariables false
/-! Soundness, second part: operations that only compute and read. -/
namespace Dm
open Go
section
variable {P : Program} {g : G} {s : St} {a : Act} {w : World}

theorem fldOf_spec {t : TypeId} {f o : Nat} (h : fldOf P t f = some o) (b off : Nat) (w : World) :
    (Instr.fieldAt t (.pointer (some ⟨b, off, none⟩)) f).run P w = .ok (.pointer (some ⟨b, off + o, none⟩)) w := by
  unfold fldOf at h
  cases hu : P.underlying t with
  | none => simp [hu] at h
  | some d =>
    rw [hu] at h
    cases d <;> simp only [reduceCtorEq] at h
    rename_i fs
    cases hf : fs[f]? with
    | none => simp [hf] at h
    | some d =>
      simp only [hf] at h
      cases hi : P.info? d.type with
      | none => simp [hi] at h
      | some i =>
        simp only [hi] at h
        split at h
        · cases h
        · rename_i hz
          cases h
          have e : (Addr.add ⟨b, off, none⟩ d.offset) = ⟨b, off + d.offset, none⟩ := by
            unfold Addr.add; split
            · rename_i h0; rw [h0]; rfl
            · rfl
          simp [Instr.fieldAt, Go.underlying, hu, hf, Instr.sureAddr, fieldPlace, Go.sizeOf, typeInfo, hi, hz, e]

theorem fad_sound {t : TypeId} {f : Nat} {p d : D} {v : Value} (hv : VRel g w v p) (hd : fadD P t f p = some d) :
    ∃ u, Runs P (Instr.fieldAt t v f) w u ∧ VRel g w u d := by
  cases p <;> simp only [fadD, reduceCtorEq] at hd
  case ref id off =>
    split at hd <;> cases hd
    rename_i o ho
    cases hv with
    | ref b _ _ hb => exact ⟨_, fun w' _ => fldOf_spec ho _ _ w', .ref b id _ hb⟩
  case eref id n sz i off =>
    split at hd <;> cases hd
    rename_i o ho
    cases hv with
    | eref b o1 _ _ _ _ _ a0 len cap hk hn hv =>
      refine ⟨_, fun w' _ => fldOf_spec ho _ _ w', .eref _ _ _ _ _ _ _ _ _ _ hk hn fun e => ?_⟩
      obtain ⟨o', h1, rfl⟩ := hv e
      exact ⟨o', h1, by omega⟩
  case rp cs =>
    split at hd <;> cases hd
    rename_i o ho
    cases hv with
    | rp b off _ vs hI hcell =>
      refine ⟨_, fun w' _ => fldOf_spec ho _ _ w', .rp b (off + o) _ (fun j => vs (o + j)) hI fun j y hy => ?_⟩
      rw [List.getElem?_drop] at hy
      have := hcell (o + j) y hy
      rwa [show off + (o + j) = off + o + j by omega] at this

theorem agg_cell {vs : Array Value} {ds : List D} (h : vs.size = ds.length) {i : Nat} {d : D} (hd : ds[i]? = some d) : ∃ v, vs[i]? = some v := by
  have : i < vs.size := by
    rw [h]
    rcases Nat.lt_or_ge i ds.length with h | h
    · exact h
    · rw [List.getElem?_eq_none h] at hd; cases hd
  exact ⟨vs[i], Array.getElem?_eq_getElem this⟩

/-- A part of a value. -/
theorem run_part {t : TypeId} {z : Bool × Nat} (ht : tyOf P t = some z) {vs : Array Value} {cs : List D} (hl : vs.size = cs.length)
    (hp : ∀ (i : Nat) (v : Value) (d : D), vs[i]? = some v → cs[i]? = some d → VRel g w v d) {o : Nat} {d : D} (hd : ldc z cs o = some d) :
    ∃ v, Runs P (part t vs o) w v ∧ VRel g w v d := by
  obtain ⟨ag, n⟩ := z
  cases ag with
  | true =>
    simp only [ldc] at hd
    split at hd
    · rename_i hle
      cases hd
      refine ⟨.agg (vs.extract o (o + n)), fun w' _ => by obtain ⟨h1, h2⟩ := tyOf_spec ht w'; simp [part, h1, h2], .agg _ _ (by simp [hl]; omega) fun i v d hv hd => ?_⟩
      rw [List.getElem?_take] at hd
      split at hd
      · rw [List.getElem?_drop] at hd
        rw [Array.getElem?_extract] at hv
        split at hv
        · exact hp _ _ _ hv hd
        · cases hv
      · cases hd
    · cases hd
  | false =>
    simp only [ldc] at hd
    obtain ⟨v, hv⟩ := agg_cell hl hd
    exact ⟨v, fun w' _ => by obtain ⟨h1, h2⟩ := tyOf_spec ht w'; simp [part, h1, hv], hp _ _ _ hv hd⟩

theorem field_sound {t : TypeId} {f : Nat} {p d : D} {v : Value} (hv : VRel g w v p) (hd : fieldD P t f p = some d) :
    ∃ u, Runs P (Instr.field t v f) w u ∧ VRel g w u d := by
  cases p <;> simp only [fieldD, reduceCtorEq] at hd
  rename_i cs
  split at hd <;> try cases hd
  rename_i ty o ho
  split at hd <;> try cases hd
  rename_i z hz
  cases hv with
  | agg vs _ hl hp =>
    unfold prtOf at ho
    cases hu : P.underlying t with
    | none => simp [hu] at ho
    | some d =>
      rw [hu] at ho
      cases d <;> simp only [reduceCtorEq] at ho
      rename_i fs
      cases hf : fs[f]? with
      | none => simp [hf] at ho
      | some fd =>
        simp only [hf, Option.some.injEq, Prod.mk.injEq] at ho
        obtain ⟨rfl, rfl⟩ := ho
        obtain ⟨u, h1, h2⟩ := run_part hz hl hp hd
        exact ⟨u, fun w' hw' => by simp [Instr.field, Go.underlying, hu, hf, asAgg, h1 w' hw'], h2⟩

theorem elOf_spec {t : TypeId} {x : TypeId × Nat × Nat} (h : elOf P t = some x) : P.underlying t = some (.slice x.1) ∧ ∃ i, P.info? x.1 = some i ∧ i.size = x.2.1 ∧ i.bytes = x.2.2 := by
  unfold elOf at h
  cases hu : P.underlying t with
  | none => simp [hu] at h
  | some d =>
    rw [hu] at h
    cases d <;> simp only [reduceCtorEq] at h
    rename_i e
    cases hi : P.info? e with
    | none => simp [hi] at h
    | some i =>
      simp only [hi, Option.some.injEq] at h
      subst h
      exact ⟨rfl, i, hi, rfl, rfl⟩
theorem elOf_size {t : TypeId} {x : TypeId × Nat × Nat} (h : elOf P t = some x) (w : World) : (Go.sizeOf x.1).run P w = .ok x.2.1 w := by
  obtain ⟨_, i, hi, hs, _⟩ := elOf_spec h
  simp [Go.sizeOf, typeInfo, hi, hs]
theorem arOf_spec {t : TypeId} {x : Nat × TypeId × Nat} (h : arOf P t = some x) : P.underlying t = some (.array x.1 x.2.1) ∧ ∀ w, (Go.sizeOf x.2.1).run P w = .ok x.2.2 w := by
  unfold arOf at h
  cases hu : P.underlying t with
  | none => simp [hu] at h
  | some d =>
    rw [hu] at h
    cases d <;> simp only [reduceCtorEq] at h
    rename_i n e
    cases hi : P.info? e with
    | none => simp [hi] at h
    | some i =>
      simp only [hi, Option.some.injEq] at h
      subst h
      exact ⟨rfl, fun w => by simp [Go.sizeOf, typeInfo, hi]⟩

theorem addr_add (b off n : Nat) : Addr.add ⟨b, off, none⟩ n = ⟨b, off + n, none⟩ := by
  unfold Addr.add; split
  · rename_i h0; rw [h0]; rfl
  · rfl

/-- An element's place in a slice. -/
theorem run_indexAt_sl {t : TypeId} {x : TypeId × Nat × Nat} (h : elOf P t = some x) (b off n cap : Nat) (k : IntKind) (i : Int) (h0 : 0 ≤ i) (h1 : i < n) (w : World) :
    (Instr.indexAt t (.slice (some ⟨b, off, none⟩) n cap) (.int k i)).run P w = .ok (.pointer (some ⟨b, off + i.toNat * x.2.1, none⟩)) w := by
  obtain ⟨hu, j, hj, hs, _⟩ := elOf_spec h
  simp [Instr.indexAt, asIntOf, Go.underlying, hu, h0, h1, Go.sizeOf, typeInfo, hj, hs, addr_add]
theorem run_indexAt_ar {t : TypeId} {x : Nat × TypeId × Nat} (h : arOf P t = some x) (b off : Nat) (k : IntKind) (i : Int) (h0 : 0 ≤ i) (h1 : i < x.1) (w : World) :
    (Instr.indexAt t (.pointer (some ⟨b, off, none⟩)) (.int k i)).run P w = .ok (.pointer (some ⟨b, off + i.toNat * x.2.2, none⟩)) w := by
  obtain ⟨hu, hs⟩ := arOf_spec h
  simp [Instr.indexAt, asIntOf, Go.underlying, hu, h0, h1, Instr.sureAddr, hs, addr_add]

/-- Of an element of pure data: its cells. -/
theorem elem_rp (z0 : List C) {I : Nat → Prop} {n cap : Nat} {a0 : Option Addr} {els : List (List C)} (hI : g.I = I) (h : CRel I w (.slice a0 n cap) (.sl els)) {i : Nat} (hi : i < els.length) {z : Nat} (hz : Wide z els) :
    ∃ b off, a0 = some ⟨b, off, none⟩ ∧ n = els.length ∧ VRel g w (.pointer (some ⟨b, off + i * z, none⟩)) (.rp (els.getD i z0)) := by
  subst hI
  cases h with
  | slnil a cap hc => simp at hi
  | sl b off cap sz _ vs hb hl hc hsz hcell hrel =>
    refine ⟨b, off, rfl, rfl, .rp b _ _ (fun j => vs i j) hb fun j y hy => ?_⟩
    have hx : els[i]? = some (els.getD i z0) := by simp [List.getD, List.getElem?_eq_getElem hi]
    have he : sz = z := by
      have h1 := hsz els[i] (List.getElem_mem hi)
      have h2 := hz els[i] (List.getElem_mem hi)
      omega
    rw [← he]
    exact ⟨hcell i j _ y hx hy, hrel i j _ y hx hy⟩

theorem ia_sound {t : TypeId} {p q d : D} {C0 : Prop} {v u : Value} (hv : VRel g w v p) (hu : VRel g w u q) (hd : iaD P t p q = some (C0, d)) (hc : C0) :
    ∃ x, Runs P (Instr.indexAt t v u) w x ∧ VRel g w x d := by
  unfold iaD at hd
  split at hd <;> try cases hd
  · rename_i els k i
    split at hd <;> cases hd
    rename_i e z y he
    obtain ⟨⟨h0, h1⟩, hw⟩ := hc
    cases hu with
    | c _ _ hu => cases hu with
      | int k i =>
      cases hv with
      | c _ _ hv =>
        have hv' := hv
        cases hv' with
        | slnil a cap hc => simp at h1; omega
        | sl b off cap sz _ vs hb hl hc hsz hcell hrel =>
          obtain ⟨b', off', h2, h3, h4⟩ := elem_rp (g := g) _ rfl hv (i := i.toNat) (by omega) hw
          cases h2
          exact ⟨_, fun w' _ => run_indexAt_sl he _ _ _ _ _ _ h0 h1 w', h4⟩
  · rename_i els k i
    split at hd <;> cases hd
    rename_i e z y he
    obtain ⟨⟨h0, h1⟩, hw⟩ := hc
    cases hu with
    | c _ _ hu => cases hu with
      | int k i =>
      cases hv with
      | csl a0 _ hv =>
        obtain ⟨b', off', h2, h3, h4⟩ := elem_rp (g := g) _ rfl hv (i := i.toNat) (by omega) hw
        cases h2
        exact ⟨_, fun w' _ => run_indexAt_sl he _ _ _ _ _ _ h0 h1 w', h4⟩
  · rename_i id n k i
    split at hd <;> cases hd
    rename_i e z y he
    obtain ⟨h0, h1⟩ := hc
    cases hu with
    | c _ _ hu => cases hu with
      | int k i =>
      cases hv with
      | vec a' cap' _ _ a0 len cap hk hn hm ha hv =>
        rcases ha with ha | ⟨b, o, rfl⟩
        · omega
        · refine ⟨_, fun w' _ => run_indexAt_sl he _ _ _ _ _ _ h0 h1 w', .eref _ _ _ _ _ _ _ _ _ _ hk hn fun e => ?_⟩
          obtain ⟨e1, _⟩ := hv e
          exact ⟨o, e1.symm, by simp⟩
  · rename_i id off k i
    split at hd <;> cases hd
    rename_i n e z he
    obtain ⟨h0, h1⟩ := hc
    cases hu with
    | c _ _ hu => cases hu with
      | int k i =>
      cases hv with
      | ref b _ _ hb => exact ⟨_, fun w' _ => run_indexAt_ar he _ _ _ _ h0 h1 w', .ref b id _ hb⟩
  · rename_i cs k i
    split at hd <;> cases hd
    rename_i n e z he
    obtain ⟨h0, h1⟩ := hc
    cases hu with
    | c _ _ hu => cases hu with
      | int k i =>
      cases hv with
      | rp b off _ vs hI hcell =>
        refine ⟨_, fun w' _ => run_indexAt_ar he _ _ _ _ h0 h1 w', .rp b _ _ (fun j => vs (i.toNat * z + j)) hI fun j y hy => ?_⟩
        rw [List.getElem?_drop] at hy
        have := hcell (i.toNat * z + j) y hy
        rwa [show off + (i.toNat * z + j) = off + i.toNat * z + j by omega] at this

theorem index_sound {t : TypeId} {p q d : D} {C0 : Prop} {v u : Value} (hv : VRel g w v p) (hu : VRel g w u q) (hd : indexD P t p q = some (C0, d)) (hc : C0) :
    ∃ x, Runs P (Instr.index t v u) w x ∧ VRel g w x d := by
  unfold indexD at hd
  split at hd <;> try cases hd
  rename_i cs k i
  split at hd <;> try cases hd
  rename_i n ty z he
  split at hd <;> try cases hd
  rename_i zz hz
  split at hd <;> cases hd
  rename_i d hd
  obtain ⟨h0, h1⟩ := hc
  cases hu with
  | c _ _ hu => cases hu with
    | int k i =>
    cases hv with
    | agg vs _ hl hp =>
      obtain ⟨x, h2, h3⟩ := run_part hz hl hp hd
      obtain ⟨h4, h5⟩ := arOf_spec he
      simp only at h4 h5
      exact ⟨x, fun w' hw' => by simp [Instr.index, asIntOf, Go.underlying, h4, h0, h1, h5, h2 w' hw'], h3⟩

theorem vbool {a b : Bool} (h : a = b) : VRel g w (.bool a) (.bool b) := by subst h; exact .c _ _ (.bool _)
theorem ibin_sound (op : BinOp) (k : IntKind) (a b : Int) {C0 : Prop} {d : D} (h : ibin op k a b = some (C0, d)) (hc : C0) (hs : isShift op = false) (t : TypeId) :
    ∃ x, Runs P (binOp op t (.int k a) (.int k b)) w x ∧ VRel g w x d := by
  cases op <;> simp only [ibin, reduceCtorEq, Option.some.injEq, Prod.mk.injEq, isShift] at h hs <;> obtain ⟨rfl, rfl⟩ := h
  all_goals first
    | (refine ⟨_, ?_, .c _ _ (.int _ _)⟩; intro w' _; simp only [binOp, ne_eq, not_true, if_false, Op.intArith, Op.intBits, Sem.run_pure]; done)
    | (refine ⟨_, ?_, .c _ _ (.int _ _)⟩; intro w' _; have hc' : ¬ b = 0 := hc; simp only [binOp, ne_eq, not_true, if_false, Op.intDiv, hc', Sem.run_pure]; done)
    | (refine ⟨_, ?_, vbool rfl⟩; intro w' _; simp only [binOp, ne_eq, not_true, if_false, Op.intCmp, Sem.run_pure]; done)
    | (refine ⟨_, ?_, vbool rfl⟩; intro w' _; simp only [binOp, ne_eq, not_true, if_false, Op.intCmp, Sem.run_pure]; rfl)

theorem ishift_sound (op : BinOp) (k k' : IntKind) (a b : Int) {C0 : Prop} {d : D} (h : ishift op k a b = some (C0, d)) (hc : C0) (t : TypeId) :
    ∃ x, Runs P (binOp op t (.int k a) (.int k' b)) w x ∧ VRel g w x d := by
  cases op <;> simp only [ishift, reduceCtorEq, Option.some.injEq, Prod.mk.injEq] at h <;> obtain ⟨rfl, rfl⟩ := h
  all_goals
    have h0 : ¬ b < 0 := by omega
    refine ⟨_, fun w' _ => by simp only [binOp]; simp [Op.shift, h0]; rfl, ?_⟩
    exact .c _ _ (.int _ _)

theorem guard_int (op : BinOp) (t : TypeId) (x y : Operand) {u v : Value} (h : (∀ c, u ≠ .agg c) ∧ u ≠ .nilIface) : (eqGuard op t x y u v).run P w = .ok () w := by
  obtain ⟨h1, h2⟩ := h
  unfold eqGuard
  cases u <;> first | exact absurd rfl h2 | exact absurd rfl (h1 _) | (cases op <;> simp)

theorem VRel.int_inv {v : Value} {k : IntKind} {n : Int} (h : VRel g w v (.int k n)) : v = .int k n := by
  cases h with
  | c _ _ h => cases h; rfl
theorem VRel.bool_inv {v : Value} {b : Bool} (h : VRel g w v (.bool b)) : v = .bool b := by
  cases h with
  | c _ _ h => cases h; rfl

theorem equalIn_bool (d : Nat) (t : TypeId) (a b : Bool) (ht : P.underlying t = some .bool) : (Op.equalIn (d + 1) t (.bool a) (.bool b)).run P w = .ok (a == b) w := by
  simp only [Op.equalIn, Sem.run_bind, Go.run_underlying ht, Result.andThen, Sem.run_pure]
theorem leafK_sound {t : TypeId} {k : Nat} (ht : leafK P t = some k) {x y : C} {b : Bool} (h : eqC k x y = some b) {v u : Value} (hv : VRel g w v (.c x)) (hu : VRel g w u (.c y)) (d : Nat) (w' : World) : (Op.equalIn (d + 1) t v u).run P w' = .ok b w' := by
  cases hv with
  | c _ _ hv =>
  cases hu with
  | c _ _ hu =>
  unfold leafK at ht
  split at ht <;> cases ht
  · rename_i hk _
    cases x <;> cases y <;> simp only [eqC, reduceCtorEq] at h
    split at h <;> cases h
    rename_i hk'
    subst hk'
    cases hv; cases hu
    exact run_equalIn_int w' d t _ _ _ _ hk
  · rename_i hk _
    cases x <;> cases y <;> simp only [eqC, reduceCtorEq] at h
    cases h
    cases hv; cases hu
    exact run_equalIn_bool' w' d t _ _ hk
  · rename_i hk _
    cases x <;> cases y <;> simp only [eqC, reduceCtorEq] at h
    cases h
    cases hv; cases hu
    rw [run_equalIn_string w' d t _ _ hk, beq_toListBytes]

theorem leafs_sound {vs us : Array Value} {xs ys : List D} (hl : vs.size = xs.length) (hl' : us.size = ys.length)
    (hp : ∀ (i : Nat) (v : Value) (d : D), vs[i]? = some v → xs[i]? = some d → VRel g w v d) (hp' : ∀ (i : Nat) (v : Value) (d : D), us[i]? = some v → ys[i]? = some d → VRel g w v d) (d : Nat) (w' : World) (hw' : Ext w w') :
    ∀ (fs : List Field) (l : List (Nat × Nat)) (b : Bool), leafs P fs = some l → eqCells l xs ys = some b → (Op.eqFields (d + 1) vs us fs).run P w' = .ok b w'
  | [], l, b, h1, h2 => by
    cases h1
    cases h2
    simp [Op.eqFields]
  | f :: fs, l, b, h1, h2 => by
    simp only [leafs] at h1
    split at h1 <;> try cases h1
    rename_i k ks hk hks
    split at h1 <;> cases h1
    rename_i hname
    simp only [eqCells] at h2
    split at h2 <;> try cases h2
    rename_i x y hx hy
    split at h2 <;> cases h2
    rename_i b1 b2 hb1 hb2
    have ht : ∃ n, tyOf P f.type = some (false, n) := by
      unfold leafK at hk
      split at hk <;> cases hk
      all_goals rename_i ht; exact ⟨_, ht⟩
    obtain ⟨n, ht⟩ := ht
    obtain ⟨u1, hu1, hu2⟩ := run_part (P := P) ht hl hp (o := f.offset) (d := .c x) (by simpa [ldc] using hx)
    obtain ⟨u3, hu3, hu4⟩ := run_part (P := P) ht hl' hp' (o := f.offset) (d := .c y) (by simpa [ldc] using hy)
    have h5 := leafK_sound hk hb1 hu2 hu4 d w'
    simp only [Op.eqFields, ne_eq, hname, not_false_iff, if_true, Sem.run_bind, hu1 w' hw', hu3 w' hw', h5, Result.andThen_ok, Sem.run_ite]
    cases b1
    · simp
    · simpa using leafs_sound hl hl' hp hp' d w' hw' fs ks b2 hks hb2

theorem eqD_sound {t : TypeId} {xs ys : List D} {b : Bool} (h : eqD P t xs ys = some b) {v u : Value} (hv : VRel g w v (.agg xs)) (hu : VRel g w u (.agg ys)) (w' : World) (hw' : Ext w w') :
    ∃ vs us, v = .agg vs ∧ u = .agg us ∧ P.eqGuardType P.depth t = false ∧ (Op.equalIn 10000 t (.agg vs) (.agg us)).run P w' = .ok b w' := by
  unfold eqD at h
  split at h <;> try cases h
  rename_i l hl
  unfold eqOf at hl
  split at hl <;> try cases hl
  rename_i fs hf
  split at hl <;> try cases hl
  rename_i hc
  cases hv with
  | agg vs _ h1 h2 =>
  cases hu with
  | agg us _ h3 h4 =>
  have e : P.fieldsOf t = fs := by simp [Program.fieldsOf, hf]
  refine ⟨vs, us, rfl, rfl, hc.2, ?_⟩
  rw [show (10000 : Nat) = 9999 + 1 from rfl, run_equalIn_struct w' 9999 t vs us (by rw [e]; exact hf) hc.1, e]
  exact leafs_sound h1 h3 h2 h4 9998 w' hw' _ _ _ hl h

theorem bin_sound (op : BinOp) (t : TypeId) {p q d : D} {C0 : Prop} {v u : Value} (hv : VRel g w v p) (hu : VRel g w u q) (hd : binD P op t p q = some (C0, d)) (hc : C0) (x y : Operand) :
    ∃ r, Runs P (do eqGuard op t x y v u; binOp op t v u : Sem Value) w r ∧ VRel g w r d := by
  unfold binD at hd
  split at hd
  · rename_i k a k' b
    obtain rfl := hv.int_inv
    obtain rfl := hu.int_inv
    have hg := fun w' => guard_int (P := P) (w := w') op t x y (u := .int k a) (v := .int k' b) ⟨by simp, by simp⟩
    split at hd
    · obtain ⟨r, h1, h2⟩ := ishift_sound (P := P) (g := g) (w := w) op k k' a b hd hc t
      exact ⟨r, fun w' hw' => by simp [hg w', h1 w' hw'], h2⟩
    · rename_i hs
      split at hd
      · rename_i hk
        subst hk
        obtain ⟨r, h1, h2⟩ := ibin_sound (P := P) (g := g) (w := w) op k a b hd hc (by simpa using hs) t
        exact ⟨r, fun w' hw' => by simp [hg w', h1 w' hw'], h2⟩
      · cases hd
  · rename_i a b
    obtain rfl := hv.bool_inv
    obtain rfl := hu.bool_inv
    have hg := fun w' => guard_int (P := P) (w := w') op t x y (u := .bool a) (v := .bool b) ⟨by simp, by simp⟩
    split at hd <;> cases hd
    all_goals
      rename_i ht
      have he : ∀ w', (Op.equal t (.bool a) (.bool b)).run P w' = .ok (a == b) w' := fun w' => equalIn_bool 9999 t a b ht
      refine ⟨_, ?_, vbool rfl⟩
      intro w' _
      simp [hg w', binOp, he w']
  · split at hd <;> cases hd
    all_goals
      rename_i hb
      obtain ⟨vs, us, rfl, rfl, hg, _⟩ := eqD_sound hb hv hu w (.refl w)
      refine ⟨_, ?_, vbool rfl⟩
      intro w' hw'
      obtain ⟨_, _, e1, e2, _, he⟩ := eqD_sound hb hv hu w' hw'
      cases e1; cases e2
    · simp only [Sem.run_bind, run_eqGuard_agg w' .eql t x y vs us hg, Result.andThen_ok, run_eql_struct, he]
    · simp only [Sem.run_bind, run_eqGuard_agg w' .neq t x y vs us hg, Result.andThen_ok, run_neq_struct, he]
  · cases hd

theorem nilq_sound (op : BinOp) (t : TypeId) {p q : D} {neg : Bool} {C0 : Prop} {v u : Value} (hv : VRel g w v p) (hu : VRel g w u q) (hd : nilq P op t p q = some (neg, C0)) (x y : Operand) :
    ∃ b : Bool, (b = true → C0) ∧ Runs P (do eqGuard op t x y v u; binOp op t v u : Sem Value) w (.bool (b ^^ neg)) := by
  have key : ∀ (a : Option Addr) (n cap : Nat) (e : TypeId) (w' : World), P.underlying t = some (.slice e) → (Op.equal t (.slice a n cap) (.slice none 0 0)).run P w' = .ok a.isNone w' := by
    intro a n cap e w' ht
    have go : ∀ d : Nat, (Op.equalIn (d + 1) t (.slice a n cap) (.slice none 0 0)).run P w' = .ok a.isNone w' := by
      intro d
      cases a <;> simp only [Op.equalIn, Sem.run_bind, Go.run_underlying ht, Result.andThen_ok, Sem.run_pure] <;> rfl
    exact go 9999
  have hsl : ∀ {els : List (List C)} {v : Value}, CRel g.I w v (.sl els) → ∃ a n cap, v = .slice a n cap ∧ (a.isNone = true → els = []) := by
    intro els v h
    cases h with
    | slnil a cap hc => exact ⟨a, 0, cap, rfl, fun _ => rfl⟩
    | sl b off cap sz _ vs hI hl hc => exact ⟨_, _, cap, rfl, fun h => by cases h⟩
  have hcase : (∃ a n cap, v = .slice a n cap ∧ (a.isNone = true → C0)) ∧ q = .nil ∧ (∃ e, P.underlying t = some (.slice e)) ∧ ((op = .eql ∧ neg = false) ∨ (op = .neq ∧ neg = true)) := by
    unfold nilq at hd
    split at hd
    · rename_i e ht
      suffices h : (∃ a n cap, v = .slice a n cap ∧ (a.isNone = true → C0)) ∧ neg = false from ⟨h.1, rfl, ⟨e, ht⟩, .inl ⟨rfl, h.2⟩⟩
      split at hd <;> cases hd
      · cases hv with
        | c _ _ hv => exact ⟨hsl hv, rfl⟩
      · cases hv with
        | csl _ _ hv => exact ⟨hsl hv, rfl⟩
      · cases hv with
        | vec a' cap' _ _ a0 len cap hk hle hm ha hvq =>
          refine ⟨⟨_, _, _, rfl, fun hn => ?_⟩, rfl⟩
          rcases ha with ha | ⟨b, o, ha⟩
          · exact ha
          · rw [ha] at hn; cases hn
      · cases hv
        exact ⟨⟨_, _, _, rfl, fun _ => trivial⟩, rfl⟩
    · rename_i e ht
      suffices h : (∃ a n cap, v = .slice a n cap ∧ (a.isNone = true → C0)) ∧ neg = true from ⟨h.1, rfl, ⟨e, ht⟩, .inr ⟨rfl, h.2⟩⟩
      split at hd <;> cases hd
      · cases hv with
        | c _ _ hv => exact ⟨hsl hv, rfl⟩
      · cases hv with
        | csl _ _ hv => exact ⟨hsl hv, rfl⟩
      · cases hv with
        | vec a' cap' _ _ a0 len cap hk hle hm ha hvq =>
          refine ⟨⟨_, _, _, rfl, fun hn => ?_⟩, rfl⟩
          rcases ha with ha | ⟨b, o, ha⟩
          · exact ha
          · rw [ha] at hn; cases hn
      · cases hv
        exact ⟨⟨_, _, _, rfl, fun _ => trivial⟩, rfl⟩
    · cases hd
  obtain ⟨⟨a, n, cap, rfl, hn⟩, rfl, ⟨e, ht⟩, hop⟩ := hcase
  cases hu
  refine ⟨a.isNone, hn, fun w' _ => ?_⟩
  have hg := fun w' => guard_int (P := P) (w := w') op t x y (u := .slice a n cap) (v := .slice none 0 0) ⟨by simp, by simp⟩
  rcases hop with ⟨rfl, rfl⟩ | ⟨rfl, rfl⟩
  · simp [hg w', binOp, key a n cap e w' ht]
  · simp [hg w', binOp, key a n cap e w' ht]

theorem un_sound (op : UnOp) {p d : D} {v : Value} (hv : VRel g w v p) (hd : unD op p = some d) : ∃ r, Runs P (Op.unary op v) w r ∧ VRel g w r d := by
  unfold unD at hd
  split at hd <;> cases hd
  · cases hv with
    | c _ _ hv => cases hv with
    | bool b => exact ⟨_, fun w' _ => by simp [Op.unary], .c _ _ (.bool _)⟩
  · cases hv with
    | c _ _ hv => cases hv with
    | int k n => exact ⟨_, fun w' _ => by simp [Op.unary, Op.intArith], .c _ _ (.int _ _)⟩

theorem run_convert_ii (t u : TypeId) (k k' : IntKind) (n : Int) {e : TypeDesc} (h1 : P.underlying t = some e) (h2 : P.underlying u = some (.int k')) : (convert t u (.int k n)).run P w = .ok (.int k' (k'.wrap n)) w := by
  unfold convert
  rw [Sem.run_bind, Go.run_underlying h1]
  simp only [Result.andThen]
  rw [Sem.run_bind, Go.run_underlying h2]
  simp only [Result.andThen, Conv.intToInt, Sem.run_pure]

theorem conv_sound (t u : TypeId) {p d : D} {v : Value} (hv : VRel g w v p) (hd : convD P t u p = some d) : ∃ r, Runs P (convert t u v) w r ∧ VRel g w r d := by
  unfold convD at hd
  split at hd
  · obtain rfl := hv.int_inv
    split at hd
    · rename_i e k' h1 h2
      cases hd
      unfold inOf at h2
      unfold kdOf at h1
      cases hu : P.underlying u with
      | none => simp [hu] at h2
      | some d =>
        rw [hu] at h2
        cases d <;> simp only [reduceCtorEq] at h2
        cases h2
        exact ⟨_, fun w' _ => run_convert_ii t u _ _ _ h1 hu, .c _ _ (.int _ _)⟩
    · cases hd
  · cases hd

theorem ext_sound (i : Nat) {p d : D} {v : Value} (hv : VRel g w v p) (hd : extD p i = some d) : ∃ r, Runs P (Instr.extract v i) w r ∧ VRel g w r d := by
  unfold extD at hd
  split at hd
  · cases hv with
    | tup vs _ hl hp =>
      obtain ⟨r, hr⟩ := agg_cell hl hd
      exact ⟨r, fun w' _ => by simp [Instr.extract, hr], hp _ _ _ hr hd⟩
  · cases hd

theorem CRel.len {I : Nat → Prop} {v : Value} {els : List (List C)} (h : CRel I w v (.sl els)) : ∃ a cap, v = .slice a els.length cap ∧ els.length ≤ cap ∧ cap ≤ maxLen := by
  cases h with
  | slnil a cap hc => exact ⟨a, cap, rfl, by simp, hc⟩
  | sl b off cap sz _ vs hI hl hc => exact ⟨_, cap, rfl, hl, hc⟩

theorem len_sound (t : TypeId) (ty : TypeId) (ht : (elOf P t).isSome = true) {p d : D} {C0 : Prop} {v : Value} (hv : VRel g w v p) (hd : lenD p = some (C0, d)) :
    C0 ∧ ∃ r, Runs P (Builtin.len_ #[t] ty #[v]) w r ∧ VRel g w r d := by
  obtain ⟨x, hx⟩ := Option.isSome_iff_exists.1 ht
  obtain ⟨hu, _⟩ := elOf_spec hx
  unfold lenD at hd
  have hm : maxLen ≤ 9223372036854775807 := by decide
  split at hd <;> cases hd
  · cases hv with
    | c _ _ hv =>
      obtain ⟨a, cap, rfl, h1, h2⟩ := CRel.len hv
      exact ⟨by omega, _, fun w' _ => by simp [Builtin.len_, Go.underlying, hu, goInt], .c _ _ (.int _ _)⟩
  · cases hv with
    | csl a _ hv =>
      obtain ⟨_, _, h0, h1, h2⟩ := CRel.len hv
      cases h0
      exact ⟨by omega, _, fun w' _ => by simp [Builtin.len_, Go.underlying, hu, goInt], .c _ _ (.int _ _)⟩
  · cases hv
    exact ⟨trivial, _, fun w' _ => by simp [Builtin.len_, Go.underlying, hu, goInt], .c _ _ (.int _ _)⟩
  · cases hv with
    | vec a' cap' _ _ a0 len cap hk hn hm' ha hv =>
      exact ⟨by omega, _, fun w' _ => by simp [Builtin.len_, Go.underlying, hu, goInt], .c _ _ (.int _ _)⟩
  · cases hv with
    | view a' cap' _ _ _ lo hi a0 len cap hk hn hl hh hm' hv =>
      exact ⟨by omega, _, fun w' _ => by simp [Builtin.len_, Go.underlying, hu, goInt], .c _ _ (.int _ _)⟩
end
end Dm
