import Derived.Test.YtpaojpjhppgoeaaD3
set_option linter.unusedSimpArgs false
set_option linter.unusedVariables false
/-! What must be shown of a region whose order is drawn: the operations as they are written, each on what it touches; that those that do not wait for each other touch nothing in common. -/
namespace Dm
open Go
section
variable {δ : List Deferred} {P : Program} {T : Tab} {all : Array Oper} {s s' s'' e : St} {n N : Nat}

/-! ### Lists of numbers -/
def mem (n : Nat) : List Nat → Bool
  | [] => false
  | m :: l => if n = m then true else mem n l
def sub : List Nat → List Nat → Bool
  | [], _ => true
  | n :: l, m => if mem n m = true then sub l m else false
def apt : List Nat → List Nat → Bool
  | [], _ => true
  | n :: l, m => if mem n m = true then false else apt l m
def low (B : Nat) : List Nat → Bool
  | [] => true
  | n :: l => if n < B then low B l else false
def inR (T : List Nat) (B nx n : Nat) : Bool := if mem n T = true then true else if B ≤ n then (if n < nx then true else false) else false
def allR (T : List Nat) (B nx : Nat) : List Nat → Bool
  | [] => true
  | n :: l => if inR T B nx n = true then allR T B nx l else false
def outR (B nx : Nat) : List Nat → Bool
  | [] => true
  | n :: l => if B ≤ n then (if n < nx then false else outR B nx l) else outR B nx l
def ins (n : Nat) (l : List Nat) : List Nat := if mem n l = true then l else n :: l
def uni : List Nat → List Nat → List Nat
  | [], m => m
  | n :: l, m => uni l (ins n m)
theorem mem_iff {n : Nat} : ∀ {l : List Nat}, mem n l = true ↔ n ∈ l
  | [] => by simp [mem]
  | m :: l => by
    rw [mem]
    by_cases h : n = m <;> simp [h, mem_iff]
theorem sub_iff {m : List Nat} : ∀ {l : List Nat}, sub l m = true ↔ ∀ n ∈ l, n ∈ m
  | [] => by simp [sub]
  | n :: l => by
    rw [sub]
    by_cases h : n ∈ m <;> simp [mem_iff, h, sub_iff]
theorem apt_iff {m : List Nat} : ∀ {l : List Nat}, apt l m = true ↔ ∀ n ∈ l, n ∉ m
  | [] => by simp [apt]
  | n :: l => by
    rw [apt]
    by_cases h : n ∈ m <;> simp [mem_iff, h, apt_iff]
theorem low_iff {B : Nat} : ∀ {l : List Nat}, low B l = true ↔ ∀ n ∈ l, n < B
  | [] => by simp [low]
  | n :: l => by
    rw [low]
    by_cases h : n < B <;> simp [h, low_iff]
theorem inR_iff {T : List Nat} {B nx n : Nat} : inR T B nx n = true ↔ n ∈ T ∨ B ≤ n ∧ n < nx := by
  unfold inR
  by_cases h : n ∈ T
  · simp [mem_iff, h]
  · by_cases h1 : B ≤ n <;> by_cases h2 : n < nx <;> simp [mem_iff, h, h1, h2]
theorem allR_iff {T : List Nat} {B nx : Nat} : ∀ {l : List Nat}, allR T B nx l = true ↔ ∀ n ∈ l, n ∈ T ∨ B ≤ n ∧ n < nx
  | [] => by simp [allR]
  | n :: l => by
    rw [allR]
    by_cases h : inR T B nx n = true
    · rw [if_pos h, allR_iff]
      simp [inR_iff.1 h]
    · rw [if_neg h]
      have : ¬ _ := fun h' => h (inR_iff.2 h')
      simp [this]
theorem outR_iff {B nx : Nat} : ∀ {l : List Nat}, outR B nx l = true ↔ ∀ n ∈ l, ¬ (B ≤ n ∧ n < nx)
  | [] => by simp [outR]
  | n :: l => by
    rw [outR]
    by_cases h1 : B ≤ n <;> by_cases h2 : n < nx <;> simp [h1, h2, outR_iff] <;> omega

/-! ### What an operation touches -/
def midsA : List (Nat × D) → List Nat
  | [] => []
  | (_, d) :: l => mids d ++ midsA l
def mobO : Option Ob → List Nat
  | none => []
  | some o => mob o
def cont (os : List (Nat × Ob)) : List Nat → List Nat
  | [] => []
  | n :: l => mobO (lk n os) ++ cont os l
def clo (os : List (Nat × Ob)) (ids : List Nat) : List Nat := uni (cont os (uni (cont os ids) ids)) (uni (cont os ids) ids)
def valsB (T : List Nat) : List (Nat × D) → Bool
  | [] => true
  | (_, d) :: l => if sub (mids d) T = true then valsB T l else false
def obsB (T : List Nat) : List (Nat × Ob) → Bool
  | [] => true
  | (_, o) :: l => if sub (mob o) T = true then obsB T l else false
def rosB (T : List Nat) (B nx : Nat) : List (Nat × Ob) → Bool
  | [] => true
  | (m, o) :: l => if inR T B nx m = true then (if allR T B nx (mob o) = true then rosB T B nx l else false) else false
def rvP (T : List Nat) (B nx : Nat) (tm : List (Nat × D)) : Option Nat → Prop
  | none => True
  | some t => match lk t tm with
    | some d => allR T B nx (mids d) = true
    | none => False
def sameO (W : List Nat) (os' os : List (Nat × Ob)) : List Nat → Prop
  | [] => True
  | n :: l => (if mem n W = true then True else lk n os' = lk n os) ∧ sameO W os' os l
def stOp : Op → Bool
  | .store .. => true
  | .call c => match c.callee with
    | .builtin .append => true
    | .builtin .copy => true
    | _ => false
  | _ => false
def gone (os : List (Nat × Ob)) : List Nat → List Nat
  | [] => []
  | n :: l => match lk n os with
    | some _ => gone os l
    | none => n :: gone os l
def wOf (st : Bool) (T : List Nat) (os : List (Nat × Ob)) : List Nat := match st with
  | true => T
  | false => gone os T
theorem valsB_spec {T : List Nat} : ∀ {l : List (Nat × D)}, valsB T l = true → ∀ t d, (t, d) ∈ l → ∀ id ∈ mids d, id ∈ T
  | [], _, _, _, h => by cases h
  | (m, x) :: l, h, t, d, hm => by
    rw [valsB] at h
    split at h
    · rename_i hs
      rcases List.mem_cons.1 hm with e | hm
      · cases e; exact sub_iff.1 hs
      · exact valsB_spec h t d hm
    · cases h
theorem obsB_spec {T : List Nat} : ∀ {l : List (Nat × Ob)}, obsB T l = true → ∀ t d, (t, d) ∈ l → ∀ id ∈ mob d, id ∈ T
  | [], _, _, _, h => by cases h
  | (m, x) :: l, h, t, d, hm => by
    rw [obsB] at h
    split at h
    · rename_i hs
      rcases List.mem_cons.1 hm with e | hm
      · cases e; exact sub_iff.1 hs
      · exact obsB_spec h t d hm
    · cases h
theorem rosB_spec {T : List Nat} {B nx : Nat} : ∀ {l : List (Nat × Ob)}, rosB T B nx l = true → ∀ i o, (i, o) ∈ l → (i ∈ T ∨ B ≤ i ∧ i < nx) ∧ ∀ id ∈ mob o, id ∈ T ∨ B ≤ id ∧ id < nx
  | [], _, _, _, h => by cases h
  | (m, x) :: l, h, t, d, hm => by
    rw [rosB] at h
    split at h
    · rename_i h1
      split at h
      · rename_i h2
        rcases List.mem_cons.1 hm with e | hm
        · cases e; exact ⟨inR_iff.1 h1, allR_iff.1 h2⟩
        · exact rosB_spec h t d hm
      · cases h
    · cases h
theorem sameO_spec {W : List Nat} {os' os : List (Nat × Ob)} : ∀ {l : List Nat}, sameO W os' os l → ∀ id ∈ l, id ∉ W → lk id os' = lk id os
  | [], _, _, h, _ => by cases h
  | m :: l, h, id, hm, hw => by
    obtain ⟨h1, h2⟩ := h
    rcases List.mem_cons.1 hm with e | hm
    · subst e
      rw [if_neg (by simpa [mem_iff] using hw)] at h1
      exact h1
    · exact sameO_spec h2 id hm hw
theorem fit_of {rd Tt : List Nat} {B : Nat} {d : Option Nat} {r : St} (h1 : low B Tt = true) (h2 : valsB Tt (pickL rd s.tm) = true) (h3 : obsB Tt (pickL Tt s.os) = true) (h4 : B ≤ r.nx) (h5 : rosB Tt B r.nx r.os = true) (h6 : rvP Tt B r.nx r.tm d) :
    Fit rd Tt B d s r where
  low := low_iff.1 h1
  vals t x ht hx := valsB_spec h2 t x (lk_mem (by rw [lk_pickL, if_pos ht]; exact hx))
  obs i o hi ho := obsB_spec h3 i o (lk_mem (by rw [lk_pickL, if_pos hi]; exact ho))
  nx := h4
  ros i o hi := rosB_spec h5 i o (lk_mem hi)
  rv t ht := by
    subst ht
    simp only [rvP] at h6
    cases hl : lk t r.tm with
    | none => rw [hl] at h6; cases h6
    | some y =>
      rw [hl] at h6
      have : r.get t = y := by simp [St.get, hl]
      rw [this]
      exact allR_iff.1 h6

/-! ### One operation, to one end -/
def okX (x : Option (Prop × D)) (d : Option Nat) (s : St) (K : St → Prop) : Prop := match x with | some (_, v) => K (s.put d v) | none => False
def aclX (T : Tab) (f : D) (args : List D) (d : Option Nat) (s : St) (K : St → Prop) : Prop := match f with
  | .fn (.func g) fi ca => ovm T g = false ∧ match look T s.os s.nx g (fi ++ args ++ ca) with
    | some (p, r, os', nx') => p ∧ K (St.put ⟨s.tm, os', nx'⟩ d r)
    | none => False
  | _ => False
def aopX (P : Program) (T : Tab) (o : Oper) (s : St) (K : St → Prop) : Prop :=
  match o.op with
  | .binOp op t x y _ => nilq P op t (s.ev x) (s.ev y) = none ∧ okP (binD P op t (s.ev x) (s.ev y)) o.dst s K
  | .call c => match c.callee with
    | .builtin .len => match c.args.toList, c.argTypes.toList with
      | [x], [t] => (elOf P t).isSome = true ∧ okX (lenD (s.ev x)) o.dst s K
      | _, _ => False
    | .builtin .append => match c.args.toList, c.argTypes.toList with
      | [x, y], [t, u] => appM P s t u (s.ev x) (s.ev y) = none ∧ t = u ∧ okT (appD P s t o.dst (s.ev x) (s.ev y)) K
      | _, _ => False
    | .value f => aclX T (s.ev f) (c.args.toList.map s.ev) o.dst s K
    | _ => aop P T o s K
  | _ => aop P T o s K
section
variable {K : St → Prop} {d : Option Nat}
theorem okD_det {x : Option D} (h : okD x d s K) : ∃ r, okD x d s (fun z => z = r) ∧ K r := by
  cases x with
  | none => cases h
  | some v => exact ⟨_, rfl, h⟩
theorem okP_det {x : Option (Prop × D)} (h : okP x d s K) : ∃ r, okP x d s (fun z => z = r) ∧ K r := by
  cases x with
  | none => cases h
  | some v => exact ⟨_, ⟨h.1, rfl⟩, h.2⟩
theorem okB_det {x : Option D} (h : okB x d s K) : ∃ r, okB x d s (fun z => z = r) ∧ K r := by
  unfold okB at *
  cases x with
  | none => cases h
  | some v =>
    simp only at *
    split at h
    · rename_i hc; exact ⟨_, by simp [hc], h⟩
    · cases h
theorem okV_det {x : Option (Nat × TypeId × List (List C))} (h : okV x d s K) : ∃ r, okV x d s (fun z => z = r) ∧ K r := by
  cases x with
  | none => cases h
  | some v => exact ⟨_, rfl, h⟩
theorem okS_det {x : Option St} (h : okS x K) : ∃ r, okS x (fun z => z = r) ∧ K r := by
  cases x with
  | none => cases h
  | some v => exact ⟨_, rfl, h⟩
theorem okT_det {x : Option (Prop × St)} (h : okT x K) : ∃ r, okT x (fun z => z = r) ∧ K r := by
  cases x with
  | none => cases h
  | some v => exact ⟨_, ⟨h.1, rfl⟩, h.2⟩
theorem okQ_det {x : Option (Prop × D × St)} (h : okQ x d K False) : ∃ r, okQ x d (fun z => z = r) False ∧ K r := by
  cases x with
  | none => cases h
  | some v => exact ⟨_, ⟨h.1, rfl⟩, h.2⟩
theorem pk_det {c x y : D} (h : pk c x y d s K) : ∃ r, pk c x y d s (fun z => z = r) ∧ K r := by
  unfold pk at *
  split at h
  · rename_i b
    cases b
    · exact ⟨s.put d y, by simp, h.2 rfl⟩
    · exact ⟨s.put d x, by simp, h.1 rfl⟩
  · cases h
theorem nchk_det {x : D} (h : nchk x d s K) : ∃ r, nchk x d s (fun z => z = r) ∧ K r := by
  unfold nchk at *
  split at h
  · exact ⟨_, rfl, h⟩
  · exact ⟨_, rfl, h⟩
  · exact ⟨_, rfl, h⟩
  · exact ⟨_, rfl, h⟩
  · cases h
theorem aopX_det {o : Oper} (h : aopX P T o s K) : ∃ r, aop P T o s (fun z => z = r) ∧ K r := by
  unfold aopX at h
  unfold aop at *
  cases ho : o.op with
  | binOp op t x y _ =>
    rw [ho] at h
    obtain ⟨h1, h2⟩ := h
    obtain ⟨r, h3, h4⟩ := okP_det h2
    exact ⟨r, by simp only [h1, okU]; exact h3, h4⟩
  | call c =>
    rw [ho] at h
    simp only at *
    cases hc : c.callee with
    | builtin b =>
      rw [hc] at h
      cases b with
      | len =>
        simp only at h ⊢
        split at h
        · obtain ⟨h1, h2⟩ := h
          rename_i x t hx ht
          unfold okX at h2
          split at h2
          · rename_i p v hl
            refine ⟨s.put o.dst v, ?_, h2⟩
            rw [hx, ht]
            exact ⟨h1, by rw [hl]; exact fun _ => rfl⟩
          · cases h2
        · cases h
      | min => exact okD_det h
      | max => exact okD_det h
      | append =>
        simp only at h ⊢
        split at h
        · obtain ⟨h0, h1, h2⟩ := h
          obtain ⟨r, h3, h4⟩ := okT_det h2
          rename_i x y t u hx ht
          simp only [hx, ht, h0, okM]
          exact ⟨r, ⟨h1, h3⟩, h4⟩
        · cases h
      | cap =>
        simp only at h ⊢
        split at h
        · obtain ⟨h1, h2⟩ := h
          rename_i x t hx ht
          obtain ⟨r, h3, h4⟩ := okP_det h2
          exact ⟨r, ⟨h1, h3⟩, h4⟩
        · cases h
      | copy =>
        simp only at h ⊢
        split at h
        · rename_i x y t u hx ht
          obtain ⟨r, h3, h4⟩ := okQ_det h
          exact ⟨r, h3, h4⟩
        · cases h
      | _ => cases h
    | value f =>
      rw [hc] at h
      simp only [aclX] at h ⊢
      split at h
      · rename_i g fi ca hf
        obtain ⟨h0, h⟩ := h
        split at h
        · rename_i p r os' nx' hl
          refine ⟨_, ?_, h.2⟩
          rw [hf]
          simp only [XCall, hl, h0]
          first | exact ⟨h.1, rfl⟩ | exact ⟨h.1, trivial⟩
        · cases h
      · cases h
    | _ => rw [hc] at h; simp_all
  | move x => rw [ho] at h; exact ⟨_, rfl, h⟩
  | assign x => rw [ho] at h; exact ⟨_, rfl, h⟩
  | makeFunc f fi ca => rw [ho] at h; exact ⟨_, rfl, h⟩
  | pick c a b => rw [ho] at h; exact pk_det h
  | alloc t => rw [ho] at h; exact okB_det h
  | box t x => rw [ho] at h; exact okB_det h
  | build t ps => rw [ho] at h; exact okD_det h
  | buildSlice t m ps => rw [ho] at h; exact okV_det h
  | load t x => rw [ho] at h; exact okD_det h
  | store t p x =>
    rw [ho] at h
    simp only at h ⊢
    obtain ⟨r, h1, h2⟩ := okS_det h
    cases hx : stD P s t (s.ev p) (s.ev x) with
    | none => rw [hx] at h; cases h
    | some s1 =>
      rw [hx] at h
      exact ⟨_, rfl, h⟩
  | nilCheck x => rw [ho] at h; exact nchk_det h
  | unOp op t x => rw [ho] at h; exact okD_det h
  | convert a b x => rw [ho] at h; exact okD_det h
  | makeSlice t l c => rw [ho] at h; exact okT_det h
  | slice t x lo hi mx =>
    rw [ho] at h
    simp only [okQ, okF] at h ⊢
    split at h
    · split at h
      · exact ⟨_, ⟨h.1, rfl⟩, h.2⟩
      · cases h
    · split at h
      · exact ⟨_, ⟨h.1, rfl⟩, h.2⟩
      · exact okP_det h
  | fieldAddr t x f => rw [ho] at h; exact okD_det h
  | field t x f => rw [ho] at h; exact okD_det h
  | indexAddr t x i => rw [ho] at h; exact okP_det h
  | index t x i => rw [ho] at h; exact okP_det h
  | extract x i => rw [ho] at h; exact okD_det h
  | _ => rw [ho] at h; simp_all
end
end
end Dm
