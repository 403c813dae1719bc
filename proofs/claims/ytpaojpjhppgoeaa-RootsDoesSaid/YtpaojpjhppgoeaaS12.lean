import Derived.Test.YtpaojpjhppgoeaaS11
import Derived.Deep.Quiet
set_option linter.unusedSimpArgs false
set_option linter.unusedVariables false
/-! Contracts of functions that only compute; regions that draw their order and only read. -/
namespace Dm
open Go

/-- What is handed over, or handed back, as pure data. -/
def pur1 (os : List (Nat × Ob)) : D → D → Prop
  | .c x, .c y => x = y
  | .nil, .c (.sl els) => els = []
  | .csl els, .c (.sl els') => els = els'
  | .vec id n, .c (.sl els) => n = els.length ∧ ∃ hd sz e, lk id os = some (.vec hd sz e els)
  | .ref id 0, .rp cs => ∃ ds, lk id os = some (.box ds) ∧ D.toCs ds = some cs
  | _, _ => False
def pw (R : D → D → Prop) : List D → List D → Prop
  | [], [] => True
  | x :: l, y :: l' => R x y ∧ pw R l l'
  | _, _ => False
def pur2 (os : List (Nat × Ob)) : D → D → Prop
  | .agg l, .agg l' => pw (pur1 os) l l'
  | .fn f [] l, .fn f' [] l' => f = f' ∧ pw (pur1 os) l l'
  | d, r => pur1 os d r
def pur3 (os : List (Nat × Ob)) : D → D → Prop
  | .tup l, .tup l' => pw (pur2 os) l l'
  | d, r => pur2 os d r

/-- Behind a function that computes 'r'. -/
def PR (r : D) : D → List (Nat × Ob) → Nat → Prop := fun d os _ => pur3 os d r
def G0 (I : Nat → Prop) : G := ⟨fun _ => none, fun _ => none, I⟩

/-- The contract of a function that computes 'r' of 'rs': it changes nothing that was there, and hands back what it was handed or new memory. -/
def PureFn (P : Program) (f : FuncId) (rs : List D) (r : D) : Prop :=
  (∃ fn, P.funcs[f]? = some fn ∧ (fn.name == "runtime.NumGoroutine") = false ∧ fn.body.isNone = false) ∧
  ∀ (I : Nat → Prop) (w : World) (vs : Array Value), (∀ b, I b → Cel w b) → vs.size = rs.length →
    (∀ (i : Nat) (v : Value) (d : D), vs[i]? = some v → rs[i]? = some d → VRel (G0 I) w v d) →
    Calls P f vs w fun e w' => ∃ v I', e = .returned v ∧ VRel (G0 I') w' v r ∧ Ext w w' ∧ (∀ b, I b → I' b) ∧ (∀ b, b < w.heap.size → I' b → I b) ∧ ∀ b, I' b → Cel w' b

section
variable {P : Program} {g g' : G} {s s' : St} {a : Act} {w w' : World} {n N : Nat}

theorem pw_get {R : D → D → Prop} : ∀ {l l' : List D}, pw R l l' → l.length = l'.length ∧ ∀ (i : Nat) (x y : D), l[i]? = some x → l'[i]? = some y → R x y
  | [], [], _ => ⟨rfl, fun i x y h => by simp at h⟩
  | x :: l, y :: l', h => by
    obtain ⟨h1, h2⟩ := h
    obtain ⟨h3, h4⟩ := pw_get h2
    refine ⟨by simp [h3], fun i u v hu hv => ?_⟩
    cases i with
    | zero => simp at hu hv; subst hu; subst hv; exact h1
    | succ i => exact h4 i u v (by simpa using hu) (by simpa using hv)
  | [], _ :: _, h => h.elim
  | _ :: _, [], h => h.elim

/-- Blocks that the pure reading needs. -/

theorem toCs_get : ∀ {ds : List D} {cs : List C} {i : Nat} {d : D} {x : C}, D.toCs ds = some cs → ds[i]? = some d → cs[i]? = some x → d.toC = some x
  | [], cs, i, d, x, h, hd, _ => by simp at hd
  | e :: l, cs, i, d, x, h, hd, hx => by
    simp only [D.toCs] at h
    split at h
    · rename_i y ys h1 h2
      cases h
      cases i with
      | zero => simp at hd hx; subst hd; subst hx; exact h1
      | succ i => exact toCs_get h2 (by simpa using hd) (by simpa using hx)
    · cases h
theorem toCs_len : ∀ {ds : List D} {cs : List C}, D.toCs ds = some cs → ds.length = cs.length
  | [], cs, h => by cases h; rfl
  | e :: l, cs, h => by
    simp only [D.toCs] at h
    split at h
    · rename_i y ys h1 h2
      cases h
      simp [toCs_len h2]
    · cases h
theorem toC_rel0 {g : G} {w : World} {v : Value} {d : D} {x : C} (hv : VRel g w v d) (h : d.toC = some x) : CRel g.I w v x := by
  cases d <;> simp only [D.toC, reduceCtorEq, Option.some.injEq] at h
  case c y => subst h; cases hv with | c _ _ hv => exact hv
  case nil => subst h; cases hv; exact .slnil _ _ (by simp [maxLen])
  case csl els => subst h; cases hv with | csl _ _ hv => exact hv
/-- A box that is never written again. -/
theorem box_rp {g : G} {s : St} {w : World} (ho : RelO g s w) {I : Nat → Prop} (hI : ∀ b, g.I b → I b) {id : Nat} {ds : List D} {cs : List C} (hl : lk id s.os = some (.box ds)) (hc : D.toCs ds = some cs) (hO : ∀ b, g.blk id (.box ds) = some b → I b) {v : Value} (hv : VRel g w v (.ref id 0)) : VRel (G0 I) w v (.rp cs) := by
  cases hv with
  | ref b _ _ hb =>
    obtain ⟨b', e, cells, h1, h2, h3, h4⟩ := ho.ok id _ hl
    rw [hb] at h1; cases h1
    refine .rp b 0 cs (fun j => cells.getD j .nilFunc) (hO b hb) fun j y hy => ?_
    have hj : j < cells.size := by rw [h3, toCs_len hc]; exact (List.getElem?_eq_some_iff.1 hy).1
    have hd := List.getElem?_eq_getElem (l := ds) (i := j) (by omega)
    have hv := h4 j _ _ (Array.getElem?_eq_getElem hj) hd
    have e1 : cells.getD j .nilFunc = cells[j] := by simp [Array.getD, hj]
    rw [e1]
    exact ⟨by simp [World.cell?, h2, Array.getElem?_eq_getElem hj], (toC_rel0 hv (toCs_get hc hd hy)).mono (fun _ _ => rfl) hI⟩

theorem pur1_sound {os : List (Nat × Ob)} (ho : RelO g s w) (hos : os = s.os ∨ os = []) {I : Nat → Prop} (hI : ∀ b, g.I b → I b) (hO : os = s.os → ∀ b, Own g s b → I b) {v : Value} {d r : D} (hv : VRel g w v d) (h : pur1 os d r) : VRel (G0 I) w v r := by
  have hk : Keeps g.I w w := fun _ _ => rfl
  cases d <;> cases r <;> simp only [pur1] at h <;> try (exact h.elim)
  case c.c x y =>
    subst h
    cases hv with
    | c _ _ hv => exact .c _ _ (hv.mono hk hI)
  case nil.c x =>
    cases x <;> simp only at h
    subst h
    cases hv
    exact .c _ _ (.slnil _ _ (by simp [maxLen]))
  case csl.c els x =>
    cases x <;> simp only at h
    subst h
    cases hv with
    | csl _ _ hv => exact .c _ _ (hv.mono hk hI)
  case vec.c id m x =>
    cases x <;> simp only at h
    rename_i els
    obtain ⟨rfl, hd, sz, e, hl⟩ := h
    rcases hos with rfl | rfl
    · cases hv with
      | vec a' cap' _ _ a0 len cap hkk hle hm ha hvq =>
        obtain ⟨a1, cap1, h1, h2, h3, h4, h5⟩ := ho.ok id _ hl
        rw [hkk] at h1; cases h1
        obtain ⟨rfl, rfl⟩ := hvq rfl
        rcases h5 with ⟨rfl, hc⟩ | ⟨b, off, cells, vs, rfl, h6, h7, h9, h8⟩
        · have : els = [] := List.eq_nil_of_length_eq_zero (by omega)
          subst this
          exact .c _ _ (.slnil _ _ h3)
        · refine .c _ _ (.sl b off cap' sz els vs (hO rfl b ⟨id, _, hl, by simp [G.blk, hkk]⟩) h2 h3 h4 (fun i j x y hx hy => ?_) (fun i j x y hx hy => ((h8 i j x y hx hy).2).mono hk hI))
          have := (h8 i j x y hx hy).1
          simp only [World.cell?, h6]
          simpa using this
    · cases hl
  case ref.rp id off cs =>
    cases off with
    | succ off => simp only [pur1] at h
    | zero =>
      obtain ⟨ds, hl, hc⟩ := h
      rcases hos with rfl | rfl
      · exact box_rp ho hI hl hc (fun b hb => hO rfl b ⟨id, _, hl, hb⟩) hv
      · cases hl

theorem pur2_sound {os : List (Nat × Ob)} (ho : RelO g s w) (hos : os = s.os ∨ os = []) {I : Nat → Prop} (hI : ∀ b, g.I b → I b) (hO : os = s.os → ∀ b, Own g s b → I b) {v : Value} {d r : D} (hv : VRel g w v d) (h : pur2 os d r) : VRel (G0 I) w v r := by
  unfold pur2 at h
  split at h
  · obtain ⟨h1, h2⟩ := pw_get h
    cases hv with
    | agg vs _ hl hp =>
      refine .agg vs _ (by omega) fun i u e hu he => ?_
      have hi : i < vs.size := by
        rcases Nat.lt_or_ge i vs.size with h | h
        · exact h
        · rw [Array.getElem?_eq_none h] at hu; cases hu
      have hd := List.getElem?_eq_getElem (l := _) (i := i) (by rw [← hl]; exact hi)
      exact pur1_sound ho hos hI hO (hp i u _ hu hd) (h2 i _ e hd he)
  · obtain ⟨rfl, h⟩ := h
    obtain ⟨h1, h2⟩ := pw_get h
    cases hv with
    | fn _ fi ca _ _ h3 h4 h5 h6 =>
      refine .fn _ fi ca _ _ h3 (by omega) (fun i u e hu he => by simp at he) fun i u e hu he => ?_
      have hi : i < ca.size := (Array.getElem?_eq_some_iff.1 hu).1
      have hd := List.getElem?_eq_getElem (l := _) (i := i) (by rw [← h4]; exact hi)
      exact pur1_sound ho hos hI hO (h6 i u _ hu hd) (h2 i _ e hd he)
  · exact pur1_sound ho hos hI hO hv h

theorem pur3_sound {os : List (Nat × Ob)} (ho : RelO g s w) (hos : os = s.os ∨ os = []) {I : Nat → Prop} (hI : ∀ b, g.I b → I b) (hO : os = s.os → ∀ b, Own g s b → I b) {v : Value} {d r : D} (hv : VRel g w v d) (h : pur3 os d r) : VRel (G0 I) w v r := by
  unfold pur3 at h
  split at h
  · obtain ⟨h1, h2⟩ := pw_get h
    cases hv with
    | tup vs _ hl hp =>
      refine .tup vs _ (by omega) fun i u e hu he => ?_
      have hi : i < vs.size := by
        rcases Nat.lt_or_ge i vs.size with h | h
        · exact h
        · rw [Array.getElem?_eq_none h] at hu; cases hu
      have hd := List.getElem?_eq_getElem (l := _) (i := i) (by rw [← hl]; exact hi)
      exact pur2_sound ho hos hI hO (hp i u _ hu hd) (h2 i _ e hd he)
  · exact pur2_sound ho hos hI hO hv h

theorem RelO.none (I : Nat → Prop) (w : World) (hI : ∀ b, I b → Cel w b) : RelO (G0 I) ⟨[], [], 0⟩ w :=
  ⟨fun id o h => (by cases h), fun id o id' o' b h => (by cases h), fun id _ => ⟨rfl, rfl⟩, fun b hb => ⟨(hI b hb).lt, fun ⟨id, o, h, _⟩ => by cases h⟩, hI⟩

/-- A contract, out of the function's code. -/
theorem PureFn.of {f : FuncId} {rs : List D} {r : D} (h : ACall P f rs [] 0 (PR r)) : PureFn P f rs r := by
  refine ⟨h.1, fun I w vs hI hsz hv => (h.2 (G0 I) w vs (RelO.none I w hI) hsz hv).mono ?_⟩
  rintro e w' ⟨v, d, g', os', nx', he, hq, hro, hvr, hst⟩
  have hno : ∀ b, ¬ Own (G0 I) ⟨[], [], 0⟩ b := fun b ⟨id, o, h, _⟩ => by cases h
  refine ⟨v, fun b => g'.I b ∨ Own g' ⟨[], os', nx'⟩ b, he, pur3_sound hro (.inl rfl) (fun b hb => .inl hb) (fun _ b hb => .inr hb) hvr hq, ⟨hst.size, fun b hb => hst.same b hb (hno b), hst.env⟩, fun b hb => .inl (hst.le.I b hb), fun b hb h => ?_, fun b h => ?_⟩
  · rcases h with h | h
    · exact hst.imm b hb (hno b) h
    · exact absurd h (hst.own b hb (hno b))
  · rcases h with h | h
    · exact hro.cel b h
    · exact Own.cel hro h

theorem VRel.of0 {I : Nat → Prop} (hI : ∀ b, I b → g.I b) {v : Value} {d : D} (h : VRel (G0 I) w v d) : VRel g w v d :=
  h.mono (fun _ _ => rfl) ⟨fun id b h => (by cases h), fun id a l c h => (by cases h), hI⟩

theorem args_pur {os : List (Nat × Ob)} (ho : RelO g s w) (hos : os = s.os ∨ os = []) {I : Nat → Prop} (hI : ∀ b, g.I b → I b) (hO : os = s.os → ∀ b, Own g s b → I b) {vs : Array Value} {ds rs : List D} (hl : vs.size = ds.length)
    (hv : ∀ (i : Nat) (v : Value) (d : D), vs[i]? = some v → ds[i]? = some d → VRel g w v d) (hp : pw (pur2 os) ds rs) :
    vs.size = rs.length ∧ ∀ (i : Nat) (v : Value) (d : D), vs[i]? = some v → rs[i]? = some d → VRel (G0 I) w v d := by
  obtain ⟨h1, h2⟩ := pw_get hp
  refine ⟨by omega, fun i v r hvi hr => ?_⟩
  have hi : i < vs.size := by
    rcases Nat.lt_or_ge i vs.size with h | h
    · exact h
    · rw [Array.getElem?_eq_none h] at hvi; cases hvi
  have hd := List.getElem?_eq_getElem (l := ds) (i := i) (by omega)
  exact pur2_sound ho hos hI hO (hv i v _ hvi hd) (h2 i _ r hd hr)

theorem RelO.grow (ho : RelO g s w) (he : Ext w w') {I : Nat → Prop} (hI : ∀ b, g.I b → I b) (hI' : ∀ b, b < w.heap.size → I b → g.I b) (hI'' : ∀ b, I b → Cel w' b) : RelO (g.imm I) s w' ∧ Step g s w (g.imm I) s w' := by
  have hle : g.Le (g.imm I) := ⟨fun _ _ h => h, fun _ a l c h => ⟨a, l, c, h, Nat.le_refl _, fun _ => ⟨rfl, rfl⟩⟩, hI⟩
  have hk : Keeps g.I w w' := fun b hb => he.2.1 b (ho.imm b hb).1
  have hblk : ∀ id o, (g.imm I).blk id o = g.blk id o := fun id o => by cases o <;> rfl
  have hown : ∀ b, Own (g.imm I) s b ↔ Own g s b := fun b => ⟨fun ⟨id, o, h1, h2⟩ => ⟨id, o, h1, by rwa [hblk] at h2⟩, fun ⟨id, o, h1, h2⟩ => ⟨id, o, h1, by rwa [hblk]⟩⟩
  refine ⟨⟨fun id o h => (ho.ok id o h).mono hk hle (fun b hb => he.2.1 b ((ho.ok id o h).lt.1 b hb)) rfl, fun id o id' o' b h1 h2 h3 h4 => ho.apart id o id' o' b h1 h2 (by rwa [hblk] at h3) (by rwa [hblk] at h4), ho.fresh, fun b hb => ⟨(hI'' b hb).lt, fun h => ?_⟩, hI''⟩,
    ⟨hle, he.1, fun b hb _ => he.2.1 b hb, fun b _ h h' => h ((hown b).1 h'), fun b hb _ h => hI' b hb h, he.2.2⟩⟩
  have h2 := (hown b).1 h
  exact (ho.imm b (hI' b (Own.lt ho h2) hb)).2 h2

/-- A call by a contract; what is handed over holds no slice that may still be written. -/
theorem PureFn.call {f : FuncId} {rs ds : List D} {r : D} (h : PureFn P f rs r) {os : List (Nat × Ob)} {nx : Nat} {Q : D → List (Nat × Ob) → Nat → Prop} (hp : pw (pur2 []) ds rs) (hQ : Q r os nx) : ACall P f ds os nx Q := by
  refine ⟨h.1, fun g w vs ho hsz hv => ?_⟩
  obtain ⟨h1, h2⟩ := args_pur ho (.inr rfl) (I := g.I) (fun b hb => hb) (fun e b ⟨id, o, h3, _⟩ => by rw [← e] at h3; cases h3) hsz hv hp
  refine (h.2 g.I w vs (fun b hb => ho.cel b hb) h1 h2).mono ?_
  rintro e w' ⟨v, I', he, hvr, hext, h3, h4, h5⟩
  obtain ⟨h6, h7⟩ := ho.grow hext h3 h4 h5
  exact ⟨v, r, g.imm I', os, nx, he, hQ, h6, hvr.of0 fun b hb => hb, h7⟩

theorem VRel.scal1 {v v' : Value} {r : D} (hs : r.scal1 = true) (h : VRel g w v r) (h' : VRel g' w' v' r) : v = v' := by
  cases r <;> simp only [D.scal1, Bool.false_eq_true] at hs
  rename_i x
  cases h with
  | c _ _ h => cases h' with
    | c _ _ h' => cases x <;> first | (simp at hs; done) | (cases h; cases h'; rfl)
theorem VRel.scal {v v' : Value} {r : D} (hs : r.scal = true) (h : VRel g w v r) (h' : VRel g' w' v' r) : v = v' := by
  unfold D.scal at hs
  split at hs
  · cases h with
    | tup vs _ hl hp => cases h' with
      | tup vs' _ hl' hp' =>
        congr 1
        apply Array.ext
        · omega
        · intro i h1 h2
          have hd := List.getElem?_eq_getElem (l := _) (i := i) (by rw [← hl]; exact h1)
          exact VRel.scal1 (List.all_eq_true.1 hs _ (List.getElem_mem _)) (hp i _ _ (Array.getElem?_eq_getElem h1) hd) (hp' i _ _ (Array.getElem?_eq_getElem h2) hd)
  · cases h with
    | agg vs _ hl hp => cases h' with
      | agg vs' _ hl' hp' =>
        congr 1
        apply Array.ext
        · omega
        · intro i h1 h2
          have hd := List.getElem?_eq_getElem (l := _) (i := i) (by rw [← hl]; exact h1)
          exact VRel.scal1 (List.all_eq_true.1 hs _ (List.getElem_mem _)) (hp i _ _ (Array.getElem?_eq_getElem h1) hd) (hp' i _ _ (Array.getElem?_eq_getElem h2) hd)
  · exact VRel.scal1 hs h h'
theorem VRel.any1 {v : Value} {r : D} (hs : r.scal1 = true) (h : VRel g w v r) : VRel g' w' v r := by
  cases r <;> simp only [D.scal1, Bool.false_eq_true] at hs
  rename_i x
  cases h with
  | c _ _ h =>
    refine .c _ _ ?_
    cases x <;> first | (simp at hs; done) | skip
    all_goals cases h; constructor
theorem VRel.any {v : Value} {r : D} (hs : r.scal = true) (h : VRel g w v r) : VRel g' w' v r := by
  unfold D.scal at hs
  split at hs
  · cases h with
    | tup vs _ hl hp => exact .tup vs _ hl fun i u d hu hd => VRel.any1 (List.all_eq_true.1 hs _ (List.mem_of_getElem? hd)) (hp i u d hu hd)
  · cases h with
    | agg vs _ hl hp => exact .agg vs _ hl fun i u d hu hd => VRel.any1 (List.all_eq_true.1 hs _ (List.mem_of_getElem? hd)) (hp i u d hu hd)
  · exact VRel.any1 hs h

/-- A call by a contract whose result is numbers alone: slices of one's own may be handed over, and stay one's own. -/
theorem PureFn.lend {f : FuncId} {rs ds : List D} {r : D} (h : PureFn P f rs r) (hs : r.scal = true) {os : List (Nat × Ob)} {nx : Nat} {Q : D → List (Nat × Ob) → Nat → Prop} (hp : pw (pur2 os) ds rs) (hQ : Q r os nx) : ACall P f ds os nx Q := by
  refine ⟨h.1, fun g w vs ho hsz hv => ?_⟩
  obtain ⟨h1, h2⟩ := args_pur ho (.inl rfl) (I := fun b => g.I b ∨ Own g ⟨[], os, nx⟩ b) (fun b hb => .inl hb) (fun _ b hb => .inr hb) hsz hv hp
  refine (h.2 _ w vs (fun b hb => hb.elim (fun hb => ho.cel b hb) (Own.cel ho)) h1 h2).mono ?_
  rintro e w' ⟨v, I', he, hvr, hext, h3, h4, h5⟩
  obtain ⟨h6, h7⟩ := ho.grow hext (I := g.I) (fun b hb => hb) (fun b _ hb => hb) (fun b hb => (ho.cel b hb).keep (hext.2.1 b (ho.imm b hb).1))
  exact ⟨v, r, g.imm g.I, os, nx, he, hQ, h6, hvr.any hs, h7⟩

/-! ### A table of contracts -/
theorem pure1_pur {os : List (Nat × Ob)} {d x : D} (h : pure1 os d = some x) : pur1 os d x := by
  unfold pure1 at h
  split at h
  · cases h; rfl
  · cases h; rfl
  · cases h; rfl
  · split at h
    · rename_i hd sz e els hl
      split at h
      · rename_i hn
        cases h
        exact ⟨hn, hd, sz, e, hl⟩
      · cases h
    · cases h
  · cases h
theorem pures1_pur {os : List (Nat × Ob)} : ∀ {l xs : List D}, pures1 os l = some xs → pw (pur1 os) l xs
  | [], xs, h => by cases h; trivial
  | d :: l, xs, h => by
    simp only [pures1] at h
    split at h
    · rename_i h1 h2
      cases h
      exact ⟨pure1_pur h1, pures1_pur h2⟩
    · cases h
theorem pur1_2 {os : List (Nat × Ob)} {d x : D} (h : pur1 os d x) : pur2 os d x := by
  cases d <;> first | exact h | skip
  all_goals (cases x <;> first | exact h.elim | exact h)
theorem pure2_pur {os : List (Nat × Ob)} {d x : D} (h : pure2 os d = some x) : pur2 os d x := by
  unfold pure2 at h
  split at h
  · split at h
    · rename_i h1
      cases h
      exact pures1_pur h1
    · cases h
  · exact pur1_2 (pure1_pur h)
theorem pures2_pur {os : List (Nat × Ob)} : ∀ {l xs : List D}, pures2 os l = some xs → pw (pur2 os) l xs
  | [], xs, h => by cases h; trivial
  | d :: l, xs, h => by
    simp only [pures2] at h
    split at h
    · rename_i h1 h2
      cases h
      exact ⟨pure2_pur h1, pures2_pur h2⟩
    · cases h

theorem vids1_mem {os : List (Nat × Ob)} {id : Nat} : ∀ {l : List D}, id ∈ vids1 l → ∃ d ∈ l, id ∈ vid1 d
  | [], h => by cases h
  | d :: l, h => by
    simp only [vids1, List.mem_append] at h
    rcases h with h | h
    · exact ⟨d, by simp, h⟩
    · obtain ⟨d', h1, h2⟩ := vids1_mem (os := os) h
      exact ⟨d', by simp [h1], h2⟩

theorem pur1_give {os : List (Nat × Ob)} (ho : RelO g s w) (hos : os = s.os) {I : Nat → Prop} (hI : ∀ b, g.I b → I b) {v : Value} {d r : D} (hO : ∀ id ∈ vid1 d, ∀ b o, lk id os = some o → g.blk id o = some b → I b) (hv : VRel g w v d) (h : pur1 os d r) : VRel (G0 I) w v r := by
  have hk : Keeps g.I w w := fun _ _ => rfl
  cases d <;> cases r <;> simp only [pur1] at h <;> try (exact h.elim)
  case c.c x y =>
    subst h
    cases hv with
    | c _ _ hv => exact .c _ _ (hv.mono hk hI)
  case nil.c x =>
    cases x <;> simp only at h
    subst h
    cases hv
    exact .c _ _ (.slnil _ _ (by simp [maxLen]))
  case csl.c els x =>
    cases x <;> simp only at h
    subst h
    cases hv with
    | csl _ _ hv => exact .c _ _ (hv.mono hk hI)
  case vec.c id m x =>
    cases x <;> simp only at h
    rename_i els
    obtain ⟨rfl, hd, sz, e, hl⟩ := h
    subst hos
    cases hv with
    | vec a' cap' _ _ a0 len cap hkk hle hm ha hvq =>
      obtain ⟨a1, cap1, h1, h2, h3, h4, h5⟩ := ho.ok id _ hl
      rw [hkk] at h1; cases h1
      obtain ⟨rfl, rfl⟩ := hvq rfl
      rcases h5 with ⟨rfl, hc⟩ | ⟨b, off, cells, vs, rfl, h6, h7, h9, h8⟩
      · have : els = [] := List.eq_nil_of_length_eq_zero (by omega)
        subst this
        exact .c _ _ (.slnil _ _ h3)
      · refine .c _ _ (.sl b off cap' sz els vs (hO id (by simp [vid1]) b _ hl (by simp [G.blk, hkk])) h2 h3 h4 (fun i j x y hx hy => ?_) (fun i j x y hx hy => ((h8 i j x y hx hy).2).mono hk hI))
        have := (h8 i j x y hx hy).1
        simp only [World.cell?, h6]
        simpa using this
  case ref.rp id off cs =>
    cases off with
    | succ off => simp only [pur1] at h
    | zero =>
      obtain ⟨ds, hl, hc⟩ := h
      subst hos
      exact box_rp ho hI hl hc (fun b hb => hO id (by simp [vid1]) b _ hl hb) hv

theorem vids1_get : ∀ {l : List D} {i : Nat} {d : D} {id : Nat}, l[i]? = some d → id ∈ vid1 d → id ∈ vids1 l
  | [], i, d, id, h, _ => by simp at h
  | x :: l, 0, d, id, h, hd => by simp at h; subst h; simp [vids1, hd]
  | x :: l, i + 1, d, id, h, hd => by simp only [vids1, List.mem_append]; exact .inr (vids1_get (by simpa using h) hd)
theorem vids2_get : ∀ {l : List D} {i : Nat} {d : D} {id : Nat}, l[i]? = some d → id ∈ vid2 d → id ∈ vids2 l
  | [], i, d, id, h, _ => by simp at h
  | x :: l, 0, d, id, h, hd => by simp at h; subst h; simp [vids2, hd]
  | x :: l, i + 1, d, id, h, hd => by simp only [vids2, List.mem_append]; exact .inr (vids2_get (by simpa using h) hd)

theorem pur2_give {os : List (Nat × Ob)} (ho : RelO g s w) (hos : os = s.os) {I : Nat → Prop} (hI : ∀ b, g.I b → I b) {v : Value} {d r : D} (hO : ∀ id ∈ vid2 d, ∀ b o, lk id os = some o → g.blk id o = some b → I b) (hv : VRel g w v d) (h : pur2 os d r) : VRel (G0 I) w v r := by
  unfold pur2 at h
  split at h
  · obtain ⟨h1, h2⟩ := pw_get h
    cases hv with
    | agg vs _ hl hp =>
      refine .agg vs _ (by omega) fun i u e hu he => ?_
      have hi : i < vs.size := by
        rcases Nat.lt_or_ge i vs.size with h | h
        · exact h
        · rw [Array.getElem?_eq_none h] at hu; cases hu
      have hd := List.getElem?_eq_getElem (l := _) (i := i) (by rw [← hl]; exact hi)
      exact pur1_give ho hos hI (fun id hid => hO id (vids1_get hd hid)) (hp i u _ hu hd) (h2 i _ e hd he)
  · obtain ⟨rfl, h⟩ := h
    obtain ⟨h1, h2⟩ := pw_get h
    cases hv with
    | fn _ fi ca _ _ h3 h4 h5 h6 =>
      refine .fn _ fi ca _ _ h3 (by omega) (fun i u e hu he => by simp at he) fun i u e hu he => ?_
      have hi : i < ca.size := (Array.getElem?_eq_some_iff.1 hu).1
      have hd := List.getElem?_eq_getElem (l := _) (i := i) (by rw [← h4]; exact hi)
      exact pur1_give ho hos hI (fun id hid => hO id (vids1_get hd hid)) (h6 i u _ hu hd) (h2 i _ e hd he)
  · rename_i hne hne'
    refine pur1_give ho hos hI (fun id hid => hO id ?_) hv h
    cases d <;> first | exact hid | (cases hid; done) | skip

/-- A call by a contract; slices of one's own that are handed over are given away. -/
theorem PureFn.give {f : FuncId} {rs ds : List D} {r : D} (h : PureFn P f rs r) {os : List (Nat × Ob)} {nx : Nat} {Q : D → List (Nat × Ob) → Nat → Prop} (hp : pw (pur2 os) ds rs) (hQ : Q r (rmv os (vids2 ds)) nx) : ACall P f ds os nx Q := by
  refine ⟨h.1, fun g w vs ho hsz hv => ?_⟩
  obtain ⟨h8, h9⟩ := ho.give (vids2 ds)
  obtain ⟨hp1, hp2⟩ := pw_get hp
  have h2 : ∀ (i : Nat) (v : Value) (d : D), vs[i]? = some v → rs[i]? = some d → VRel (G0 (g.imm fun b => g.I b ∨ ∃ id ∈ vids2 ds, ∃ o, lk id os = some o ∧ g.blk id o = some b).I) w v d := fun i v r hvi hr => by
    have hi : i < vs.size := by
      rcases Nat.lt_or_ge i vs.size with h | h
      · exact h
      · rw [Array.getElem?_eq_none h] at hvi; cases hvi
    have hd := List.getElem?_eq_getElem (l := ds) (i := i) (by omega)
    exact pur2_give ho rfl (fun b hb => .inl hb) (fun id hid b o h3 h4 => .inr ⟨id, vids2_get hd hid, o, h3, h4⟩) (hv i v _ hvi hd) (hp2 i _ r hd hr)
  refine (h.2 _ w vs (fun b hb => h8.cel b hb) (by omega) h2).mono ?_
  rintro e w' ⟨v, I', he, hvr, hext, h3, h4, h5⟩
  obtain ⟨h6, h7⟩ := h8.grow hext h3 h4 h5
  exact ⟨v, r, _, _, nx, he, hQ, h6, hvr.of0 fun b hb => hb, h9.trans h7⟩

end
end Dm
