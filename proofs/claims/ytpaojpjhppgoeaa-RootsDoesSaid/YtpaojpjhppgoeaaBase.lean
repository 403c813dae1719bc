import Derived.WalkKit
set_option linter.unusedSimpArgs false
set_option linter.unusedVariables false
/-! Pure data, abstract values, abstract states, and what they say of a machine's memory. -/
namespace Dm
open Go

/-- Pure data: one cell. A slice holds its elements' cells. -/
inductive C where
  | bool (b : Bool)
  | int (k : IntKind) (n : Int)
  | flt (k : FloatKind) (bits : Nat)
  | str (s : ByteArray)
  | sl (els : List (List C))
  | junk

/-- Abstract values. -/
inductive D where
  | undef
  | skip
  | c (x : C)
  | ref (id off : Nat)
  | eref (id n sz i off : Nat)
  | rp (cs : List C)
  | nilp
  | nilf
  | fn (f : Fn) (first captured : List D)
  | nil
  | csl (els : List (List C))
  | vec (id n : Nat)
  | view (id c sz lo hi : Nat)
  | agg (cs : List D)
  | tup (l : List D)

@[match_pattern] abbrev D.int (k : IntKind) (n : Int) : D := .c (.int k n)
@[match_pattern] abbrev D.bool (b : Bool) : D := .c (.bool b)
@[match_pattern] abbrev D.sl (els : List (List C)) : D := .c (.sl els)

/-- Abstract objects: a row of cells of its own; a slice of its own that may grow. -/
inductive Ob where
  | box (cs : List D)
  | vec (hd : Bool) (sz : Nat) (e : TypeId) (els : List (List C))

structure St where
  tm : List (Nat × D)
  os : List (Nat × Ob)
  nx : Nat

def lk {α : Type} : Nat → List (Nat × α) → Option α
  | _, [] => none
  | n, (m, x) :: l => if n = m then some x else lk n l

/-- 'v' reads as 'x', out of blocks of I alone. -/
inductive CRel (I : Nat → Prop) (w : World) : Value → C → Prop where
  | bool (b : Bool) : CRel I w (.bool b) (.bool b)
  | int (k : IntKind) (n : Int) : CRel I w (.int k n) (.int k n)
  | flt (k : FloatKind) (n : Nat) : CRel I w (.float k n) (.flt k n)
  | str (s : ByteArray) : CRel I w (.string s) (.str s)
  | slnil (a : Option Addr) (cap : Nat) (hc : cap ≤ maxLen) : CRel I w (.slice a 0 cap) (.sl [])
  | junk (v : Value) (h : v.oneCell' = true) (h' : v.cells = #[v]) : CRel I w v .junk
  | sl (b off cap sz : Nat) (els : List (List C)) (vs : Nat → Nat → Value) (hI : I b) (hl : els.length ≤ cap) (hc : cap ≤ maxLen)
      (hsz : ∀ x ∈ els, x.length = sz)
      (hcell : ∀ (i j : Nat) (x : List C) (y : C), els[i]? = some x → x[j]? = some y → w.cell? ⟨b, off + i * sz + j, none⟩ = some (vs i j))
      (hrel : ∀ (i j : Nat) (x : List C) (y : C), els[i]? = some x → x[j]? = some y → CRel I w (vs i j) y) :
      CRel I w (.slice (some ⟨b, off, none⟩) els.length cap) (.sl els)

/-- The ghost: where objects lie; which blocks are never written. -/
structure G where
  ρ : Nat → Option Nat
  κ : Nat → Option (Option Addr × Nat × Nat)
  I : Nat → Prop

inductive VRel (g : G) (w : World) : Value → D → Prop where
  | undef (v : Value) : VRel g w v .undef
  | skip : VRel g w undef .skip
  | c (v : Value) (x : C) (h : CRel g.I w v x) : VRel g w v (.c x)
  | ref (b id off : Nat) (h : g.ρ id = some b) : VRel g w (.pointer (some ⟨b, off, none⟩)) (.ref id off)
  | eref (b o id n sz i off : Nat) (a : Option Addr) (len cap : Nat) (h : g.κ id = some (a, len, cap)) (hn : n ≤ len)
      (hv : n = len → ∃ o', a = some ⟨b, o', none⟩ ∧ o = o' + i * sz + off) : VRel g w (.pointer (some ⟨b, o, none⟩)) (.eref id n sz i off)
  | rp (b off : Nat) (cs : List C) (vs : Nat → Value) (hI : g.I b)
      (hcell : ∀ (j : Nat) (y : C), cs[j]? = some y → w.cell? ⟨b, off + j, none⟩ = some (vs j) ∧ CRel g.I w (vs j) y) : VRel g w (.pointer (some ⟨b, off, none⟩)) (.rp cs)
  | nilp : VRel g w (.pointer none) .nilp
  | nilf : VRel g w .nilFunc .nilf
  | fn (f : Fn) (fi ca : Array Value) (dfi dca : List D) (h1 : fi.size = dfi.length) (h2 : ca.size = dca.length)
      (hfi : ∀ (i : Nat) (v : Value) (d : D), fi[i]? = some v → dfi[i]? = some d → VRel g w v d) (hca : ∀ (i : Nat) (v : Value) (d : D), ca[i]? = some v → dca[i]? = some d → VRel g w v d) :
      VRel g w (.func f fi ca) (.fn f dfi dca)
  | nil : VRel g w (.slice none 0 0) .nil
  | csl (a : Option Addr) (els : List (List C)) (h : CRel g.I w (.slice a els.length els.length) (.sl els)) :
      VRel g w (.slice a els.length els.length) (.csl els)
  | vec (a' : Option Addr) (cap' id n : Nat) (a : Option Addr) (len cap : Nat) (h : g.κ id = some (a, len, cap)) (hn : n ≤ len) (hm : n ≤ maxLen)
      (ha : n = 0 ∨ ∃ b o, a' = some ⟨b, o, none⟩) (hv : n = len → a' = a ∧ cap' = cap) : VRel g w (.slice a' n cap') (.vec id n)
  | view (a' : Option Addr) (cap' id c sz lo hi : Nat) (a : Option Addr) (len cap : Nat) (h : g.κ id = some (a, len, cap)) (hc : c ≤ len) (hl : lo ≤ hi) (hh : hi ≤ c) (hm : c ≤ maxLen)
      (hv : c = len → cap = c ∧ cap' = c - lo ∧ (a = none → a' = none) ∧ ∀ b o, a = some ⟨b, o, none⟩ → (lo < c ∨ lo = 0 → a' = some ⟨b, o + lo * sz, none⟩) ∧ ∃ o', a' = some ⟨b, o', none⟩) : VRel g w (.slice a' (hi - lo) cap') (.view id c sz lo hi)
  | agg (vs : Array Value) (ds : List D) (h : vs.size = ds.length) (hp : ∀ (i : Nat) (v : Value) (d : D), vs[i]? = some v → ds[i]? = some d → VRel g w v d) : VRel g w (.agg vs) (.agg ds)
  | tup (vs : Array Value) (ds : List D) (h : vs.size = ds.length) (hp : ∀ (i : Nat) (v : Value) (d : D), vs[i]? = some v → ds[i]? = some d → VRel g w v d) : VRel g w (.tuple vs) (.tup ds)

/-- The ghost grows. -/
structure G.Le (g g' : G) : Prop where
  ρ : ∀ id b, g.ρ id = some b → g'.ρ id = some b
  κ : ∀ id a l c, g.κ id = some (a, l, c) → ∃ a' l' c', g'.κ id = some (a', l', c') ∧ l ≤ l' ∧ (l = l' → a = a' ∧ c = c')
  I : ∀ b, g.I b → g'.I b

theorem G.Le.refl (g : G) : g.Le g := ⟨fun _ _ h => h, fun _ a l c h => ⟨a, l, c, h, Nat.le_refl _, fun _ => ⟨rfl, rfl⟩⟩, fun _ h => h⟩
theorem G.Le.trans {g g' g'' : G} (h : g.Le g') (h' : g'.Le g'') : g.Le g'' where
  ρ id b hb := h'.ρ id b (h.ρ id b hb)
  κ id a l c hk := by
    obtain ⟨a', l', c', h1, h2, h3⟩ := h.κ id a l c hk
    obtain ⟨a'', l'', c'', h4, h5, h6⟩ := h'.κ id a' l' c' h1
    refine ⟨a'', l'', c'', h4, Nat.le_trans h2 h5, fun e => ?_⟩
    have e1 : l = l' := by omega
    have e2 : l' = l'' := by omega
    exact ⟨(h3 e1).1.trans (h6 e2).1, (h3 e1).2.trans (h6 e2).2⟩
  I b hb := h'.I b (h.I b hb)

/-- Blocks of I read as they did. -/
def Keeps (I : Nat → Prop) (w w' : World) : Prop := ∀ b, I b → w'.heap[b]? = w.heap[b]?

theorem Keeps.cell {I : Nat → Prop} {w w' : World} (h : Keeps I w w') {b off : Nat} (hb : I b) : w'.cell? ⟨b, off, none⟩ = w.cell? ⟨b, off, none⟩ := by
  simp only [World.cell?, h b hb]

theorem CRel.mono {I I' : Nat → Prop} {w w' : World} {v : Value} {x : C} (h : CRel I w v x) (hk : Keeps I w w') (hI : ∀ b, I b → I' b) : CRel I' w' v x := by
  induction h with
  | bool b => exact .bool b
  | int k n => exact .int k n
  | flt k n => exact .flt k n
  | str s => exact .str s
  | slnil a cap hc => exact .slnil a cap hc
  | junk v h h' => exact .junk v h h'
  | sl b off cap sz els vs hb hl hc hsz hcell hrel ih =>
    exact .sl b off cap sz els vs (hI b hb) hl hc hsz (fun i j x y h1 h2 => by rw [hk.cell hb]; exact hcell i j x y h1 h2) ih

theorem VRel.mono {g g' : G} {w w' : World} {v : Value} {d : D} (h : VRel g w v d) (hk : Keeps g.I w w') (hg : g.Le g') : VRel g' w' v d := by
  induction h with
  | undef v => exact .undef v
  | skip => exact .skip
  | c v x h => exact .c v x (h.mono hk hg.I)
  | ref b id off h => exact .ref b id off (hg.ρ _ _ h)
  | eref b o id n sz i off a len cap h hn hv =>
    obtain ⟨a', l', c', h1, h2, h3⟩ := hg.κ _ _ _ _ h
    refine .eref b o id n sz i off a' l' c' h1 (Nat.le_trans hn h2) fun e => ?_
    have e1 : n = len := by omega
    have e2 : len = l' := by omega
    rw [← (h3 e2).1]
    exact hv e1
  | rp b off cs vs hI hcell =>
    exact .rp b off cs vs (hg.I _ hI) fun j y hy => ⟨by rw [hk.cell hI]; exact (hcell j y hy).1, (hcell j y hy).2.mono hk hg.I⟩
  | nilp => exact .nilp
  | nilf => exact .nilf
  | fn f fi ca dfi dca h1 h2 _ _ ih1 ih2 => exact .fn f fi ca dfi dca h1 h2 ih1 ih2
  | nil => exact .nil
  | csl a els h => exact .csl a els (h.mono hk hg.I)
  | vec x y id n a len cap h hn hm ha hv =>
    obtain ⟨a', l', c', h1, h2, h3⟩ := hg.κ _ _ _ _ h
    refine .vec x y id n a' l' c' h1 (Nat.le_trans hn h2) hm ha fun e => ?_
    have e1 : n = len := by omega
    have e2 : len = l' := by omega
    rw [← (h3 e2).1, ← (h3 e2).2]
    exact hv e1
  | view x y id c sz lo hi a len cap h hc hl hh hm hv =>
    obtain ⟨a', l', c', h1, h2, h3⟩ := hg.κ _ _ _ _ h
    refine .view x y id c sz lo hi a' l' c' h1 (Nat.le_trans hc h2) hl hh hm fun e => ?_
    have e1 : c = len := by omega
    have e2 : len = l' := by omega
    rw [← (h3 e2).1, ← (h3 e2).2]
    exact hv e1
  | agg vs ds h _ ih => exact .agg vs ds h ih
  | tup vs ds h _ ih => exact .tup vs ds h ih

/-- What is no memory is as it was. -/
structure Env (w w' : World) : Prop where
  os : w'.os = w.os
  out : w'.output = w.output
  tape : w'.tape = w.tape
theorem Env.refl (w : World) : Env w w := ⟨rfl, rfl, rfl⟩
theorem Env.trans {w w' w'' : World} (h : Env w w') (h' : Env w' w'') : Env w w'' := ⟨h'.os.trans h.os, h'.out.trans h.out, h'.tape.trans h.tape⟩
/-- A later world, in which what was is as it was. -/
def Ext (w w' : World) : Prop := w.heap.size ≤ w'.heap.size ∧ (∀ b, b < w.heap.size → w'.heap[b]? = w.heap[b]?) ∧ Env w w'
theorem Ext.refl (w : World) : Ext w w := ⟨Nat.le_refl _, fun _ _ => rfl, .refl w⟩
theorem Ext.cell {w w' : World} (h : Ext w w') {b off : Nat} {v : Value} (hc : w.cell? ⟨b, off, none⟩ = some v) : w'.cell? ⟨b, off, none⟩ = some v := by
  have hb : b < w.heap.size := by
    rcases Nat.lt_or_ge b w.heap.size with h1 | h1
    · exact h1
    · simp [World.cell?, Array.getElem?_eq_none h1] at hc
  rw [← hc]
  simp only [World.cell?, h.2.1 b hb]
/-- It comes to 'r', in this world and in each later one, and leaves that as it is. -/
def Runs {α : Type} (P : Program) (e : Sem α) (w : World) (r : α) : Prop := ∀ w', Ext w w' → e.run P w' = .ok r w'
theorem Runs.here {α : Type} {P : Program} {e : Sem α} {w : World} {r : α} (h : Runs P e w r) : e.run P w = .ok r w := h w (.refl w)

/-- The block of an object of its own. -/
def G.blk (g : G) (id : Nat) : Ob → Option Nat
  | .box _ => g.ρ id
  | .vec .. => match g.κ id with
    | some (some a, _, _) => some a.block
    | _ => none

/-- An object, and its block. -/
def OK (g : G) (w : World) (id : Nat) : Ob → Prop
  | .box cs => ∃ b e cells, g.ρ id = some b ∧ w.heap[b]? = some (.cells cells e (0, 0)) ∧ cells.size = cs.length ∧ ∀ (i : Nat) (v : Value) (d : D), cells[i]? = some v → cs[i]? = some d → VRel g w v d
  | .vec hd sz e els => ∃ a cap, g.κ id = some (a, els.length, cap) ∧ els.length ≤ cap ∧ cap ≤ maxLen ∧ (∀ x ∈ els, x.length = sz) ∧
      ((a = none ∧ cap = 0) ∨ ∃ (b off : Nat) (cells : Array Value) (vs : Nat → Nat → Value), a = some ⟨b, off, none⟩ ∧ w.heap[b]? = some (.cells cells e (0, 0)) ∧ off + cap * sz ≤ cells.size ∧ ((hd = true → off = 0 ∧ cells.size = cap * sz) ∧ ∀ v ∈ cells.toList, v.oneCell' = true) ∧
        ∀ (i j : Nat) (x : List C) (y : C), els[i]? = some x → x[j]? = some y → cells[off + i * sz + j]? = some (vs i j) ∧ CRel g.I w (vs i j) y)

def Own (g : G) (s : St) (b : Nat) : Prop := ∃ id o, lk id s.os = some o ∧ g.blk id o = some b

/-- A block of cells. -/
def Cel (w : World) (b : Nat) : Prop := ∃ cells e fz, w.heap[b]? = some (.cells cells e fz)
theorem Cel.lt {w : World} {b : Nat} (h : Cel w b) : b < w.heap.size := by
  obtain ⟨cells, e, fz, h⟩ := h
  exact (Array.getElem?_eq_some_iff.1 h).1
theorem Cel.keep {w w' : World} {b : Nat} (h : Cel w b) (hk : w'.heap[b]? = w.heap[b]?) : Cel w' b := by
  obtain ⟨cells, e, fz, h⟩ := h
  exact ⟨cells, e, fz, hk.trans h⟩

/-- The objects' part of what a state says. -/
structure RelO (g : G) (s : St) (w : World) : Prop where
  ok : ∀ id o, lk id s.os = some o → OK g w id o
  apart : ∀ id o id' o' b, lk id s.os = some o → lk id' s.os = some o' → g.blk id o = some b → g.blk id' o' = some b → id = id'
  fresh : ∀ id, s.nx ≤ id → g.ρ id = none ∧ g.κ id = none
  imm : ∀ b, g.I b → b < w.heap.size ∧ ¬ Own g s b
  cel : ∀ b, g.I b → Cel w b

structure Rel (δ : List Deferred) (g : G) (s : St) (a : Act) (w : World) : Prop where
  tm : ∀ t d, lk t s.tm = some d → ∃ v, a.tmps[t]? = some v ∧ VRel g w v d
  defers : a.defers = δ
  o : RelO g s w

/-- From one state to a later one: what was not its own is as it was. -/
structure Step (g : G) (s : St) (w : World) (g' : G) (s' : St) (w' : World) : Prop where
  le : g.Le g'
  size : w.heap.size ≤ w'.heap.size
  same : ∀ b, b < w.heap.size → ¬ Own g s b → w'.heap[b]? = w.heap[b]?
  own : ∀ b, b < w.heap.size → ¬ Own g s b → ¬ Own g' s' b
  imm : ∀ b, b < w.heap.size → ¬ Own g s b → g'.I b → g.I b
  env : Env w w'

theorem Step.refl (g : G) (s : St) (w : World) : Step g s w g s w := ⟨.refl g, Nat.le_refl _, fun _ _ _ => rfl, fun _ _ h => h, fun _ _ _ h => h, .refl w⟩
theorem Step.trans {g g' g'' : G} {s s' s'' : St} {w w' w'' : World} (h : Step g s w g' s' w') (h' : Step g' s' w' g'' s'' w'') : Step g s w g'' s'' w'' where
  le := h.le.trans h'.le
  size := Nat.le_trans h.size h'.size
  same b hb ho := (h'.same b (Nat.lt_of_lt_of_le hb h.size) (h.own b hb ho)).trans (h.same b hb ho)
  own b hb ho := h'.own b (Nat.lt_of_lt_of_le hb h.size) (h.own b hb ho)
  imm b hb ho hi := h.imm b hb ho (h'.imm b (Nat.lt_of_lt_of_le hb h.size) (h.own b hb ho) hi)
  env := h.env.trans h'.env

theorem Step.keeps {g g' : G} {s s' : St} {w w' : World} (h : Step g s w g' s' w') (ho : RelO g s w) : Keeps g.I w w' :=
  fun b hb => h.same b (ho.imm b hb).1 (ho.imm b hb).2

theorem Step.vrel {g g' : G} {s s' : St} {w w' : World} {v : Value} {d : D} (h : Step g s w g' s' w') (ho : RelO g s w) (hv : VRel g w v d) : VRel g' w' v d :=
  hv.mono (h.keeps ho) h.le
end Dm
