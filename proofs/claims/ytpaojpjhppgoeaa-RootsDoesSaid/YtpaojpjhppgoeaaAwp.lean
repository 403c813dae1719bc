import Derived.Test.YtpaojpjhppgoeaaOps
set_option linter.unusedSimpArgs false
set_option linter.unusedVariables false
/-! What must be shown of a function's code, by the abstract machine. -/
namespace Dm
open Go

/-! ### Parts -/
def fillD (place : Nat → Option (Nat × Nat)) (cells : List D) : List (Nat × D) → Option (List D)
  | [] => some cells
  | (i, v) :: rest => match place i, v.cells? with
    | some (off, size), some vs => if vs.length = size ∧ off + vs.length ≤ cells.length then fillD place (setAt cells off vs) rest else none
    | _, _ => none
/-- Where a part of a struct, or an array, lies. -/
def plcOf (P : Program) (t : TypeId) (i : Nat) : Option (Nat × Nat) :=
  match P.underlying t with
  | some (.struct fs) => match fs[i]? with
    | some d => match P.info? d.type with
      | some k => some (d.offset, k.size)
      | none => none
    | none => none
  | some (.array _ e) => match P.info? e with
    | some k => some (i * k.size, k.size)
    | none => none
  | _ => none
/-- Is every field's type known? -/
def bldOk (P : Program) (t : TypeId) : Bool :=
  match P.underlying t with
  | some (.struct fs) => fs.toList.all fun d => (P.info? d.type).isSome
  | some (.array _ e) => (P.info? e).isSome
  | _ => false
def bldOf (P : Program) (t : TypeId) : Option (List D) :=
  match zOf P t with
  | some (.agg cs) => if bldOk P t = true then some cs else none
  | _ => none
def buildD (P : Program) (t : TypeId) (ps : List (Nat × D)) : Option D :=
  match bldOf P t with
  | some cs => match fillD (plcOf P t) cs ps with
    | some ds => some (.agg ds)
    | none => none
  | none => none
def fillS (z : Nat) (els : List (List C)) : List (Nat × D) → Option (List (List C))
  | [] => some els
  | (i, v) :: rest => match v.cells? with
    | some vs => match D.toCs vs with
      | some xs => if xs.length = z ∧ i < els.length then fillS z (els.set i xs) rest else none
      | none => none
    | none => none
def bslD (P : Program) (t : TypeId) (len : Nat) (ps : List (Nat × D)) : Option (Nat × TypeId × List (List C)) :=
  match elOf P t with
  | some (e, z, _) => match zcOf P e with
    | some zc => if len * z ≤ 16777216 ∧ zc.length = z ∧ z ≠ 0 then match fillS z (List.replicate len zc) ps with
        | some els => some (z, e, els)
        | none => none
      else none
    | none => none
  | none => none
/-- What a slice holds. -/
def St.els (s : St) : D → Option (List (List C))
  | .nil => some []
  | .c (.sl els) => some els
  | .csl els => some els
  | .vec id n => match lk id s.os with
    | some (.vec _ _ _ els) => if n = els.length then some els else none
    | _ => none
  | .view id c sz lo hi => match lk id s.os with
    | some (.vec _ sz' _ els) => if c = els.length ∧ sz = sz' then some ((els.take hi).drop lo) else none
    | _ => none
  | _ => none
/-- Just so many elements; those that are lacking may be anything. -/
def fit (c sz : Nat) (els : List (List C)) : List (List C) := (els ++ List.replicate (c - els.length) (List.replicate sz C.junk)).take c
/-- 'append(s[..], make(.., k)...)' of a view that has no room. -/
def appM (P : Program) (s : St) (t u : TypeId) (x y : D) : Option (Prop × Nat × Nat × TypeId × List (List C)) :=
  match x with
  | .view id c sz lo hi => match y, elOf P t, inOf P u, lk id s.os with
    | .c (.int _ k), some (e, z, bytes), some _, some (.vec _ sz' _ els) => match zcOf P e with
      | some zc => some (c = els.length ∧ sz = z ∧ sz' = z ∧ zc.length = z ∧ z ≠ 0 ∧ bytes ≠ 0 ∧ (0 ≤ k ∧ (c : Int) < hi + k ∧ ((hi - lo : Nat) + k) * (bytes : Int) ≤ 140737488355328), hi - lo + k.toNat, z, e, (els.take hi).drop lo ++ List.replicate k.toNat zc)
      | none => none
    | _, _, _, _ => none
  | _ => none
/-- 'append(x, y...)': what must be, and the state behind. -/
def appD (P : Program) (s : St) (t : TypeId) (d : Option Nat) (x y : D) : Option (Prop × St) :=
  match elOf P t, s.els y with
  | some (e, z, bytes), some new =>
    match zcOf P e with
    | some zc => if zc.length = z ∧ z ≠ 0 ∧ bytes ≠ 0 then
      match x with
      | .nil => some (Wide z new ∧ new.length * bytes ≤ 140737488355328, s.vc d z e new)
      | .csl els => some (Wide z els ∧ Wide z new ∧ new ≠ [] ∧ (els.length + new.length) * bytes ≤ 140737488355328, s.vc d z e (els ++ new))
      | .vec id n => match lk id s.os with
        | some (.vec hd sz e' els) => some (hd = true ∧ n = els.length ∧ sz = z ∧ e = e' ∧ Wide z new ∧ (els.length + new.length) * bytes ≤ 140737488355328,
            ({ s with os := upd id (.vec hd sz e' (els ++ new)) s.os } : St).put d (.vec id (n + new.length)))
        | _ => none
      | _ => none
      else none
    | none => none
  | _, _ => none
def mkD (P : Program) (s : St) (t : TypeId) (d : Option Nat) (l c : D) : Option (Prop × St) :=
  match l, c, elOf P t with
  | .int _ l, .int _ c, some (e, z, bytes) => match zcOf P e with
    | some zc => some (0 ≤ l ∧ l ≤ c ∧ c * bytes ≤ 140737488355328 ∧ zc.length = z ∧ z ≠ 0 ∧ bytes ≠ 0, s.vc d z e (List.replicate l.toNat zc))
    | none => none
  | _, _, _ => none

/-! ### What goes on behind an operation -/
def okD (x : Option D) (d : Option Nat) (s : St) (K : St → Prop) : Prop := match x with | some v => K (s.put d v) | none => False
def okP (x : Option (Prop × D)) (d : Option Nat) (s : St) (K : St → Prop) : Prop := match x with | some (p, v) => p ∧ K (s.put d v) | none => False
def okH (x : Option (Prop × D)) (d : Option Nat) (s : St) (K : St → Prop) : Prop := match x with | some (h, v) => h → K (s.put d v) | none => False
/-- A slice, asked whether it is nil: of an empty one it may be either. -/
def nilq (P : Program) (op : BinOp) (t : TypeId) (x y : D) : Option (Bool × Prop) :=
  match y, kdOf P t, op with
  | .nil, some (.slice _), .eql => match x with
    | .c (.sl els) => some (false, els = [])
    | .csl els => some (false, els = [])
    | .vec _ n => some (false, n = 0)
    | .nil => some (false, True)
    | _ => none
  | .nil, some (.slice _), .neq => match x with
    | .c (.sl els) => some (true, els = [])
    | .csl els => some (true, els = [])
    | .vec _ n => some (true, n = 0)
    | .nil => some (true, True)
    | _ => none
  | _, _, _ => none
def okU (x : Option (Bool × Prop)) (d : Option Nat) (s : St) (K : St → Prop) (A : Prop) : Prop := match x with
  | some (neg, p) => ∀ b : Bool, (b = true → p) → K (s.put d (.bool (b ^^ neg)))
  | none => A
def okS (x : Option St) (K : St → Prop) : Prop := match x with | some s => K s | none => False
def okT (x : Option (Prop × St)) (K : St → Prop) : Prop := match x with | some (p, s) => p ∧ K s | none => False
def okV (x : Option (Nat × TypeId × List (List C))) (d : Option Nat) (s : St) (K : St → Prop) : Prop := match x with | some (z, e, els) => K (s.vc d z e els) | none => False
def okB (x : Option D) (d : Option Nat) (s : St) (K : St → Prop) : Prop := match x with
  | some v => match v.cells? with
    | some cs => K (s.bx d cs)
    | none => False
  | none => False
def pk (c a b : D) (d : Option Nat) (s : St) (K : St → Prop) : Prop := match c with
  | .bool x => (x = true → K (s.put d a)) ∧ (x = false → K (s.put d b))
  | _ => False
def nchk (x : D) (d : Option Nat) (s : St) (K : St → Prop) : Prop := match x with
  | .ref id off => K (s.put d (.ref id off))
  | .eref id n sz i off => K (s.put d (.eref id n sz i off))
  | .rp cs => K (s.put d (.rp cs))
  | .fn (.func f) fi ca => K (s.put d (.fn (.func f) fi ca))
  | _ => False
def cd (c : D) (A B : St → Prop) (s : St) : Prop := match c with
  | .bool b => (b = true → A s) ∧ (b = false → B s)
  | _ => False
def St.rep (s : St) (t : Option Nat) (v : D) : St := match t with | some t => { s with tm := upd t v s.tm } | none => s
def gtmp (all : Array Oper) (j : Nat) : Option Nat := match all[j]? with | some o => o.dst | none => none
def St.gd (s : St) (t : Option Nat) : D := match t with | some t => s.get t | none => .undef
def grd (t : Option Nat) (v : D) (w : Bool) (A B : St → Prop) (s : St) : Prop := match v with
  | .bool b => (b = w → A (s.rep t (.bool w))) ∧ (b = !w → B (s.rep t (.bool !w)))
  | .skip => B s
  | _ => False
def St.prune (s : St) (l : Option (List Nat)) : St := match l with
  | some l => { s with tm := l.filterMap fun t => match lk t s.tm with | some d => some (t, d) | none => none }
  | none => s

/-- A call: whatever memory fits, it returns, and so. -/
def ACall (P : Program) (f : FuncId) (ds : List D) (os : List (Nat × Ob)) (nx : Nat) (Q : D → List (Nat × Ob) → Nat → Prop) : Prop :=
  (∃ fn, P.funcs[f]? = some fn ∧ (fn.name == "runtime.NumGoroutine") = false ∧ fn.body.isNone = false) ∧
  ∀ (g : G) (w : World) (vs : Array Value), RelO g ⟨[], os, nx⟩ w → vs.size = ds.length →
    (∀ (i : Nat) (v : Value) (d : D), vs[i]? = some v → ds[i]? = some d → VRel g w v d) →
    Calls P f vs w fun e w' => ∃ v d g' os' nx', e = .returned v ∧ Q d os' nx' ∧ RelO g' ⟨[], os', nx'⟩ w' ∧ VRel g' w' v d ∧ Step g ⟨[], os, nx⟩ w g' ⟨[], os', nx'⟩ w'

/-- From one state to a later one, of which objects below N alone are looked at. -/
structure StepN (N : Nat) (g : G) (s : St) (w : World) (g' : G) (s' : St) (w' : World) : Prop where
  ρ : ∀ id b, id < N → g.ρ id = some b → g'.ρ id = some b
  κ : ∀ id a l c, id < N → g.κ id = some (a, l, c) → ∃ a' l' c', g'.κ id = some (a', l', c') ∧ l ≤ l' ∧ (l = l' → a = a' ∧ c = c')
  I : ∀ b, g.I b → g'.I b
  size : w.heap.size ≤ w'.heap.size
  same : ∀ b, b < w.heap.size → ¬ Own g s b → w'.heap[b]? = w.heap[b]?
  own : ∀ b, b < w.heap.size → ¬ Own g s b → ¬ Own g' s' b
  imm : ∀ b, b < w.heap.size → ¬ Own g s b → g'.I b → g.I b
  env : Env w w'

/-- What code does, of whatever memory fits. -/
def SWp (P : Program) (n N : Nat) (c : Code) (Q : Exit → St → Prop) (s : St) : Prop :=
  ∀ (δ : List Deferred) (g : G) (a : Act) (w : World), Rel δ g s a w → a.tmps.size = n →
    c.wp P (fun e a' w' => ∃ g' s', Q e s' ∧ Rel δ g' s' a' w' ∧ a'.tmps.size = n ∧ StepN N g s w g' s' w') a w

/-- Without these objects. -/
def rmv (os : List (Nat × Ob)) : List Nat → List (Nat × Ob)
  | [] => os
  | i :: l => rmv (os.filter fun x => x.1 != i) l
/-- A slice of one's own that may be written no more. -/
def frz (s : St) (d : D) : D × St := match d with
  | .vec id n => match lk id s.os with
    | some (.vec _ _ _ els) => if n = els.length then (.c (.sl els), ⟨s.tm, rmv s.os [id], s.nx⟩) else (.vec id n, s)
    | _ => (.vec id n, s)
  | d => (d, s)
/-- The rest of a slice of one's own, from some element on: it is one's own, too; the whole one is no more. -/
def cutV (P : Program) (s : St) (t : TypeId) (x : D) (lo hi mx : Option D) : Option (Prop × D × St) := match x, lo, hi, mx with
  | .vec id n, some (.c (.int _ l)), none, none => match elOf P t, lk id s.os with
    | some (_, z, _), some (.vec _ sz e els) => if n = els.length ∧ sz = z then some (0 ≤ l ∧ l ≤ els.length, .vec s.nx (els.drop l.toNat).length, ⟨s.tm, (s.nx, .vec false sz e (els.drop l.toNat)) :: rmv s.os [id], s.nx + 1⟩) else none
    | _, _ => none
  | .view id c sz lo hi, l, h, m => match elOf P t, lk id s.os with
    | some (_, z, _), some (.vec _ sz' _ els) => match l, h, m with
      | none, none, none => some (c = els.length ∧ sz = z ∧ sz' = z, .view id c sz lo hi, s)
      | none, some (.c (.int _ b)), none => some (c = els.length ∧ sz = z ∧ sz' = z ∧ 0 ≤ b ∧ (lo : Int) + b ≤ c, .view id c sz lo (lo + b.toNat), s)
      | some (.c (.int _ a)), none, none => some (c = els.length ∧ sz = z ∧ sz' = z ∧ 0 ≤ a ∧ (lo : Int) + a ≤ hi, .view id c sz (lo + a.toNat) hi, s)
      | some (.c (.int _ a)), some (.c (.int _ b)), none => some (c = els.length ∧ sz = z ∧ sz' = z ∧ 0 ≤ a ∧ a ≤ b ∧ (lo : Int) + b ≤ c, .view id c sz (lo + a.toNat) (lo + b.toNat), s)
      | _, _, _ => none
    | _, _ => none
  | _, _, _, _ => none
/-- What must be of the bounds of a cut whose result is never read. -/
def bndV (P : Program) (s : St) (t : TypeId) (x : D) (lo hi mx : Option D) : Option Prop := match x, lo, hi, mx with
  | .vec id n, some (.c (.int _ l)), none, none => match elOf P t, lk id s.os with
    | some _, some (.vec _ _ _ els) => some (n = els.length ∧ 0 ≤ l ∧ l ≤ n)
    | _, _ => none
  | _, _, _, _ => none
/-- A new slice, its room known. -/
def St.vw (s : St) (d : Option Nat) (z : Nat) (e : TypeId) (c n : Nat) (els : List (List C)) : St :=
  { tm := match d with | some t => (t, .view s.nx c z 0 n) :: s.tm | none => s.tm, os := (s.nx, .vec true z e (fit c z els)) :: s.os, nx := s.nx + 1 }
def okM (x : Option (Prop × Nat × Nat × TypeId × List (List C))) (d : Option Nat) (s : St) (K : St → Prop) (A : Prop) : Prop := match x with
  | some (p, n, z, e, els) => p ∧ ∀ c : Nat, n ≤ c → c ≤ 9223372036854775807 → K (s.vw d z e c n els)
  | none => A
/-- A view's room. -/
def capD (s : St) (x : D) : Option (Prop × D) := match x with
  | .view id c _ lo _ => match lk id s.os with
    | some (.vec _ _ _ els) => some (c = els.length, .c (.int .i64 ((c - lo : Nat) : Int)))
    | _ => none
  | _ => none
/-- Some elements put in the place of others. -/
def lay (els : List (List C)) (lo : Nat) (new : List (List C)) : List (List C) := setAt els lo new
/-- 'copy' into a view. -/
def cpyD (P : Program) (s : St) (t : TypeId) (x y : D) : Option (Prop × D × St) := match x with
  | .view id c sz lo hi => match elOf P t, lk id s.os, s.els y with
    | some (_, z, _), some (.vec hd sz' e els), some new => some (c = els.length ∧ sz = z ∧ sz' = z ∧ z ≠ 0 ∧ Wide z new, .c (.int .i64 ((min new.length (hi - lo) : Nat) : Int)),
        { s with os := upd id (.vec hd sz' e (fit c z (lay els lo (new.take (hi - lo))))) s.os })
    | _, _, _ => none
  | _ => none
/-- A call of what has no code: 'slices.overlaps' of two of one's own. -/
def ovO (os : List (Nat × Ob)) : D → Option Nat
  | .vec id n => match lk id os with
    | some (.vec _ sz _ els) => if n = els.length ∧ sz ≠ 0 then some id else none
    | _ => none
  | .view id c sz' _ _ => match lk id os with
    | some (.vec _ sz _ els) => if c = els.length ∧ sz' = sz ∧ sz ≠ 0 then some id else none
    | _ => none
  | _ => none
def ovC (P : Program) (f : FuncId) (os : List (Nat × Ob)) (ds : List D) : Prop := match ds with
  | [x, y] => match ovO os x, ovO os y with
    | some i, some j => i ≠ j ∧ ∃ (fn : Func) (t r : TypeId) (e : TypeId × Nat × Nat), P.funcs[f]? = some fn ∧ (fn.name == "runtime.NumGoroutine") = false ∧ fn.body.isNone = true ∧ (Extern.findNext fn).isNone = true ∧ Extern.find fn = some (Extern.SlicesOverlaps.overlaps #[t, t] #[r]) ∧ elOf P t = some e
    | _, _ => False
  | _ => False
def okF (b : Bool) (p : Option Prop) (d : Option Nat) (s : St) (K : St → Prop) (A : Prop) : Prop := match b with
  | true => match p with
    | some p => p ∧ K (s.put d .undef)
    | none => False
  | false => A
def okQ (x : Option (Prop × D × St)) (d : Option Nat) (K : St → Prop) (A : Prop) : Prop := match x with
  | some (p, v, s) => p ∧ K (s.put d v)
  | none => A
/-! ### Calls by contracts -/
/-- What is handed over, as pure data. -/
def pure1 (os : List (Nat × Ob)) : D → Option D
  | .c x => some (.c x)
  | .nil => some (.c (.sl []))
  | .csl els => some (.c (.sl els))
  | .vec id n => match lk id os with
    | some (.vec _ _ _ els) => if n = els.length then some (.c (.sl els)) else none
    | _ => none
  | _ => none
def pures1 (os : List (Nat × Ob)) : List D → Option (List D)
  | [] => some []
  | d :: l => match pure1 os d, pures1 os l with
    | some x, some xs => some (x :: xs)
    | _, _ => none
def pure2 (os : List (Nat × Ob)) : D → Option D
  | .agg l => match pures1 os l with
    | some xs => some (.agg xs)
    | none => none
  | d => pure1 os d
def pures2 (os : List (Nat × Ob)) : List D → Option (List D)
  | [] => some []
  | d :: l => match pure2 os d, pures2 os l with
    | some x, some xs => some (x :: xs)
    | _, _ => none
def vid1 : D → List Nat
  | .vec id _ => [id]
  | .ref id _ => [id]
  | _ => []
def vids1 : List D → List Nat
  | [] => []
  | d :: l => vid1 d ++ vids1 l
def vid2 : D → List Nat
  | .agg l => vids1 l
  | .fn _ _ l => vids1 l
  | d => vid1 d
def vids2 : List D → List Nat
  | [] => []
  | d :: l => vid2 d ++ vids2 l
/-- Numbers, and truths, alone. -/
def D.scal1 : D → Bool
  | .c (.bool _) => true
  | .c (.int _ _) => true
  | .c (.flt _ _) => true
  | .c (.str _) => true
  | _ => false
def D.scal : D → Bool
  | .tup l => l.all D.scal1
  | .agg l => l.all D.scal1
  | d => d.scal1
/-- New slices: cells of an element, its type, what they hold. -/
abbrev Fr := List (Nat × TypeId × Bool × List (List C))
def news (nx : Nat) : Fr → List (Nat × Ob) → List (Nat × Ob)
  | [], os => os
  | (z, e, b, els) :: l, os => news (nx + 1) l ((nx, .vec b z e els) :: os)
def D.sh1 (k : Nat) : D → D
  | .c x => .c x
  | .nil => .nil
  | .csl els => .csl els
  | .vec id n => .vec (id + k) n
  | _ => .undef
def D.sh2 (k : Nat) : D → D
  | .agg l => .agg (l.map (D.sh1 k))
  | d => d.sh1 k
def D.sh3 (k : Nat) : D → D
  | .tup l => .tup (l.map (D.sh2 k))
  | d => d.sh2 k
/-- Functions, and what each computes of pure data: what must be, the result, and the new slices of it that the caller may write. -/
abbrev Tab := List (Nat × (List D → Option (Prop × D × Fr)))
def shf (nx : Nat) (r : D) : Fr → D
  | [] => r
  | _ :: _ => r.sh3 nx
def look (T : Tab) (os : List (Nat × Ob)) (nx : Nat) (f : FuncId) (ds : List D) : Option (Prop × D × List (Nat × Ob) × Nat) :=
  match lk f T with
  | some sp => match pures2 os ds with
    | some rs => match sp rs with
      | some (p, r, fr) => some (p, shf nx r fr, news nx fr (if r.scal = true then os else rmv os (vids2 ds)), nx + fr.length)
      | none => none
    | none => none
  | none => none
/-- Is a temporary one that is never read? A table says so by an entry without a contract. -/
def fgt (T : Tab) (d : Option Nat) : Bool := match d with
  | some t => (lk (1000000000 + t) T).isSome
  | none => false
/-- Is it 'slices.overlaps'? -/
def ovm (T : Tab) (f : FuncId) : Bool := (lk (2000000000 + f) T).isSome
def XCall (P : Program) (T : Tab) (f : FuncId) (ds : List D) (os : List (Nat × Ob)) (nx : Nat) (Q : D → List (Nat × Ob) → Nat → Prop) : Prop :=
  match look T os nx f ds with
  | some (p, r, os', nx') => p ∧ Q r os' nx'
  | none => ACall P f ds os nx Q
/-- The table's contracts hold. -/
def TabS (P : Program) (T : Tab) : Prop := ∀ f ds os nx Q, XCall P T f ds os nx Q → ACall P f ds os nx Q

def aop (P : Program) (T : Tab) (o : Oper) (s : St) (K : St → Prop) : Prop :=
  match o.op with
  | .move x => K (s.put o.dst (s.ev x))
  | .assign x => K (s.put o.dst (s.ev x))
  | .pick c a b => pk (s.ev c) (s.ev a) (s.ev b) o.dst s K
  | .alloc t => okB (zOf P t) o.dst s K
  | .box _ x => okB (some (s.ev x)) o.dst s K
  | .build t ps => okD (buildD P t (ps.toList.map fun (i, x) => (i, s.ev x))) o.dst s K
  | .buildSlice t n ps => okV (bslD P t n (ps.toList.map fun (i, x) => (i, s.ev x))) o.dst s K
  | .load t x => okD (ldD P s t (s.ev x)) o.dst s K
  | .store t p x => okS (stD P s t (s.ev p) (s.ev x)) fun s' => K (s'.put o.dst .skip)
  | .nilCheck x => nchk (s.ev x) o.dst s K
  | .binOp op t x y _ => okU (nilq P op t (s.ev x) (s.ev y)) o.dst s K (okP (binD P op t (s.ev x) (s.ev y)) o.dst s K)
  | .unOp op _ x => okD (unD op (s.ev x)) o.dst s K
  | .convert a b x => okD (convD P a b (s.ev x)) o.dst s K
  | .makeFunc f fi ca => K (s.put o.dst (.fn f (fi.toList.map s.ev) (ca.toList.map s.ev)))
  | .makeSlice t l c => okT (mkD P s t o.dst (s.ev l) (s.ev c)) K
  | .slice t x lo hi mx => okF (fgt T o.dst) (bndV P s t (s.ev x) (lo.map s.ev) (hi.map s.ev) (mx.map s.ev)) o.dst s K <| okQ (cutV P s t (s.ev x) (lo.map s.ev) (hi.map s.ev) (mx.map s.ev)) o.dst K (okP (sliceD P t (frz s (s.ev x)).1 (lo.map s.ev) (hi.map s.ev) (mx.map s.ev)) o.dst (frz s (s.ev x)).2 K)
  | .fieldAddr t x f => okD (fadD P t f (s.ev x)) o.dst s K
  | .field t x f => okD (fieldD P t f (s.ev x)) o.dst s K
  | .indexAddr t x i => okP (iaD P t (s.ev x) (s.ev i)) o.dst s K
  | .index t x i => okP (indexD P t (s.ev x) (s.ev i)) o.dst s K
  | .extract x i => okD (extD (s.ev x) i) o.dst s K
  | .call c => match c.callee with
    | .builtin .len => match c.args.toList, c.argTypes.toList with
      | [x], [t] => (elOf P t).isSome = true ∧ okH (lenD (s.ev x)) o.dst s K
      | _, _ => False
    | .builtin .min => okD (minD (c.args.toList.map s.ev)) o.dst s K
    | .builtin .max => okD (maxD (c.args.toList.map s.ev)) o.dst s K
    | .builtin .append => match c.args.toList, c.argTypes.toList with
      | [x, y], [t, u] => okM (appM P s t u (s.ev x) (s.ev y)) o.dst s K (t = u ∧ okT (appD P s t o.dst (s.ev x) (s.ev y)) K)
      | _, _ => False
    | .builtin .cap => match c.args.toList, c.argTypes.toList with
      | [x], [t] => (elOf P t).isSome = true ∧ okP (capD s (s.ev x)) o.dst s K
      | _, _ => False
    | .builtin .copy => match c.args.toList, c.argTypes.toList with
      | [x, y], [t, _] => okQ (cpyD P s t (s.ev x) (s.ev y)) o.dst K False
      | _, _ => False
    | .value f => match s.ev f with
      | .fn (.func g) fi ca => match ovm T g with
        | true => ovC P g s.os (fi ++ c.args.toList.map s.ev ++ ca) ∧ K (s.put o.dst (.c (.bool false)))
        | false => XCall P T g (fi ++ c.args.toList.map s.ev ++ ca) s.os s.nx fun v os nx => K (St.put ⟨s.tm, os, nx⟩ o.dst v)
      | _ => False
    | _ => False
  | _ => False

def aops (P : Program) (T : Tab) (all : Array Oper) : List Oper → St → (St → Prop) → Prop
  | [], s, K => K s
  | o :: rest, s, K => match o.guard with
    | none => aop P T o s fun s' => aops P T all rest s' K
    | some (j, w) => grd (gtmp all j) (s.gd (gtmp all j)) w (fun s => aop P T o s fun s' => aops P T all rest s' K) (fun s => aops P T all rest (s.put o.dst .skip) K) s

/-- A region whose order is drawn. -/
def ADraw (P : Program) (n N : Nat) (i : Nat) (ops : Array Oper) (Q : Exit → St → Prop) (s : St) : Prop := SWp P n N (.region i ops true) Q s

def sq (A : St → Prop) (Q : Exit → St → Prop) : Exit → St → Prop
  | .normal, s => A s
  | e, s => Q e s
def bl (id : Nat) (Q : Exit → St → Prop) : Exit → St → Prop
  | .exit i, s => if i = id then Q .normal s else Q (.exit i) s
  | e, s => Q e s
def rg (l : Option (List Nat)) (Q : Exit → St → Prop) (s : St) : Prop := Q .normal (s.prune l)

/-- What must be shown of code. -/
def awp (P : Program) (T : Tab) (n N : Nat) (lv : Nat → Option (List Nat)) : Code → (Exit → St → Prop) → St → Prop
  | .skip, Q, s => Q .normal s
  | .label _, Q, s => Q .normal s
  | .region i ops false, Q, s => aops P T ops ops.toList s (rg (lv i) Q)
  | .region i ops true, Q, s => ADraw P n N i ops (sq (rg (lv i) Q) Q) s
  | .seq a b, Q, s => awp P T n N lv a (sq (awp P T n N lv b Q) Q) s
  | .cond c x y, Q, s => cd (s.ev c) (awp P T n N lv x Q) (awp P T n N lv y Q) s
  | .block id c, Q, s => awp P T n N lv c (bl id Q) s
  | .exit id, Q, s => Q (.exit id) s
  | .ret, Q, s => Q .ret s
  | c, Q, s => SWp P n N c Q s

/-! ### Results -/
def rd1 (P : Program) (s : St) : ResultVar → Option D
  | .tmp t => some (s.get t)
  | .cell a t => ldD P s t (s.get a)
def rds (P : Program) (s : St) : List ResultVar → Option (List D)
  | [] => some []
  | r :: l => match rd1 P s r, rds P s l with
    | some d, some ds => some (d :: ds)
    | _, _ => none
def rdD (P : Program) (s : St) (rs : List ResultVar) : Option D :=
  match rds P s rs with
  | some [d] => some d
  | some ds => some (.tup ds)
  | none => none
def rto (x : Option D) (s : St) (Q : D → List (Nat × Ob) → Nat → Prop) : Prop := match x with
  | some d => Q d s.os s.nx
  | none => False
/-- Behind a function's code. -/
def fin (P : Program) (rs : List ResultVar) (Q : D → List (Nat × Ob) → Nat → Prop) : Exit → St → Prop
  | .normal, s => rto (rdD P s rs) s Q
  | .ret, s => rto (rdD P s rs) s Q
  | _, _ => False
def prm : Nat → List D → List (Nat × D)
  | _, [] => []
  | k, d :: l => (k, d) :: prm (k + 1) l
def dstOk1 (n : Nat) (o : Oper) : Bool := match o.dst with
  | some t => decide (t < n)
  | none => true
def dstOk (n : Nat) : Code → Bool
  | .region _ ops _ => ops.toList.all (dstOk1 n)
  | .seq a b => dstOk n a && dstOk n b
  | .cond _ a b => dstOk n a && dstOk n b
  | .block _ c => dstOk n c
  | .loop c => dstOk n c
  | .scope c => dstOk n c
  | _ => true
end Dm
