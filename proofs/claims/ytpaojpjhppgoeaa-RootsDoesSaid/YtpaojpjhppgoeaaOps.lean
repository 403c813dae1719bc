import Derived.Test.YtpaojpjhppgoeaaBase
set_option linter.unusedSimpArgs false
set_option linter.unusedVariables false
/-! The abstract machine: what each operation does to an abstract state. -/
namespace Dm
open Go

/-! ### Types, as the program's own tables have them -/
def tyOf (P : Program) (t : TypeId) : Option (Bool × Nat) :=
  match P.underlying t, P.info? t with
  | some (.struct _), some i => some (true, i.size)
  | some (.array _ _), some i => some (true, i.size)
  | some _, some i => some (false, i.size)
  | _, _ => none
/-- A field's place. -/
def fldOf (P : Program) (t : TypeId) (f : Nat) : Option Nat :=
  match P.underlying t with
  | some (.struct fs) => match fs[f]? with
    | some d => match P.info? d.type with
      | some i => if i.size = 0 then none else some d.offset
      | none => none
    | none => none
  | _ => none
/-- A field's type, and its place in a value. -/
def prtOf (P : Program) (t : TypeId) (f : Nat) : Option (TypeId × Nat) :=
  match P.underlying t with
  | some (.struct fs) => match fs[f]? with
    | some d => some (d.type, d.offset)
    | none => none
  | _ => none
/-- A slice's element: its type, cells, bytes. -/
def elOf (P : Program) (t : TypeId) : Option (TypeId × Nat × Nat) :=
  match P.underlying t with
  | some (.slice e) => match P.info? e with
    | some i => some (e, i.size, i.bytes)
    | none => none
  | _ => none
/-- An array: how many, the element's type, its cells. -/
def arOf (P : Program) (t : TypeId) : Option (Nat × TypeId × Nat) :=
  match P.underlying t with
  | some (.array n e) => match P.info? e with
    | some i => some (n, e, i.size)
    | none => none
  | _ => none
def inOf (P : Program) (t : TypeId) : Option IntKind :=
  match P.underlying t with
  | some (.int k) => some k
  | _ => none
def kdOf (P : Program) (t : TypeId) : Option TypeDesc := P.underlying t

/-! ### Values -/
def D.cells? : D → Option (List D)
  | .agg cs => some cs
  | .undef => none
  | .skip => none
  | .tup _ => none
  | d => some [d]
def D.one : D → Bool
  | .undef => false
  | .skip => false
  | .agg _ => false
  | .tup _ => false
  | _ => true
/-- As pure data of one cell. -/
def D.toC : D → Option C
  | .c x => some x
  | .nil => some (.sl [])
  | .csl els => some (.sl els)
  | _ => none
def D.toCs : List D → Option (List C)
  | [] => some []
  | d :: l => match d.toC, D.toCs l with
    | some x, some xs => some (x :: xs)
    | _, _ => none
def valD1 : Value → D
  | .bool b => .bool b
  | .int k n => .int k n
  | .float k n => .c (.flt k n)
  | .string s => .c (.str s)
  | .pointer none => .nilp
  | .slice none 0 0 => .nil
  | .nilFunc => .nilf
  | _ => .undef
def valD : Value → D
  | .agg cs => .agg (cs.toList.map valD1)
  | v => valD1 v
def zOf (P : Program) (t : TypeId) : Option D :=
  match P.info? t with
  | some i => match i.zero with
    | some v => some (valD v)
    | none => none
  | none => none

/-! ### States -/
def upd {α : Type} : Nat → α → List (Nat × α) → List (Nat × α)
  | _, _, [] => []
  | n, y, (m, x) :: l => if n = m then (m, y) :: l else (m, x) :: upd n y l
def St.get (s : St) (t : Nat) : D := (lk t s.tm).getD .undef
def St.put (s : St) (d : Option Nat) (v : D) : St :=
  match d with
  | some t => { s with tm := (t, v) :: s.tm }
  | none => s
def St.ev (s : St) : Operand → D
  | .tmp t => s.get t
  | .const v => valD v
  | .global _ => .undef
  | .func f => .fn (.func f) [] []
def setAt {α : Type} (cs : List α) (off : Nat) (vs : List α) : List α := cs.take off ++ vs ++ cs.drop (off + vs.length)

/-! ### Operations that only compute and read: a condition, and the value -/
/-- An element's zero cells, as pure data. -/
def zcOf (P : Program) (e : TypeId) : Option (List C) :=
  match zOf P e with
  | some d => match d.cells? with
    | some vs => D.toCs vs
    | none => none
  | none => none
def zc0 (P : Program) (e : TypeId) : List C := match zcOf P e with
  | some l => l
  | none => []
def ldc (ty : Bool × Nat) (cs : List D) (off : Nat) : Option D :=
  match ty with
  | (true, n) => if off + n ≤ cs.length then some (.agg ((cs.drop off).take n)) else none
  | (false, _) => cs[off]?
def ldD (P : Program) (s : St) (t : TypeId) : D → Option D
  | .ref id off => match tyOf P t, lk id s.os with
    | some ty, some (.box cs) => ldc ty cs off
    | _, _ => none
  | .eref id n sz i off => match tyOf P t, lk id s.os with
    | some ty, some (.vec _ sz' e els) => if n = els.length ∧ sz = sz' ∧ i < n then ldc ty ((els.getD i (zc0 P e)).map .c) off else none
    | _, _ => none
  | .rp cs => match tyOf P t with
    | some ty => ldc ty (cs.map .c) 0
    | none => none
  | _ => none
def fadD (P : Program) (t : TypeId) (f : Nat) : D → Option D
  | .ref id off => match fldOf P t f with
    | some o => some (.ref id (off + o))
    | none => none
  | .eref id n sz i off => match fldOf P t f with
    | some o => some (.eref id n sz i (off + o))
    | none => none
  | .rp cs => match fldOf P t f with
    | some o => some (.rp (cs.drop o))
    | none => none
  | _ => none
def fieldD (P : Program) (t : TypeId) (f : Nat) : D → Option D
  | .agg cs => match prtOf P t f with
    | some (ty, o) => match tyOf P ty with
      | some z => ldc z cs o
      | none => none
    | none => none
  | _ => none
/-- Is an element's width that of its type? -/
def Wide (z : Nat) (els : List (List C)) : Prop := ∀ x ∈ els, x.length = z
def iaD (P : Program) (t : TypeId) : D → D → Option (Prop × D)
  | .c (.sl els), .int _ i => match elOf P t with
    | some (e, z, _) => some ((0 ≤ i ∧ i < els.length) ∧ Wide z els, .rp (els.getD i.toNat (zc0 P e)))
    | none => none
  | .csl els, .int _ i => match elOf P t with
    | some (e, z, _) => some ((0 ≤ i ∧ i < els.length) ∧ Wide z els, .rp (els.getD i.toNat (zc0 P e)))
    | none => none
  | .vec id n, .int _ i => match elOf P t with
    | some (_, z, _) => some (0 ≤ i ∧ i < n, .eref id n z i.toNat 0)
    | none => none
  | .ref id off, .int _ i => match arOf P t with
    | some (n, _, z) => some (0 ≤ i ∧ i < n, .ref id (off + i.toNat * z))
    | none => none
  | .rp cs, .int _ i => match arOf P t with
    | some (n, _, z) => some (0 ≤ i ∧ i < n, .rp (cs.drop (i.toNat * z)))
    | none => none
  | _, _ => none
def indexD (P : Program) (t : TypeId) : D → D → Option (Prop × D)
  | .agg cs, .int _ i => match arOf P t with
    | some (n, ty, z) => match tyOf P ty with
      | some zz => match ldc zz cs (i.toNat * z) with
        | some d => some (0 ≤ i ∧ i < n, d)
        | none => none
      | none => none
    | none => none
  | _, _ => none
/-- Arithmetic on whole numbers. -/
def ibin (op : BinOp) (k : IntKind) (a b : Int) : Option (Prop × D) :=
  match op with
  | .add => some (True, .int k (k.wrap (a + b)))
  | .sub => some (True, .int k (k.wrap (a - b)))
  | .mul => some (True, .int k (k.wrap (a * b)))
  | .quo => some (b ≠ 0, .int k (k.wrap (a.tdiv b)))
  | .rem => some (b ≠ 0, .int k (a.tmod b))
  | .and => some (True, .int k (k.wrap (BitVec.ofInt k.bits a &&& BitVec.ofInt k.bits b).toNat))
  | .or => some (True, .int k (k.wrap (BitVec.ofInt k.bits a ||| BitVec.ofInt k.bits b).toNat))
  | .xor => some (True, .int k (k.wrap (BitVec.ofInt k.bits a ^^^ BitVec.ofInt k.bits b).toNat))
  | .andNot => some (True, .int k (k.wrap (BitVec.ofInt k.bits a &&& ~~~BitVec.ofInt k.bits b).toNat))
  | .eql => some (True, .bool (decide (a = b)))
  | .neq => some (True, .bool (!decide (a = b)))
  | .lss => some (True, .bool (decide (a < b)))
  | .leq => some (True, .bool (decide (a ≤ b)))
  | .gtr => some (True, .bool (decide (b < a)))
  | .geq => some (True, .bool (decide (b ≤ a)))
  | _ => none
def ishift (op : BinOp) (k : IntKind) (a b : Int) : Option (Prop × D) :=
  match op with
  | .shl => some (0 ≤ b, .int k (k.wrap (a * 2 ^ (min b.toNat k.bits))))
  | .shr => some (0 ≤ b, .int k (a.fdiv (2 ^ (min b.toNat k.bits))))
  | _ => none
def isShift : BinOp → Bool
  | .shl => true
  | .shr => true
  | _ => false
/-- Cells that '==' compares by what they hold. -/
def eqC : Nat → C → C → Option Bool
  | 0, .int k a, .int k' b => if k = k' then some (a == b) else none
  | 1, .bool a, .bool b => some (a == b)
  | 2, .str a, .str b => some (a == b)
  | _, _, _ => none
def eqCells : List (Nat × Nat) → List D → List D → Option Bool
  | [], _, _ => some true
  | (o, k) :: l, xs, ys => match xs[o]?, ys[o]? with
    | some (.c x), some (.c y) => match eqC k x y, eqCells l xs ys with
      | some b, some b' => some (b && b')
      | _, _ => none
    | _, _ => none
def leafK (P : Program) (t : TypeId) : Option Nat := match P.underlying t, tyOf P t with
  | some (.int _), some (false, _) => some 0
  | some .bool, some (false, _) => some 1
  | some .string, some (false, _) => some 2
  | _, _ => none
def leafs (P : Program) : List Field → Option (List (Nat × Nat))
  | [] => some []
  | f :: l => match leafK P f.type, leafs P l with
    | some k, some ks => if f.name = "_" then none else some ((f.offset, k) :: ks)
    | _, _ => none
/-- The cells of a struct of numbers, truths and strings. -/
def eqOf (P : Program) (t : TypeId) : Option (List (Nat × Nat)) := match P.underlying t with
  | some (.struct fs) => if P.stoodInHeld t = false ∧ P.eqGuardType P.depth t = false then leafs P fs.toList else none
  | _ => none
def eqD (P : Program) (t : TypeId) (xs ys : List D) : Option Bool := match eqOf P t with
  | some l => eqCells l xs ys
  | none => none
def binD (P : Program) (op : BinOp) (t : TypeId) (x y : D) : Option (Prop × D) :=
  match x, y with
  | .int k a, .int k' b => if isShift op = true then ishift op k a b else if k = k' then ibin op k a b else none
  | .bool a, .bool b => match kdOf P t, op with
    | some .bool, .eql => some (True, .bool (a == b))
    | some .bool, .neq => some (True, .bool (!(a == b)))
    | _, _ => none
  | .agg xs, .agg ys => match eqD P t xs ys, op with
    | some b, .eql => some (True, .bool b)
    | some b, .neq => some (True, .bool (!b))
    | _, _ => none
  | _, _ => none
def unD (op : UnOp) (x : D) : Option D :=
  match op, x with
  | .not, .bool b => some (.bool (!b))
  | .neg, .int k n => some (.int k (k.wrap (0 - n)))
  | _, _ => none
def convD (P : Program) (a b : TypeId) (x : D) : Option D :=
  match x with
  | .int _ n => match kdOf P a, inOf P b with
    | some _, some k => some (.int k (k.wrap n))
    | _, _ => none
  | _ => none
def extD (x : D) (i : Nat) : Option D :=
  match x with
  | .tup l => l[i]?
  | _ => none
/-- A slice's length; what is known of it. -/
def lenD (x : D) : Option (Prop × D) :=
  match x with
  | .c (.sl els) => some ((els.length : Int) ≤ 9223372036854775807, .int .i64 els.length)
  | .csl els => some ((els.length : Int) ≤ 9223372036854775807, .int .i64 els.length)
  | .nil => some (True, .int .i64 0)
  | .vec _ n => some ((n : Int) ≤ 9223372036854775807, .int .i64 n)
  | .view _ _ _ lo hi => some (((hi - lo : Nat) : Int) ≤ 9223372036854775807, .int .i64 ((hi - lo : Nat) : Int))
  | _ => none
def minD (l : List D) : Option D :=
  match l with
  | [.int k a, .int _ b] => some (.int k (if b < a then b else a))
  | _ => none
def maxD (l : List D) : Option D :=
  match l with
  | [.int k a, .int _ b] => some (.int k (if b > a then b else a))
  | _ => none
/-- 'x[lo:hi]', 'x[lo:hi:hi]' of what is never written. -/
def sliceD (P : Program) (t : TypeId) (x : D) (lo hi mx : Option D) : Option (Prop × D) :=
  match x, elOf P t with
  | .c (.sl els), some (_, z, _) =>
    match lo, hi, mx with
    | none, none, none => some (True, .c (.sl els))
    | none, some (.int _ h), none => some (0 ≤ h ∧ h ≤ els.length, .c (.sl (els.take h.toNat)))
    | some (.int _ l), none, none => some ((0 ≤ l ∧ l ≤ els.length) ∧ Wide z els, .c (.sl (els.drop l.toNat)))
    | some (.int _ l), some (.int _ h), none => some ((0 ≤ l ∧ l ≤ h ∧ h ≤ els.length) ∧ Wide z els, .c (.sl ((els.take h.toNat).drop l.toNat)))
    | none, some (.int _ h), some (.int _ m) => some (0 ≤ h ∧ h ≤ els.length ∧ m = h, .csl (els.take h.toNat))
    | _, _, _ => none
  | .nil, some _ =>
    match lo, hi, mx with
    | none, some (.int _ h), none => some (h = 0, .nil)
    | some (.int _ l), none, none => some (l = 0, .nil)
    | _, _, _ => none
  | _, _ => none

/-! ### Operations that write -/
def stD (P : Program) (s : St) (t : TypeId) (p v : D) : Option St :=
  match p with
  | .ref id off => match tyOf P t, lk id s.os, v.cells? with
    | some (_, n), some (.box cs), some vs => if vs.length = n ∧ off + n ≤ cs.length ∧ vs.all D.one = true then some { s with os := upd id (.box (setAt cs off vs)) s.os } else none
    | _, _, _ => none
  | .eref id n sz i off => match tyOf P t, lk id s.os, v.cells? with
    | some (_, m), some (.vec hd sz' e els), some vs => match D.toCs vs with
      | some xs => if xs.length = m ∧ n = els.length ∧ sz = sz' ∧ i < n ∧ off + m ≤ sz then some { s with os := upd id (.vec hd sz' e (els.set i (setAt (els.getD i (zc0 P e)) off xs))) s.os } else none
      | none => none
    | _, _, _ => none
  | _ => none
/-- A new object. -/
def St.bx (s : St) (d : Option Nat) (cs : List D) : St :=
  { tm := match d with | some t => (t, .ref s.nx 0) :: s.tm | none => s.tm, os := (s.nx, .box cs) :: s.os, nx := s.nx + 1 }
def St.vc (s : St) (d : Option Nat) (sz : Nat) (e : TypeId) (els : List (List C)) : St :=
  { tm := match d with | some t => (t, .vec s.nx els.length) :: s.tm | none => s.tm, os := (s.nx, .vec true sz e els) :: s.os, nx := s.nx + 1 }
end Dm
