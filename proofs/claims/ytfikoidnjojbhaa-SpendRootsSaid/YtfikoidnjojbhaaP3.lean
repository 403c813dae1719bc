import Derived.Test.YtfikoidnjojbhaaP2
import Derived.IntWalk
import Derived.KernelRfl
import Derived.Scope
import Derived.Test.YtfikoidnjojbhaaProg
set_option linter.unusedSimpArgs false
set_option linter.unusedVariables false
set_option linter.unusedSectionVars false
/-! The rules by which simp carries out a region whose order is drawn. -/
namespace Dm
open Go
section
variable {P : Program} {T : Tab} {all : Array Oper} {rest : List Oper} {s s' r : St} {K : St → Prop} {d : Option Nat} {ty : TypeId} {pos : String} {af : Array Edge} {gd : Option (Nat × Bool)} {i i' : Nat} {acc acc' : List Ft} {Tt W : List Nat}
attribute [go_sem] mem sub apt low inR allR outR ins uni midsL mob midsA mobO cont clo valsB obsB rosB rvP sameO gone wOf indF accB uh ut
@[go_sem] theorem mids_ref {a b : Nat} : mids (.ref a b) = [a] := by rw [mids]
@[go_sem] theorem mids_eref {a b c e f : Nat} : mids (.eref a b c e f) = [a] := by rw [mids]
@[go_sem] theorem mids_vec {a b : Nat} : mids (.vec a b) = [a] := by rw [mids]
@[go_sem] theorem mids_view {a b c e f : Nat} : mids (.view a b c e f) = [a] := by rw [mids]
@[go_sem] theorem mids_mp {a : Nat} : mids (.mp a) = [a] := by rw [mids]
@[go_sem] theorem mids_nilm : mids .nilm = [] := by simp [mids]
@[go_sem] theorem midsL_ints {v : IntKind} {l : List (Nat × Int)} : midsL (l.map fun x => D.int v x.2) = [] := by
  induction l with
  | nil => rfl
  | cons x l ih => rw [List.map_cons, midsL, ih]; simp [mids]
@[go_sem] theorem mids_fn {f : Fn} {l m : List D} : mids (.fn f l m) = midsL l ++ midsL m := by rw [mids]
@[go_sem] theorem mids_agg {l : List D} : mids (.agg l) = midsL l := by rw [mids]
@[go_sem] theorem mids_tup {l : List D} : mids (.tup l) = midsL l := by rw [mids]
@[go_sem] theorem mids_c {x : C} : mids (.c x) = [] := by simp [mids]
@[go_sem] theorem mids_undef : mids .undef = [] := by simp [mids]
@[go_sem] theorem mids_skip : mids .skip = [] := by simp [mids]
@[go_sem] theorem mids_rp {l : List C} : mids (.rp l) = [] := by simp [mids]
@[go_sem] theorem mids_nilp : mids .nilp = [] := by simp [mids]
@[go_sem] theorem mids_nilf : mids .nilf = [] := by simp [mids]
@[go_sem] theorem mids_nil : mids .nil = [] := by simp [mids]
@[go_sem] theorem mids_csl {l : List (List C)} : mids (.csl l) = [] := by simp [mids]
def cns {α : Type} (k : Nat) (x : Option α) (r : List (Nat × α)) : List (Nat × α) := match x with
  | some x => (k, x) :: r
  | none => r
@[go_sem] theorem pickL_nil {α : Type} {l : List (Nat × α)} : pickL [] l = [] := rfl
@[go_sem] theorem pickL_cons {α : Type} {k : Nat} {ks : List Nat} {l : List (Nat × α)} : pickL (k :: ks) l = cns k (lk k l) (pickL ks l) := rfl
@[go_sem] theorem cns_some {α : Type} {k : Nat} {x : α} {r : List (Nat × α)} : cns k (some x) r = (k, x) :: r := rfl
@[go_sem] theorem cns_none {α : Type} {k : Nat} {r : List (Nat × α)} : cns k none r = r := rfl
@[go_sem] theorem loc_mk {rd : List Nat} {B : Nat} {tm : List (Nat × D)} {os : List (Nat × Ob)} {nx : Nat} : St.loc rd Tt B ⟨tm, os, nx⟩ = ⟨pickL rd tm, pickL Tt os, B⟩ := rfl
def wo {α : Type} (T : List Nat) : List (Nat × α) → List (Nat × α)
  | [] => []
  | (m, x) :: l => if mem m T = true then wo T l else (m, x) :: wo T l
theorem wo_eq {α : Type} {T : List Nat} : ∀ {l : List (Nat × α)}, (l.filter fun p => !T.contains p.1) = wo T l
  | [] => rfl
  | (m, x) :: l => by
    rw [wo, List.filter_cons, wo_eq]
    by_cases h : m ∈ T <;> simp [h, mem_iff]
attribute [go_sem] wo
@[go_sem] theorem mrg_mk {t : Nat} {tm tm' : List (Nat × D)} {os os' : List (Nat × Ob)} {nx nx' : Nat} : St.mrg ⟨tm, os, nx⟩ Tt (some t) ⟨tm', os', nx'⟩ = ⟨(t, (lk t tm').getD .undef) :: tm, os' ++ wo Tt os, nx'⟩ := by
  rw [← wo_eq]; rfl
@[go_sem] theorem mrg_no {tm tm' : List (Nat × D)} {os os' : List (Nat × Ob)} {nx nx' : Nat} : St.mrg ⟨tm, os, nx⟩ Tt none ⟨tm', os', nx'⟩ = ⟨tm, os' ++ wo Tt os, nx'⟩ := by
  rw [← wo_eq]; rfl
/-! ### Temporaries -/
def tO : List Operand → List Nat
  | [] => []
  | .tmp t :: l => t :: tO l
  | .const _ :: l => tO l
  | .global _ :: l => tO l
  | .func _ :: l => tO l
attribute [go_sem] tO
theorem tO_eq : ∀ l : List Operand, (l.filterMap fun | .tmp t => some t | _ => none) = tO l
  | [] => rfl
  | .tmp t :: l => congrArg (t :: ·) (tO_eq l)
  | .const _ :: l => tO_eq l
  | .global _ :: l => tO_eq l
  | .func _ :: l => tO_eq l
theorem opT_eq {o : Oper} : opT o = tO o.op.operands.toList := tO_eq _
def opo : Option Operand → List Operand
  | some x => [x]
  | none => []
attribute [go_sem] opo
@[go_sem] theorem T_move {x : Operand} : opT ⟨d, .move x, ty, pos, af, gd⟩ = tO [x] := opT_eq
@[go_sem] theorem T_assign {x : Operand} : opT ⟨d, .assign x, ty, pos, af, gd⟩ = tO [x] := opT_eq
@[go_sem] theorem T_pick {c x y : Operand} : opT ⟨d, .pick c x y, ty, pos, af, gd⟩ = tO [c, x, y] := opT_eq
@[go_sem] theorem T_alloc {t : TypeId} : opT ⟨d, .alloc t, ty, pos, af, gd⟩ = [] := opT_eq
@[go_sem] theorem T_box {t : TypeId} {x : Operand} : opT ⟨d, .box t x, ty, pos, af, gd⟩ = tO [x] := opT_eq
@[go_sem] theorem T_build {t : TypeId} {ps : List (Nat × Operand)} : opT ⟨d, .build t ps.toArray, ty, pos, af, gd⟩ = tO (ps.map (·.2)) := by rw [opT_eq]; simp [Op.operands]
@[go_sem] theorem T_buildSlice {t : TypeId} {m : Nat} {ps : List (Nat × Operand)} : opT ⟨d, .buildSlice t m ps.toArray, ty, pos, af, gd⟩ = tO (ps.map (·.2)) := by rw [opT_eq]; simp [Op.operands]
@[go_sem] theorem T_load {t : TypeId} {x : Operand} : opT ⟨d, .load t x, ty, pos, af, gd⟩ = tO [x] := opT_eq
@[go_sem] theorem T_store {t : TypeId} {p x : Operand} : opT ⟨d, .store t p x, ty, pos, af, gd⟩ = tO [p, x] := opT_eq
@[go_sem] theorem T_nilCheck {x : Operand} : opT ⟨d, .nilCheck x, ty, pos, af, gd⟩ = tO [x] := opT_eq
@[go_sem] theorem T_binOp {op : BinOp} {t t' : TypeId} {x y : Operand} : opT ⟨d, .binOp op t x y t', ty, pos, af, gd⟩ = tO [x, y] := opT_eq
@[go_sem] theorem T_unOp {op : UnOp} {t : TypeId} {x : Operand} : opT ⟨d, .unOp op t x, ty, pos, af, gd⟩ = tO [x] := opT_eq
@[go_sem] theorem T_convert {t u : TypeId} {x : Operand} : opT ⟨d, .convert t u x, ty, pos, af, gd⟩ = tO [x] := opT_eq
@[go_sem] theorem T_makeFunc {f : Fn} {fi ca : List Operand} : opT ⟨d, .makeFunc f fi.toArray ca.toArray, ty, pos, af, gd⟩ = tO (fi ++ ca) := by rw [opT_eq]; simp [Op.operands]
@[go_sem] theorem T_makeSlice {t : TypeId} {l c : Operand} : opT ⟨d, .makeSlice t l c, ty, pos, af, gd⟩ = tO [l, c] := opT_eq
@[go_sem] theorem T_slice {t : TypeId} {x : Operand} {lo hi mx : Option Operand} : opT ⟨d, .slice t x lo hi mx, ty, pos, af, gd⟩ = tO (x :: (opo lo ++ (opo hi ++ opo mx))) := by
  rw [opT_eq]; cases lo <;> cases hi <;> cases mx <;> rfl
@[go_sem] theorem T_fieldAddr {t : TypeId} {x : Operand} {f : Nat} : opT ⟨d, .fieldAddr t x f, ty, pos, af, gd⟩ = tO [x] := opT_eq
@[go_sem] theorem T_field {t : TypeId} {x : Operand} {f : Nat} : opT ⟨d, .field t x f, ty, pos, af, gd⟩ = tO [x] := opT_eq
@[go_sem] theorem T_indexAddr {t : TypeId} {x j : Operand} : opT ⟨d, .indexAddr t x j, ty, pos, af, gd⟩ = tO [x, j] := opT_eq
@[go_sem] theorem T_index {t : TypeId} {x j : Operand} : opT ⟨d, .index t x j, ty, pos, af, gd⟩ = tO [x, j] := opT_eq
@[go_sem] theorem T_makeMap0 {t : TypeId} : opT ⟨d, .makeMap t none, ty, pos, af, gd⟩ = tO [] := opT_eq
@[go_sem] theorem T_makeMap1 {t : TypeId} {r : Operand} : opT ⟨d, .makeMap t (some r), ty, pos, af, gd⟩ = tO [r] := opT_eq
@[go_sem] theorem T_lookup {t : TypeId} {x i : Operand} {ok : Bool} : opT ⟨d, .lookup t x i ok, ty, pos, af, gd⟩ = tO [x, i] := opT_eq
@[go_sem] theorem T_mapUpdate {t : TypeId} {m k x : Operand} : opT ⟨d, .mapUpdate t m k x, ty, pos, af, gd⟩ = tO [m, k, x] := opT_eq
@[go_sem] theorem T_insert {t : TypeId} {m k x : Operand} : opT ⟨d, .insert t m k x, ty, pos, af, gd⟩ = tO [m, k, x] := opT_eq
@[go_sem] theorem T_range {t : TypeId} {x : Operand} : opT ⟨d, .range t x, ty, pos, af, gd⟩ = tO [x] := opT_eq
@[go_sem] theorem T_entry {x : Operand} : opT ⟨d, .entry x, ty, pos, af, gd⟩ = tO [x] := opT_eq
@[go_sem] theorem T_extract {x : Operand} {j : Nat} : opT ⟨d, .extract x j, ty, pos, af, gd⟩ = tO [x] := opT_eq
@[go_sem] theorem T_builtin {b : Builtin} {xs : List Operand} {ts : Array TypeId} : opT ⟨d, .call ⟨.builtin b, xs.toArray, ts⟩, ty, pos, af, gd⟩ = tO xs := by rw [opT_eq]; simp [Op.operands, Call.operands]
@[go_sem] theorem T_call {f : Operand} {xs : List Operand} {ts : Array TypeId} : opT ⟨d, .call ⟨.value f, xs.toArray, ts⟩, ty, pos, af, gd⟩ = tO (f :: xs) := by rw [opT_eq]; simp [Op.operands, Call.operands]
/-! ### Which operations write -/
@[go_sem] theorem st_move {x : Operand} : stOp (.move x) = false := rfl
@[go_sem] theorem st_assign {x : Operand} : stOp (.assign x) = false := rfl
@[go_sem] theorem st_pick {c x y : Operand} : stOp (.pick c x y) = false := rfl
@[go_sem] theorem st_alloc {t : TypeId} : stOp (.alloc t) = false := rfl
@[go_sem] theorem st_box {t : TypeId} {x : Operand} : stOp (.box t x) = false := rfl
@[go_sem] theorem st_build {t : TypeId} {ps : Array (Nat × Operand)} : stOp (.build t ps) = false := rfl
@[go_sem] theorem st_buildSlice {t : TypeId} {m : Nat} {ps : Array (Nat × Operand)} : stOp (.buildSlice t m ps) = false := rfl
@[go_sem] theorem st_load {t : TypeId} {x : Operand} : stOp (.load t x) = false := rfl
@[go_sem] theorem st_store {t : TypeId} {p x : Operand} : stOp (.store t p x) = true := rfl
@[go_sem] theorem st_nilCheck {x : Operand} : stOp (.nilCheck x) = false := rfl
@[go_sem] theorem st_binOp {op : BinOp} {t t' : TypeId} {x y : Operand} : stOp (.binOp op t x y t') = false := rfl
@[go_sem] theorem st_unOp {op : UnOp} {t : TypeId} {x : Operand} : stOp (.unOp op t x) = false := rfl
@[go_sem] theorem st_convert {t u : TypeId} {x : Operand} : stOp (.convert t u x) = false := rfl
@[go_sem] theorem st_makeFunc {f : Fn} {fi ca : Array Operand} : stOp (.makeFunc f fi ca) = false := rfl
@[go_sem] theorem st_makeSlice {t : TypeId} {l c : Operand} : stOp (.makeSlice t l c) = false := rfl
@[go_sem] theorem st_slice {t : TypeId} {x : Operand} {lo hi mx : Option Operand} : stOp (.slice t x lo hi mx) = false := rfl
@[go_sem] theorem st_fieldAddr {t : TypeId} {x : Operand} {f : Nat} : stOp (.fieldAddr t x f) = false := rfl
@[go_sem] theorem st_field {t : TypeId} {x : Operand} {f : Nat} : stOp (.field t x f) = false := rfl
@[go_sem] theorem st_indexAddr {t : TypeId} {x j : Operand} : stOp (.indexAddr t x j) = false := rfl
@[go_sem] theorem st_index {t : TypeId} {x j : Operand} : stOp (.index t x j) = false := rfl
@[go_sem] theorem st_makeMap {t : TypeId} {r : Option Operand} : stOp (.makeMap t r) = false := rfl
@[go_sem] theorem st_lookup {t : TypeId} {x i : Operand} {ok : Bool} : stOp (.lookup t x i ok) = false := rfl
@[go_sem] theorem st_mapUpdate {t : TypeId} {m k x : Operand} : stOp (.mapUpdate t m k x) = true := rfl
@[go_sem] theorem st_insert {t : TypeId} {m k x : Operand} : stOp (.insert t m k x) = true := rfl
@[go_sem] theorem st_range {t : TypeId} {x : Operand} : stOp (.range t x) = false := rfl
@[go_sem] theorem st_entry {x : Operand} : stOp (.entry x) = false := rfl
@[go_sem] theorem st_extract {x : Operand} {j : Nat} : stOp (.extract x j) = false := rfl
@[go_sem] theorem st_len {xs ts} : stOp (.call ⟨.builtin .len, xs, ts⟩) = false := rfl
@[go_sem] theorem st_min {xs ts} : stOp (.call ⟨.builtin .min, xs, ts⟩) = false := rfl
@[go_sem] theorem st_max {xs ts} : stOp (.call ⟨.builtin .max, xs, ts⟩) = false := rfl
@[go_sem] theorem st_append {xs ts} : stOp (.call ⟨.builtin .append, xs, ts⟩) = true := rfl
@[go_sem] theorem st_copy {xs ts} : stOp (.call ⟨.builtin .copy, xs, ts⟩) = true := rfl
@[go_sem] theorem st_cap {xs ts} : stOp (.call ⟨.builtin .cap, xs, ts⟩) = false := rfl
@[go_sem] theorem st_call {f : Operand} {xs ts} : stOp (.call ⟨.value f, xs, ts⟩) = false := rfl
/-! ### Operations -/
@[congr] theorem aopX_congr {o : Oper} (h : s = s') : aopX P T o s K = aopX P T o s' K := by rw [h]
@[congr] theorem okX_congr {x x' : Option (Prop × D)} (h : x = x') (h' : s = s') : okX x d s K = okX x' d s' K := by rw [h, h']
@[congr] theorem aclX_congr {f f' : D} {args args' : List D} (h : f = f') (h1 : args = args') (h' : s = s') : aclX T f args d s K = aclX T f' args' d s' K := by rw [h, h1, h']
@[go_sem] theorem okX_some {p : Prop} {v : D} : okX (some (p, v)) d s K = K (s.put d v) := rfl
@[go_sem] theorem X_move {x : Operand} : aopX P T ⟨d, .move x, ty, pos, af, gd⟩ s K = aop P T ⟨d, .move x, ty, pos, af, gd⟩ s K := rfl
@[go_sem] theorem X_assign {x : Operand} : aopX P T ⟨d, .assign x, ty, pos, af, gd⟩ s K = aop P T ⟨d, .assign x, ty, pos, af, gd⟩ s K := rfl
@[go_sem] theorem X_pick {c x y : Operand} : aopX P T ⟨d, .pick c x y, ty, pos, af, gd⟩ s K = aop P T ⟨d, .pick c x y, ty, pos, af, gd⟩ s K := rfl
@[go_sem] theorem X_alloc {t : TypeId} : aopX P T ⟨d, .alloc t, ty, pos, af, gd⟩ s K = aop P T ⟨d, .alloc t, ty, pos, af, gd⟩ s K := rfl
@[go_sem] theorem X_box {t : TypeId} {x : Operand} : aopX P T ⟨d, .box t x, ty, pos, af, gd⟩ s K = aop P T ⟨d, .box t x, ty, pos, af, gd⟩ s K := rfl
@[go_sem] theorem X_build {t : TypeId} {ps : Array (Nat × Operand)} : aopX P T ⟨d, .build t ps, ty, pos, af, gd⟩ s K = aop P T ⟨d, .build t ps, ty, pos, af, gd⟩ s K := rfl
@[go_sem] theorem X_buildSlice {t : TypeId} {m : Nat} {ps : Array (Nat × Operand)} : aopX P T ⟨d, .buildSlice t m ps, ty, pos, af, gd⟩ s K = aop P T ⟨d, .buildSlice t m ps, ty, pos, af, gd⟩ s K := rfl
@[go_sem] theorem X_load {t : TypeId} {x : Operand} : aopX P T ⟨d, .load t x, ty, pos, af, gd⟩ s K = aop P T ⟨d, .load t x, ty, pos, af, gd⟩ s K := rfl
@[go_sem] theorem X_store {t : TypeId} {p x : Operand} : aopX P T ⟨d, .store t p x, ty, pos, af, gd⟩ s K = aop P T ⟨d, .store t p x, ty, pos, af, gd⟩ s K := rfl
@[go_sem] theorem X_nilCheck {x : Operand} : aopX P T ⟨d, .nilCheck x, ty, pos, af, gd⟩ s K = aop P T ⟨d, .nilCheck x, ty, pos, af, gd⟩ s K := rfl
@[go_sem] theorem X_binOp {op : BinOp} {t t' : TypeId} {x y : Operand} : aopX P T ⟨d, .binOp op t x y t', ty, pos, af, gd⟩ s K = (nilq P op t (s.ev x) (s.ev y) = none ∧ okP (binD P op t (s.ev x) (s.ev y)) d s K) := rfl
@[go_sem] theorem X_unOp {op : UnOp} {t : TypeId} {x : Operand} : aopX P T ⟨d, .unOp op t x, ty, pos, af, gd⟩ s K = aop P T ⟨d, .unOp op t x, ty, pos, af, gd⟩ s K := rfl
@[go_sem] theorem X_convert {t u : TypeId} {x : Operand} : aopX P T ⟨d, .convert t u x, ty, pos, af, gd⟩ s K = aop P T ⟨d, .convert t u x, ty, pos, af, gd⟩ s K := rfl
@[go_sem] theorem X_makeFunc {f : Fn} {fi ca : Array Operand} : aopX P T ⟨d, .makeFunc f fi ca, ty, pos, af, gd⟩ s K = aop P T ⟨d, .makeFunc f fi ca, ty, pos, af, gd⟩ s K := rfl
@[go_sem] theorem X_makeSlice {t : TypeId} {l c : Operand} : aopX P T ⟨d, .makeSlice t l c, ty, pos, af, gd⟩ s K = aop P T ⟨d, .makeSlice t l c, ty, pos, af, gd⟩ s K := rfl
@[go_sem] theorem X_slice {t : TypeId} {x : Operand} {lo hi mx : Option Operand} : aopX P T ⟨d, .slice t x lo hi mx, ty, pos, af, gd⟩ s K = aop P T ⟨d, .slice t x lo hi mx, ty, pos, af, gd⟩ s K := rfl
@[go_sem] theorem X_fieldAddr {t : TypeId} {x : Operand} {f : Nat} : aopX P T ⟨d, .fieldAddr t x f, ty, pos, af, gd⟩ s K = aop P T ⟨d, .fieldAddr t x f, ty, pos, af, gd⟩ s K := rfl
@[go_sem] theorem X_field {t : TypeId} {x : Operand} {f : Nat} : aopX P T ⟨d, .field t x f, ty, pos, af, gd⟩ s K = aop P T ⟨d, .field t x f, ty, pos, af, gd⟩ s K := rfl
@[go_sem] theorem X_indexAddr {t : TypeId} {x j : Operand} : aopX P T ⟨d, .indexAddr t x j, ty, pos, af, gd⟩ s K = aop P T ⟨d, .indexAddr t x j, ty, pos, af, gd⟩ s K := rfl
@[go_sem] theorem X_index {t : TypeId} {x j : Operand} : aopX P T ⟨d, .index t x j, ty, pos, af, gd⟩ s K = aop P T ⟨d, .index t x j, ty, pos, af, gd⟩ s K := rfl
@[go_sem] theorem X_makeMap {t : TypeId} {r : Option Operand} : aopX P T ⟨d, .makeMap t r, ty, pos, af, gd⟩ s K = aop P T ⟨d, .makeMap t r, ty, pos, af, gd⟩ s K := rfl
@[go_sem] theorem X_lookup {t : TypeId} {x i : Operand} {ok : Bool} : aopX P T ⟨d, .lookup t x i ok, ty, pos, af, gd⟩ s K = aop P T ⟨d, .lookup t x i ok, ty, pos, af, gd⟩ s K := rfl
@[go_sem] theorem X_mapUpdate {t : TypeId} {m k x : Operand} : aopX P T ⟨d, .mapUpdate t m k x, ty, pos, af, gd⟩ s K = aop P T ⟨d, .mapUpdate t m k x, ty, pos, af, gd⟩ s K := rfl
@[go_sem] theorem X_insert {t : TypeId} {m k x : Operand} : aopX P T ⟨d, .insert t m k x, ty, pos, af, gd⟩ s K = aop P T ⟨d, .insert t m k x, ty, pos, af, gd⟩ s K := rfl
@[go_sem] theorem X_range {t : TypeId} {x : Operand} : aopX P T ⟨d, .range t x, ty, pos, af, gd⟩ s K = aop P T ⟨d, .range t x, ty, pos, af, gd⟩ s K := rfl
@[go_sem] theorem X_entry {x : Operand} : aopX P T ⟨d, .entry x, ty, pos, af, gd⟩ s K = aop P T ⟨d, .entry x, ty, pos, af, gd⟩ s K := rfl
@[go_sem] theorem X_extract {x : Operand} {j : Nat} : aopX P T ⟨d, .extract x j, ty, pos, af, gd⟩ s K = aop P T ⟨d, .extract x j, ty, pos, af, gd⟩ s K := rfl
@[go_sem] theorem X_len {x : Operand} {t : TypeId} : aopX P T ⟨d, .call ⟨.builtin .len, #[x], #[t]⟩, ty, pos, af, gd⟩ s K = ((elOf P t).isSome = true ∧ okX (lenD (s.ev x)) d s K) := rfl
@[go_sem] theorem X_min {xs : Array Operand} {ts : Array TypeId} : aopX P T ⟨d, .call ⟨.builtin .min, xs, ts⟩, ty, pos, af, gd⟩ s K = aop P T ⟨d, .call ⟨.builtin .min, xs, ts⟩, ty, pos, af, gd⟩ s K := rfl
@[go_sem] theorem X_max {xs : Array Operand} {ts : Array TypeId} : aopX P T ⟨d, .call ⟨.builtin .max, xs, ts⟩, ty, pos, af, gd⟩ s K = aop P T ⟨d, .call ⟨.builtin .max, xs, ts⟩, ty, pos, af, gd⟩ s K := rfl
@[go_sem] theorem X_append {x y : Operand} {t u : TypeId} : aopX P T ⟨d, .call ⟨.builtin .append, #[x, y], #[t, u]⟩, ty, pos, af, gd⟩ s K = (appM P s t u (s.ev x) (s.ev y) = none ∧ t = u ∧ okT (appD P s t d (s.ev x) (s.ev y)) K) := rfl
@[go_sem] theorem X_copy {xs : Array Operand} {ts : Array TypeId} : aopX P T ⟨d, .call ⟨.builtin .copy, xs, ts⟩, ty, pos, af, gd⟩ s K = aop P T ⟨d, .call ⟨.builtin .copy, xs, ts⟩, ty, pos, af, gd⟩ s K := rfl
@[go_sem] theorem X_cap {xs : Array Operand} {ts : Array TypeId} : aopX P T ⟨d, .call ⟨.builtin .cap, xs, ts⟩, ty, pos, af, gd⟩ s K = aop P T ⟨d, .call ⟨.builtin .cap, xs, ts⟩, ty, pos, af, gd⟩ s K := rfl
@[go_sem] theorem X_call {f : Operand} {xs : List Operand} {ts : Array TypeId} : aopX P T ⟨d, .call ⟨.value f, xs.toArray, ts⟩, ty, pos, af, gd⟩ s K = aclX T (s.ev f) (xs.map s.ev) d s K := rfl
def xcX (x : Option (Prop × D × List (Nat × Ob) × Nat)) (tm : List (Nat × D)) (d : Option Nat) (K : St → Prop) : Prop := match x with
  | some (p, r, os', nx') => p ∧ K (St.put ⟨tm, os', nx'⟩ d r)
  | none => False
@[congr] theorem xcX_congr {x x' : Option (Prop × D × List (Nat × Ob) × Nat)} {tm tm' : List (Nat × D)} (h : x = x') (h' : tm = tm') : xcX x tm d K = xcX x' tm' d K := by rw [h, h']
@[go_sem] theorem aclX_fn {f : FuncId} {fi ca args : List D} {tm : List (Nat × D)} {os : List (Nat × Ob)} {nx : Nat} : aclX T (.fn (.func f) fi ca) args d ⟨tm, os, nx⟩ K = (ovm T f = false ∧ xcX (look T os nx f (fi ++ args ++ ca)) tm d K) := rfl
@[go_sem] theorem xcX_some {p : Prop} {v : D} {tm : List (Nat × D)} {os : List (Nat × Ob)} {nx : Nat} : xcX (some (p, v, os, nx)) tm d K = (p ∧ K (St.put ⟨tm, os, nx⟩ d v)) := rfl
/-! ### In whatever order -/
@[go_sem] theorem push_c {j n : Nat} {T W : List Nat} {B nx : Nat} : push ⟨j, n :: T, W, B, nx⟩ acc = ⟨j, n :: T, W, B, nx⟩ :: acc := rfl
@[go_sem] theorem push_n {j : Nat} {W : List Nat} {B nx : Nat} : push ⟨j, [], W, B, nx⟩ acc = if nx = B then acc else ⟨j, [], W, B, nx⟩ :: acc := rfl
def kdx (P : Program) (T : Tab) (all : Array Oper) (rest : List Oper) (us : List Nat) (i : Nat) (K : St → Prop) : List Ft → St → Prop := fun acc s => dx P T all rest us i acc K s
def kdxE (P : Program) (T : Tab) (o : Oper) (u i : Nat) (acc : List Ft) (k : List Ft → St → Prop) : St → Prop := fun s => dxE P T o u i acc s k
def kdxS (P : Program) (T : Tab) (all : Array Oper) (d : Option Nat) (rest : List Oper) (us : List Nat) (i : Nat) (acc : List Ft) (K : St → Prop) : St → Prop := fun s => dx P T all rest us i acc K (s.put d .skip)
variable {us us' : List Nat} {u u' : Nat}
@[congr] theorem dx_congr {l : List Oper} (hu : us = us') (hi : i = i') (ha : acc = acc') (h : s = s') : dx P T all l us i acc K s = dx P T all l us' i' acc' K s' := by rw [hu, hi, ha, h]
@[congr] theorem kdx_congr {l : List Oper} (hu : us = us') (hi : i = i') (ha : acc = acc') (h : s = s') : kdx P T all l us i K acc s = kdx P T all l us' i' K acc' s' := by rw [hu, hi, ha, h]
@[congr] theorem kdxE_congr {o : Oper} {k : List Ft → St → Prop} (hu : u = u') (hi : i = i') (ha : acc = acc') (h : s = s') : kdxE P T o u i acc k s = kdxE P T o u' i' acc' k s' := by rw [hu, hi, ha, h]
@[congr] theorem kdxS_congr {l : List Oper} (hu : us = us') (hi : i = i') (ha : acc = acc') (h : s = s') : kdxS P T all d l us i acc K s = kdxS P T all d l us' i' acc' K s' := by rw [hu, hi, ha, h]
@[congr] theorem dxE_congr {o : Oper} {k : List Ft → St → Prop} (hu : u = u') (hi : i = i') (ha : acc = acc') (h : s = s') : dxE P T o u i acc s k = dxE P T o u' i' acc' s' k := by rw [hu, hi, ha, h]
@[congr] theorem dxL_congr {o : Oper} {k : List Ft → St → Prop} {Tt Tt' : List Nat} (hu : u = u') (hi : i = i') (ha : acc = acc') (h : s = s') (ht : Tt = Tt') : dxL P T o u i acc s k Tt = dxL P T o u' i' acc' s' k Tt' := by rw [hu, hi, ha, h, ht]
@[congr] theorem dxR_congr {o : Oper} {k : List Ft → St → Prop} {r r' : St} (h : r = r') : dxR P o u i acc s Tt k r = dxR P o u i acc s Tt k r' := by rw [h]
@[congr] theorem dxW_congr {o : Oper} {k : List Ft → St → Prop} {W W' : List Nat} {r r' : St} (hr : r = r') (h : W = W') : dxW P o u i acc s Tt r k W = dxW P o u i acc s Tt r' k W' := by rw [hr, h]
@[go_sem] theorem DX_nil : dx P T all [] us i acc K s = K s := rfl
@[go_sem] theorem DX_none {op : Op} : dx P T all (⟨d, op, ty, pos, af, none⟩ :: rest) us i acc K s = dxE P T ⟨d, op, ty, pos, af, none⟩ (uh us) i acc s (kdx P T all rest (ut us) (i + 1) K) := rfl
@[go_sem] theorem DX_guard {op : Op} {j : Nat} {w : Bool} : dx P T all (⟨d, op, ty, pos, af, some (j, w)⟩ :: rest) us i acc K s =
    grd (gtmp all j) (s.gd (gtmp all j)) w (kdxE P T ⟨d, op, ty, pos, af, some (j, w)⟩ (uh us) i acc (kdx P T all rest (ut us) (i + 1) K)) (kdxS P T all d rest (ut us) (i + 1) acc K) s := rfl
@[go_sem] theorem DX_appc {o : Oper} {l r : List Oper} : dx P T all (List.append (o :: l) r) us i acc K s = dx P T all (o :: List.append l r) us i acc K s := rfl
@[go_sem] theorem DX_appn {r : List Oper} : dx P T all (List.append [] r) us i acc K s = dx P T all r us i acc K s := rfl
@[go_sem] theorem DX_appa {l r q : List Oper} : dx P T all (List.append (List.append l r) q) us i acc K s = dx P T all (List.append l (List.append r q)) us i acc K s := by
  rw [List.append_eq, List.append_eq, List.append_eq, List.append_eq, List.append_assoc]
@[go_sem] theorem kdx_app {l : List Oper} : kdx P T all l us i K acc s = dx P T all l us i acc K s := rfl
@[go_sem] theorem kdxE_app {o : Oper} {k : List Ft → St → Prop} : kdxE P T o u i acc k s = dxE P T o u i acc s k := rfl
@[go_sem] theorem kdxS_app : kdxS P T all d rest us i acc K s = dx P T all rest us i acc K (s.put d .skip) := rfl
@[go_sem] theorem dxE_eq {o : Oper} {k : List Ft → St → Prop} {tm : List (Nat × D)} {os : List (Nat × Ob)} {nx : Nat} : dxE P T o u i acc ⟨tm, os, nx⟩ k = dxL P T o u i acc ⟨tm, os, nx⟩ k (clo os (uni (midsA (pickL (opT o) tm)) [])) := rfl
@[go_sem] theorem dxL_eq {o : Oper} {k : List Ft → St → Prop} {tm : List (Nat × D)} {os : List (Nat × Ob)} {nx : Nat} : dxL P T o u i acc ⟨tm, os, nx⟩ k Tt = aopX P T o (St.loc (opT o) Tt nx ⟨tm, os, nx⟩) (dxR P o u i acc ⟨tm, os, nx⟩ Tt k) := rfl
@[go_sem] theorem dxR_eq {op : Op} {k : List Ft → St → Prop} {tm : List (Nat × D)} {os : List (Nat × Ob)} {nx : Nat} : dxR P ⟨d, op, ty, pos, af, gd⟩ u i acc s Tt k ⟨tm, os, nx⟩ = dxW P ⟨d, op, ty, pos, af, gd⟩ u i acc s Tt ⟨tm, os, nx⟩ k (wOf (stOp op) Tt os) := rfl
@[go_sem] theorem dxW_eq {op : Op} {k : List Ft → St → Prop} {tm tm' : List (Nat × D)} {os os' : List (Nat × Ob)} {nx nx' : Nat} : dxW P ⟨d, op, ty, pos, af, gd⟩ u i acc ⟨tm, os, nx⟩ Tt ⟨tm', os', nx'⟩ k W =
    (low nx Tt = true ∧ valsB Tt (pickL (opT ⟨d, op, ty, pos, af, gd⟩) tm) = true ∧ obsB Tt (pickL Tt os) = true ∧ nx ≤ nx' ∧ rosB Tt nx nx' os' = true ∧ rvP Tt nx nx' tm' d ∧ sameO W os' os Tt ∧
    accB u ⟨i, Tt, W, nx, nx'⟩ acc ∧ k (push ⟨i, Tt, W, nx, nx'⟩ acc) (St.mrg ⟨tm, os, nx⟩ Tt d ⟨tm', os', nx'⟩)) := rfl
end
end Dm
/-! A function's own scope of labels, out of which no 'goto' leads. -/
namespace Dm
open Go
attribute [go_sem] Bool.false_and Bool.and_false Bool.true_and Bool.and_true Bool.or_false Bool.false_or Bool.true_or Bool.or_true Bool.not_true Bool.not_false
section
variable {P : Program} {T : Tab} {n N : Nat} {lv : Nat → Option (List Nat)} {s s' : St} {Q : Exit → St → Prop}
def ng (Q : Exit → St → Prop) : Exit → St → Prop
  | .goto _, _ => False
  | e, s => Q e s
theorem SWp.scope {c : Code} (h : SWp P n N c (ng Q) s) : SWp P n N (.scope c) Q s := by
  intro δ g a w hr hn
  refine wp_scope_straight (wp_mono (h δ g a w hr hn) fun e a' w' ⟨g', s', h1, h2⟩ => ?_)
  cases e with
  | goto l => exact h1.elim
  | _ => exact ⟨g', s', h1, h2⟩
/-- nil is a slice without elements. -/
theorem SWp.nilsl {c : Code} {Q : Exit → St → Prop} (t : Nat) (ht : lk t s.tm = some .nil) (h : SWp P n N c Q (s.rep (some t) (.c (.sl [])))) : SWp P n N c Q s := by
  intro δ g a w hr hn
  obtain ⟨v, hv, hvr⟩ := hr.tm t _ ht
  have hr2 : Rel δ g (s.rep (some t) (.c (.sl []))) a w := by
    refine ⟨fun u d hu => ?_, hr.defers, hr.o.tm⟩
    simp only [St.rep, lk_upd] at hu
    split at hu
    · rename_i hc
      cases hu
      rw [hc.1]
      refine ⟨_, hv, ?_⟩
      cases hvr
      exact .c _ _ (.slnil _ _ (by decide))
    · exact hr.tm u d hu
  refine wp_mono (h δ g a w hr2 hn) fun e a' w' ⟨g2, s2, h1, h2, h3, h4⟩ => ⟨g2, s2, h1, h2, h3, ?_⟩
  exact ⟨h4.ρ, h4.κ, h4.I, h4.size, h4.same, h4.own, h4.imm, h4.env⟩
@[congr] theorem ng_congr {e : Exit} (h' : s = s') : ng Q e s = ng Q e s' := by rw [h']
@[go_sem] theorem ng_n : ng Q .normal s = Q .normal s := rfl
@[go_sem] theorem ng_r : ng Q .ret s = Q .ret s := rfl
@[go_sem] theorem ng_e {i : Nat} : ng Q (.exit i) s = Q (.exit i) s := rfl
@[go_sem] theorem okD_ite {p : Prop} [Decidable p] {v : D} {d : Option Nat} {K : St → Prop} : okD (if p then some v else none) d s K = (p ∧ K (s.put d v)) := by
  by_cases h : p <;> simp [h, okD]
@[go_sem] theorem okS_ite {p : Prop} [Decidable p] {K : St → Prop} : okS (if p then some s else none) K = (p ∧ K s) := by
  by_cases h : p <;> simp [h, okS]
end
end Dm
/-! A slice of one's own, its room told; and the whole one again. -/
namespace Dm
open Go
section
variable {P : Program} {g g' : G} {w w' : World}

def opnD (id n c sz : Nat) : D → D
  | .vec i m => if i = id ∧ m = n then .view id c sz 0 n else .vec i m
  | d => d
def sealQ (Q : D → List (Nat × Ob) → Nat → Prop) (d : D) (os : List (Nat × Ob)) (nx : Nat) : Prop := match d with
  | .view id c sz lo n => match lk id os with
    | some (.vec hd sz' e els) => lo = 0 ∧ c = els.length ∧ sz = sz' ∧ Q (.vec nx n) ((nx, .vec hd sz' e (els.take n)) :: rmv os [id]) (nx + 1)
    | _ => False
  | d => Q d os nx
attribute [go_sem] opnD sealQ false_and and_false Int.zero_add Int.natCast_nonneg Nat.zero_add

theorem opn_rel {id sz : Nat} {hd : Bool} {e : TypeId} {els : List (List C)} {os : List (Nat × Ob)} {nx : Nat} (hr : RelO g ⟨[], os, nx⟩ w) (ho : lk id os = some (.vec hd sz e els)) :
    ∃ c g', els.length ≤ c ∧ c ≤ 9223372036854775807 ∧ RelO g' ⟨[], upd id (.vec hd sz e (fit c sz els)) os, nx⟩ w ∧ Step g ⟨[], os, nx⟩ w g' ⟨[], upd id (.vec hd sz e (fit c sz els)) os, nx⟩ w ∧
      ∀ v d, VRel g w v d → VRel g' w v (opnD id els.length c sz d) := by
  obtain ⟨a0, cap, h1, h2, h3, h4, h5⟩ := hr.ok id _ ho
  have hle : g.Le (g.vec id (a0, cap, cap)) := ⟨fun id b hb => hb, fun j x l c hj => by
    by_cases h : j = id
    · subst h
      rw [h1] at hj; cases hj
      exact ⟨a0, cap, cap, by simp [G.vec], h2, fun _ => ⟨rfl, rfl⟩⟩
    · exact ⟨x, l, c, by simp [G.vec, h, hj], Nat.le_refl _, fun _ => ⟨rfl, rfl⟩⟩, fun b hb => hb⟩
  obtain ⟨h6, h7⟩ := hr.replace ho (.vec hd sz e (fit cap sz els)) [] hle (fun b hb => hb) (fun i hi => rfl) (fun i hi => by simp [G.vec, hi]) (w' := w) (Nat.le_refl _) (fun _ _ _ => rfl)
    (by
      refine ⟨a0, cap, by rw [fit_length]; simp [G.vec], by rw [fit_length]; exact Nat.le_refl _, h3, fit_wide h4, ?_⟩
      rcases h5 with h5 | ⟨b, off, cells, vs, rfl, h8, h9, h10, h11⟩
      · exact .inl h5
      · obtain ⟨vs2, h12⟩ := ok_fit (I := g.I) (w := w) (c := cap) (els := els) h9 h10.2 (fun i j x y _ hx hy => ⟨_, (h11 i j x y hx hy).1, (h11 i j x y hx hy).2⟩)
        exact .inr ⟨b, off, cells, vs2, rfl, h8, h9, h10, h12⟩)
    (fun b hb => .inl (by
      simp only [G.blk, G.vec, if_true] at hb
      simp only [G.blk, h1]
      cases a0 <;> exact hb))
  refine ⟨cap, _, h2, h3, h6, h7, fun v d hv => ?_⟩
  have hm := hv.mono (fun _ _ => rfl) hle
  unfold opnD
  split
  · rename_i i m
    split
    · rename_i hc
      obtain ⟨rfl, rfl⟩ := hc
      cases hv with
      | vec a' cap' _ _ a1 len cap1 hk hn hm' ha hvv =>
        rw [h1] at hk; cases hk
        obtain ⟨rfl, rfl⟩ := hvv rfl
        refine .view a' cap' i cap' sz 0 els.length a' cap' cap' (by simp [G.vec]) (Nat.le_refl _) (Nat.zero_le _) h2 h3 fun _ => ⟨rfl, rfl, fun h => h, fun b o hb => ⟨fun _ => by rw [Nat.zero_mul]; exact hb, o, hb⟩⟩
    · exact hm
  · exact hm

/-- A function that is called with a slice of one's own may be told its room. -/
theorem ACall.opn {f : FuncId} {ds : List D} {os : List (Nat × Ob)} {nx : Nat} {Q : D → List (Nat × Ob) → Nat → Prop} (id : Nat) {hd : Bool} {sz : Nat} {e : TypeId} {els : List (List C)} (ho : lk id os = some (.vec hd sz e els)) (hl : els.length ≤ 9223372036854775807)
    (h : ∀ c, els.length ≤ c → c ≤ 9223372036854775807 → ACall P f (ds.map (opnD id els.length c sz)) (upd id (.vec hd sz e (fit c sz els)) os) nx Q) : ACall P f ds os nx Q := by
  refine ⟨(h _ (Nat.le_refl _) hl).1, fun g w vs hr hsz hv => ?_⟩
  obtain ⟨c, g', h1, h2, h3, h4, h5⟩ := opn_rel hr ho
  refine ((h c h1 h2).2 g' w vs h3 (by rw [List.length_map]; exact hsz) (fun i v d hvv hd => ?_)).mono fun e w' ⟨v, d, g2, os', nx', he, hq, hro, hvr, hst⟩ => ⟨v, d, g2, os', nx', he, hq, hro, hvr, h4.trans hst⟩
  rw [List.getElem?_map, Option.map_eq_some_iff] at hd
  obtain ⟨d0, hd0, rfl⟩ := hd
  exact h5 v d0 (hv i v d0 hvv hd0)

theorem seal_rel {id c sz n : Nat} {hd : Bool} {e : TypeId} {els : List (List C)} {os : List (Nat × Ob)} {nx : Nat} (ho : RelO g ⟨[], os, nx⟩ w) (hlk : lk id os = some (.vec hd sz e els)) (hc : c = els.length) {v : Value} (hv : VRel g w v (.view id c sz 0 n)) :
    ∃ g', RelO g' ⟨[], (nx, .vec hd sz e (els.take n)) :: rmv os [id], nx + 1⟩ w ∧ VRel g' w v (.vec nx n) ∧ Step g ⟨[], os, nx⟩ w g' ⟨[], (nx, .vec hd sz e (els.take n)) :: rmv os [id], nx + 1⟩ w := by
  obtain ⟨a1, cap1, h1, h2, h3, h4, h5⟩ := ho.ok id _ hlk
  cases hv with
  | view a' cap' _ _ _ _ _ a0 len cap hk hle hl hh hm hvv =>
  rw [hk] at h1; cases h1
  obtain ⟨rfl, rfl, h6, h7⟩ := hvv hc
  subst hc
  have haa : a' = a1 := by
    rcases h5 with ⟨rfl, _⟩ | ⟨b, off, _, _, rfl, _⟩
    · exact h6 rfl
    · have := (h7 b off rfl).1 (.inr rfl)
      rw [this, Nat.zero_mul, Nat.add_zero]
  subst haa
  have hfr := ho.fresh nx (Nat.le_refl _)
  have hdl : (els.take n).length = n := by rw [List.length_take]; omega
  have hne : ∀ i o, lk i os = some o → i ≠ nx := fun i o ho' hi => by
    subst hi
    have := ho.ok _ o ho'
    cases o with
    | box cs => obtain ⟨b, _, _, h, _⟩ := this; rw [hfr.1] at h; cases h
    | map _ _ => obtain ⟨b, _, h, _⟩ := this; rw [hfr.1] at h; cases h
    | it _ _ => obtain ⟨b, h, _⟩ := this; rw [hfr.1] at h; cases h
    | vec _ _ _ _ => obtain ⟨b, _, h, _⟩ := this; rw [hfr.2] at h; cases h
  have hidne := hne id _ hlk
  have hκ : ∀ i, i ≠ nx → (g.vec nx (a', n, els.length)).κ i = g.κ i := fun i hi => if_neg hi
  have hκ0 : (g.vec nx (a', n, els.length)).κ nx = some (a', n, els.length) := if_pos rfl
  have hgle : g.Le (g.vec nx (a', n, els.length)) := ⟨fun _ _ h => h, fun i x y z h => ⟨x, y, z, by
    have : i ≠ nx := fun hi => by rw [hi, hfr.2] at h; cases h
    rw [hκ i this]; exact h, Nat.le_refl _, fun _ => ⟨rfl, rfl⟩⟩, fun _ h => h⟩
  have hin : ∀ i o, lk i ((nx, Ob.vec hd sz e (els.take n)) :: rmv os [id]) = some o → (i = nx ∧ o = .vec hd sz e (els.take n)) ∨ (i ≠ nx ∧ i ≠ id ∧ lk i os = some o) := fun i o h => by
    simp only [lk_cons, lk_rmv] at h
    split at h
    · rename_i hi; cases h; exact .inl ⟨hi, rfl⟩
    · rename_i hi
      split at h
      · cases h
      · rename_i hi2; exact .inr ⟨hi, by simpa using hi2, h⟩
  have hblk : ∀ i o, i ≠ nx → (g.vec nx (a', n, els.length)).blk i o = g.blk i o := fun i o hi => by
    cases o with
    | box cs => rfl
    | map _ _ => rfl
    | it _ _ => rfl
    | vec _ _ _ _ => simp only [G.blk, hκ i hi]
  have hblk0 : ∀ b, (g.vec nx (a', n, els.length)).blk nx (.vec hd sz e (els.take n)) = some b → g.blk id (.vec hd sz e els) = some b := fun b hb => by
    simp only [G.blk, hκ0] at hb
    simp only [G.blk, hk]
    cases a' <;> exact hb
  have hown : ∀ b, Own (g.vec nx (a', n, els.length)) ⟨[], (nx, .vec hd sz e (els.take n)) :: rmv os [id], nx + 1⟩ b → Own g ⟨[], os, nx⟩ b := fun b ⟨i, o, h6, h7⟩ => by
    rcases hin i o h6 with ⟨rfl, rfl⟩ | ⟨h8, _, h9⟩
    · exact ⟨id, _, hlk, hblk0 b h7⟩
    · rw [hblk i o h8] at h7; exact ⟨i, o, h9, h7⟩
  have hst : Step g ⟨[], os, nx⟩ w (g.vec nx (a', n, els.length)) ⟨[], (nx, .vec hd sz e (els.take n)) :: rmv os [id], nx + 1⟩ w :=
    ⟨hgle, Nat.le_refl _, fun _ _ _ => rfl, fun b _ hno h => hno (hown b h), fun _ _ _ h => h, .refl w⟩
  refine ⟨g.vec nx (a', n, els.length), ⟨fun i o hi => ?_, fun i o i' o' b h6 h7 h8 h9 => ?_, fun i hi => ?_, fun b hb => ⟨(ho.imm b hb).1, fun h => (ho.imm b hb).2 (hown b h)⟩, ho.cel⟩, ?_, hst⟩
  · rcases hin i o hi with ⟨rfl, rfl⟩ | ⟨h8, _, h9⟩
    · refine ⟨_, _, hκ0.trans (by rw [hdl]), by rw [hdl]; omega, by omega, fun x hx => h4 x (List.mem_of_mem_take hx), ?_⟩
      rcases h5 with ⟨rfl, hc⟩ | ⟨b, off, cells, vs, rfl, h10, h11, h12, h13⟩
      · exact .inl ⟨rfl, hc⟩
      · refine .inr ⟨b, off, cells, vs, rfl, h10, h11, h12, fun i j x y hx hy => ?_⟩
        rw [List.getElem?_take] at hx
        split at hx
        · exact h13 i j x y hx hy
        · cases hx
    · exact (ho.ok i o h9).mono (fun _ _ => rfl) hgle (fun _ _ => rfl) (hκ i h8)
  · rcases hin i o h6 with ⟨rfl, rfl⟩ | ⟨h10, h11, h12⟩ <;> rcases hin i' o' h7 with ⟨rfl, rfl⟩ | ⟨h13, h14, h15⟩
    · rfl
    · rw [hblk i' o' h13] at h9
      exact absurd (ho.apart id _ i' o' b hlk h15 (hblk0 b h8) h9) (fun h => h14 h.symm)
    · rw [hblk i o h10] at h8
      exact absurd (ho.apart i o id _ b h12 hlk h8 (hblk0 b h9)) h11
    · rw [hblk i o h10] at h8
      rw [hblk i' o' h13] at h9
      exact ho.apart i o i' o' b h12 h15 h8 h9
  · have hi' : nx + 1 ≤ i := hi
    rw [hκ i (by omega)]
    exact ho.fresh i (Nat.le_of_succ_le hi')
  · refine .vec a' _ nx n a' n els.length hκ0 (Nat.le_refl _) (by omega) ?_ fun _ => ⟨rfl, rfl⟩
    rcases h5 with ⟨_, hc⟩ | ⟨b, off, _, _, rfl, _⟩
    · exact .inl (by omega)
    · exact .inr ⟨b, off, rfl⟩

/-- A result that is a view becomes a slice of one's own again. -/
theorem ACall.sld {f : FuncId} {ds : List D} {os : List (Nat × Ob)} {nx : Nat} {Q : D → List (Nat × Ob) → Nat → Prop} (h : ACall P f ds os nx (sealQ Q)) : ACall P f ds os nx Q := by
  refine ⟨h.1, fun g w vs hr hsz hv => (h.2 g w vs hr hsz hv).mono fun e w' ⟨v, d, g2, os', nx', he, hq, hro, hvr, hst⟩ => ?_⟩
  unfold sealQ at hq
  split at hq
  · split at hq
    · rename_i hlk
      obtain ⟨rfl, h1, rfl, h2⟩ := hq
      obtain ⟨g3, h3, h4, h5⟩ := seal_rel hro hlk h1 hvr
      exact ⟨v, _, g3, _, _, he, h2, h3, h4, hst.trans h5⟩
    · cases hq
  · exact ⟨v, d, g2, os', nx', he, hq, hro, hvr, hst⟩
end
end Dm
/-! What 'slices.Insert' makes of one element more. -/
namespace Dm
open Go
theorem fit_take {c sz n : Nat} {E : List (List C)} (h : n ≤ E.length) (h' : n ≤ c) : (fit c sz E).take n = E.take n := by
  rw [fit, List.take_take, Nat.min_eq_left h', List.take_append_of_le_length h]
theorem lay_length {E X : List (List C)} {i : Nat} (h : i + X.length ≤ E.length) : (lay E i X).length = E.length := setAt_length _ _ _ h
theorem lay_get {E X : List (List C)} {i p : Nat} (h : i + X.length ≤ E.length) : (lay E i X)[p]? = if i ≤ p ∧ p < i + X.length then X[p - i]? else E[p]? := setAt_get h
theorem ins_get {E : List (List C)} {x : List C} {i k : Nat} (h : i ≤ E.length) : (E.take i ++ x :: E.drop i)[k]? = if k < i then E[k]? else if k = i then some x else E[k - 1]? := by
  have h1 : (E.take i).length = i := by rw [List.length_take]; omega
  by_cases hk : k < i
  · rw [if_pos hk, List.getElem?_append_left (by omega), List.getElem?_take_of_lt hk]
  · rw [if_neg hk, List.getElem?_append_right (by omega), h1]
    by_cases hk2 : k = i
    · rw [if_pos hk2, hk2, Nat.sub_self]; rfl
    · rw [if_neg hk2, show k - i = (k - i - 1) + 1 by omega, List.getElem?_cons_succ, List.getElem?_drop]
      congr 1
      omega
theorem ins_lay {sz c i n : Nat} {E A : List (List C)} {x : List C} (hn : n = E.length) (hi : i < n) (h2 : n + 1 ≤ c) (hA : (lay A i [x]).length = c) (hA0 : ∀ k, k < i → A[k]? = E[k]?) (hAl : A.length = c) :
    (fit c sz (lay (fit c sz (lay A i [x])) (i + 1) (E.drop i))).take (n + 1) = E.take i ++ x :: E.drop i := by
  subst hn
  have hd : (E.drop i).length = E.length - i := List.length_drop
  rw [fit_eq hA, fit_eq (by rw [lay_length (by omega)]; exact hA)]
  apply List.ext_getElem?
  intro k
  rw [ins_get (by omega), List.getElem?_take]
  by_cases hk : k < E.length + 1
  · rw [if_pos hk, lay_get (by omega), lay_get (by simp only [List.length_singleton]; omega), hd]
    simp only [List.length_singleton]
    by_cases h3 : k < i
    · rw [if_neg (by omega), if_neg (by omega), if_pos h3, hA0 k h3]
    · rw [if_neg h3]
      by_cases h4 : k = i
      · rw [if_neg (by omega), if_pos (by omega), if_pos h4, h4, Nat.sub_self]; rfl
      · rw [if_pos (by omega), if_neg h4, List.getElem?_drop]
        congr 1
        omega
  · rw [if_neg hk, if_neg (by omega), if_neg (by omega), List.getElem?_eq_none (by omega)]
/-- Into a new row. -/
theorem ins_new {sz c c1 i : Nat} {E : List (List C)} {x z : List C} (hi : i < E.length) (hc : E.length ≤ c) (h2 : E.length + 1 ≤ c1) :
    (fit c1 sz (lay (fit c1 sz (lay (fit c1 sz ((fit c sz E).take i ++ List.replicate (E.length + 1 - i) z)) i ([x].take (E.length + 1 - i)))) (i + 1) ((((fit c sz E).take E.length).drop i).take (E.length + 1 - (i + 1))))).take (E.length + 1) = E.take i ++ x :: E.drop i := by
  rw [fit_take (c := c) (sz := sz) (E := E) (n := E.length) (Nat.le_refl _) hc, List.take_length, List.take_of_length_le (l := E.drop i) (by rw [List.length_drop]; omega), List.take_of_length_le (l := [x]) (by simp only [List.length_singleton]; omega), fit_take (c := c) (sz := sz) (E := E) (n := i) (by omega) (by omega)]
  refine ins_lay rfl hi h2 ?_ (fun k hk => ?_) (fit_length _ _ _)
  · rw [lay_length (by rw [fit_length]; simp only [List.length_singleton]; omega), fit_length]
  · rw [fit_get, if_pos (by omega), if_pos (by simp only [List.length_append, List.length_take, List.length_replicate]; omega), List.getElem?_append_left (by rw [List.length_take]; omega), List.getElem?_take_of_lt hk]
/-- In place. -/
theorem ins_old {sz c i : Nat} {E : List (List C)} {x : List C} (hi : i < E.length) (hc : E.length + 1 ≤ c) :
    (fit c sz (lay (fit c sz (lay (fit c sz E) (i + 1) ((((fit c sz E).take (E.length + 1)).drop i).take (E.length + 1 - (i + 1))))) i ([x].take (E.length + 1 - i)))).take (E.length + 1) = E.take i ++ x :: E.drop i := by
  have e1 : (((fit c sz E).take (E.length + 1)).drop i).take (E.length + 1 - (i + 1)) = E.drop i := by
    apply List.ext_getElem?
    intro k
    rw [List.getElem?_take, List.getElem?_drop, List.getElem?_drop, List.getElem?_take, fit_get]
    by_cases h : k < E.length + 1 - (i + 1)
    · rw [if_pos h, if_pos (by omega), if_pos (by omega), if_pos (by omega)]
    · rw [if_neg h, List.getElem?_eq_none (by omega)]
  have hd : (E.drop i).length = E.length - i := List.length_drop
  have hl : (lay (fit c sz E) (i + 1) (E.drop i)).length = c := by rw [lay_length (by rw [fit_length, hd]; omega), fit_length]
  rw [e1, List.take_of_length_le (l := [x]) (by simp only [List.length_singleton]; omega), fit_eq hl, fit_eq (by rw [lay_length (by rw [hl]; simp only [List.length_singleton]; omega), hl])]
  apply List.ext_getElem?
  intro k
  rw [ins_get (by omega), List.getElem?_take]
  by_cases hk : k < E.length + 1
  · rw [if_pos hk, lay_get (by rw [hl]; simp only [List.length_singleton]; omega), lay_get (by rw [fit_length, hd]; omega), hd]
    simp only [List.length_singleton]
    by_cases h3 : k < i
    · rw [if_neg (by omega), if_neg (by omega), if_pos h3, fit_get, if_pos (by omega), if_pos (by omega)]
    · rw [if_neg h3]
      by_cases h4 : k = i
      · rw [if_pos (by omega), if_pos h4, h4, Nat.sub_self]; rfl
      · rw [if_neg (by omega), if_pos (by omega), if_neg h4, List.getElem?_drop]
        congr 1
        omega
  · rw [if_neg hk, if_neg (by omega), if_neg (by omega), List.getElem?_eq_none (by omega)]
end Dm
namespace Dm
open Go Go.IntWalk
/-- Temporary t is never read. -/
abbrev fg (t : Nat) : Nat × (List D → Option (Prop × D × Fr)) := (1000000000 + t, fun _ => none)
abbrev ovk (f : Nat) : Nat × (List D → Option (Prop × D × Fr)) := (2000000000 + f, fun _ => none)
theorem fg_ok {P : Program} (t : Nat) : ∀ rs p r fr, (fun _ => none : List D → Option (Prop × D × Fr)) rs = some (p, r, fr) → p → FnOk P (1000000000 + t) rs r fr := fun rs p r fr h => by cases h
theorem ov_ok {P : Program} (t : Nat) : ∀ rs p r fr, (fun _ => none : List D → Option (Prop × D × Fr)) rs = some (p, r, fr) → p → FnOk P (2000000000 + t) rs r fr := fun rs p r fr h => by cases h
theorem lend_ok {P : Program} (t : Nat) : ∀ rs p r fr, (fun _ => none : List D → Option (Prop × D × Fr)) rs = some (p, r, fr) → p → FnOk P (3000000000 + t) rs r fr := fun rs p r fr h => by cases h
theorem TabOk.append {P : Program} {T T' : Tab} (h : TabOk P T) (h' : TabOk P T') : TabOk P (T ++ T') := by
  intro f sp rs p r fr hl hs hp
  rw [lk_app] at hl
  cases hk : lk f T with
  | none => rw [hk] at hl; exact h' f sp rs p r fr hl hs hp
  | some x => rw [hk] at hl; exact h f sp rs p r fr (by rw [hk]; exact hl) hs hp
@[go_sem] theorem u64_nn (x : Int) : 0 ≤ IntKind.u64.wrap x := by
  simp only [IntKind.wrap, IntKind.signed, IntKind.bits]
  exact Int.emod_nonneg _ (by decide)
theorem u64_lt (x : Int) : IntKind.u64.wrap x < 18446744073709551616 := by
  simp only [IntKind.wrap, IntKind.signed, IntKind.bits]
  exact Int.emod_lt_of_pos _ (by decide)
theorem u64_i64 (x : Int) : IntKind.u64.wrap (IntKind.i64.wrap x) = IntKind.u64.wrap x := by
  simp only [IntKind.wrap, IntKind.signed, IntKind.bits, IntKind.min]
  simp
  omega
/-- The middle of two places. -/
theorem mid_eq {i j n : Nat} (h : i ≤ j) (hj : j ≤ n) (hn : (n : Int) ≤ 9223372036854775807) : IntKind.i64.wrap ((IntKind.u64.wrap (IntKind.i64.wrap (i + j))).fdiv (2 ^ min 1 64)) = (((i + j) / 2 : Nat) : Int) := by
  rw [u64_i64, u64_in _ (by omega), show (2 ^ min 1 64 : Int) = 2 from rfl, Int.fdiv_eq_ediv_of_nonneg _ (by decide), i64_in _ (by omega)]
  omega
attribute [go_sem] Int.natCast_nonneg Int.toNat_natCast
/-- Numbers. -/
def u64s (l : List Nat) : List (List C) := l.map fun k : Nat => [.int .u64 (k : Int)]
def u8s (l : List Nat) : List (List C) := l.map fun k : Nat => [.int .u8 (k : Int)]
def i64s (l : List Int) : List (List C) := l.map fun k => [.int .i64 k]
def du64s (l : List (List C)) : List Nat := l.map fun | [.int _ k] => k.toNat | _ => 0
def du8s (l : List (List C)) : List Nat := l.map fun | [.int _ k] => k.toNat | _ => 0
def di64s (l : List (List C)) : List Int := l.map fun | [.int _ k] => k | _ => 0
@[simp, go_sem] theorem u64s_length (l : List Nat) : (u64s l).length = l.length := by simp [u64s]
@[simp, go_sem] theorem u8s_length (l : List Nat) : (u8s l).length = l.length := by simp [u8s]
@[simp, go_sem] theorem i64s_length (l : List Int) : (i64s l).length = l.length := by simp [i64s]
@[go_sem] theorem u64s_get (l : List Nat) (i : Nat) : (u64s l).getD i [.int .u64 0] = [.int .u64 (l.getD i default : Nat)] := by
  simp only [u64s, List.getD_eq_getElem?_getD, List.getElem?_map]
  cases l[i]? <;> rfl
@[go_sem] theorem u8s_get (l : List Nat) (i : Nat) : (u8s l).getD i [.int .u8 0] = [.int .u8 (l.getD i default : Nat)] := by
  simp only [u8s, List.getD_eq_getElem?_getD, List.getElem?_map]
  cases l[i]? <;> rfl
@[go_sem] theorem i64s_get (l : List Int) (i : Nat) : (i64s l).getD i [.int .i64 0] = [.int .i64 (l.getD i default)] := by
  simp only [i64s, List.getD_eq_getElem?_getD, List.getElem?_map]
  cases l[i]? <;> rfl
@[go_sem] theorem u64s_wide (l : List Nat) : Wide 1 (u64s l) = True := by simp [Wide, u64s]
@[go_sem] theorem u8s_wide (l : List Nat) : Wide 1 (u8s l) = True := by simp [Wide, u8s]
@[go_sem] theorem i64s_wide (l : List Int) : Wide 1 (i64s l) = True := by simp [Wide, i64s]
@[go_sem] theorem du64s_u64s (l : List Nat) : du64s (u64s l) = l := by
  simp only [du64s, u64s, List.map_map]
  exact List.map_id'' (fun e => by simp) l
@[go_sem] theorem du8s_u8s (l : List Nat) : du8s (u8s l) = l := by
  simp only [du8s, u8s, List.map_map]
  exact List.map_id'' (fun e => by simp) l
@[go_sem] theorem di64s_i64s (l : List Int) : di64s (i64s l) = l := by
  simp only [di64s, i64s, List.map_map]
  exact List.map_id'' (fun e => by simp) l
@[go_sem] theorem u64s_app (a b : List Nat) : u64s a ++ u64s b = u64s (a ++ b) := by simp [u64s]
@[go_sem] theorem u8s_app (a b : List Nat) : u8s a ++ u8s b = u8s (a ++ b) := by simp [u8s]
@[go_sem] theorem u64s_drop (l : List Nat) (k : Nat) : (u64s l).drop k = u64s (l.drop k) := by simp [u64s]
@[go_sem] theorem u8s_drop (l : List Nat) (k : Nat) : (u8s l).drop k = u8s (l.drop k) := by simp [u8s]
@[go_sem] theorem u64s_take (l : List Nat) (k : Nat) : (u64s l).take k = u64s (l.take k) := by simp [u64s]
@[go_sem] theorem u8s_take (l : List Nat) (k : Nat) : (u8s l).take k = u8s (l.take k) := by simp [u8s]
@[go_sem] theorem u64s_one (z : Int) (h : 0 ≤ z) : [[C.int .u64 z]] = u64s [z.toNat] := by simp [u64s, Int.toNat_of_nonneg h]
@[go_sem] theorem u64s_cons (z : Int) (l : List Nat) (h : 0 ≤ z) : [C.int .u64 z] :: u64s l = u64s (z.toNat :: l) := by simp [u64s, Int.toNat_of_nonneg h]
@[go_sem] theorem u64s_set (l : List Nat) (i : Nat) (z : Int) (h : 0 ≤ z) : (u64s l).set i [C.int .u64 z] = u64s (l.set i z.toNat) := by simp [u64s, List.map_set, Int.toNat_of_nonneg h]
@[go_sem] theorem i64s_one (z : Int) : [[C.int .i64 z]] = i64s [z] := rfl
@[go_sem] theorem i64s_cons (z : Int) (l : List Int) : [C.int .i64 z] :: i64s l = i64s (z :: l) := rfl
@[go_sem] theorem i64s_set (l : List Int) (i : Nat) (z : Int) : (i64s l).set i [C.int .i64 z] = i64s (l.set i z) := by simp [i64s, List.map_set]
@[go_sem] theorem u8s_one (z : Int) (h : 0 ≤ z) : [[C.int .u8 z]] = u8s [z.toNat] := by simp [u8s, Int.toNat_of_nonneg h]
@[go_sem] theorem u8s_cons (z : Int) (l : List Nat) (h : 0 ≤ z) : [C.int .u8 z] :: u8s l = u8s (z.toNat :: l) := by simp [u8s, Int.toNat_of_nonneg h]
@[go_sem] theorem u8s_set (l : List Nat) (i : Nat) (z : Int) (h : 0 ≤ z) : (u8s l).set i [C.int .u8 z] = u8s (l.set i z.toNat) := by simp [u8s, List.map_set, Int.toNat_of_nonneg h]
/-- A map, read. -/
def dkvF (l : List (List C × List C)) : List (Nat × Int) := l.map fun | ([.int _ k], [.int _ v]) => (k.toNat, v) | _ => (0, 0)
@[go_sem] theorem dkvF_kvF {k v : IntKind} (l : List (Nat × Int)) : dkvF (kvF k v l) = l := by
  simp only [dkvF, kvF, List.map_map]
  exact List.map_id'' (fun e => by simp) l
def cmpS (x y : Int) : Int := if x < y then -1 else if y < x then 1 else 0
theorem cmpS_neg {x y : Int} : cmpS x y < 0 ↔ x < y := by
  unfold cmpS
  split
  · simp; assumption
  · split <;> simp <;> omega
theorem cmpS_0 {x y : Int} : cmpS x y = 0 ↔ x = y := by
  unfold cmpS
  split
  · simp; omega
  · split <;> simp <;> omega
theorem take_succ_iff {α : Type} [DecidableEq α] [Inhabited α] {a b : List α} {i : Nat} (h1 : i < a.length) (h2 : i < b.length) (h : a.take i = b.take i) :
    a.take (i + 1) = b.take (i + 1) ↔ a.getD i default = b.getD i default := by
  have e1 : a.take (i + 1) = a.take i ++ [a[i]] := by simp
  have e2 : b.take (i + 1) = b.take i ++ [b[i]] := by simp
  rw [e1, e2, h, List.append_cancel_left_eq]
  simp [List.getD, List.getElem?_eq_getElem h1, List.getElem?_eq_getElem h2]
theorem getD_lt {α : Type} [Inhabited α] {l : List α} {i : Nat} (h : i < l.length) : l.getD i default = l[i] := by
  rw [List.getD_eq_getElem?_getD, List.getElem?_eq_getElem h]; rfl
theorem take_succ {α : Type} [Inhabited α] {l : List α} {i : Nat} (h : i < l.length) : l.take (i + 1) = l.take i ++ [l.getD i default] := by
  rw [getD_lt h]; simp
theorem mem_getD {α : Type} [Inhabited α] {l : List α} {x : α} : x ∈ l ↔ ∃ i, i < l.length ∧ l.getD i default = x := by
  constructor
  · intro h
    obtain ⟨i, hi, rfl⟩ := List.getElem_of_mem h
    exact ⟨i, hi, getD_lt hi⟩
  · rintro ⟨i, hi, rfl⟩
    rw [getD_lt hi]
    exact List.getElem_mem hi
/-! Entries of a map -/
theorem nd_inj {m : List (Nat × Int)} (h : (m.map (·.1)).Nodup) {x y : Nat × Int} (hx : x ∈ m) (hy : y ∈ m) (he : x.1 = y.1) : x = y := by
  induction m with
  | nil => cases hx
  | cons z m ih =>
    simp only [List.map_cons, List.nodup_cons, List.mem_map] at h
    rcases List.mem_cons.1 hx with rfl | hx' <;> rcases List.mem_cons.1 hy with rfl | hy'
    · rfl
    · exact absurd ⟨y, hy', he.symm⟩ h.1
    · exact absurd ⟨x, hx', he⟩ h.1
    · exact ih h.2 hx' hy'
theorem nd_key {m sn : List (Nat × Int)} (h : (m.map (·.1)).Nodup) (hs : ∀ x ∈ sn, x ∈ m) {x : Nat × Int} (hx : x ∈ m) (hn : x ∉ sn) : x.1 ∉ sn.map (·.1) := fun hm => by
  obtain ⟨y, hy, he⟩ := List.mem_map.1 hm
  exact hn (nd_inj h hx (hs y hy) he.symm ▸ hy)
theorem nset_new {a : Nat} {b : Int} : ∀ {l : List (Nat × Int)}, a ∉ l.map (·.1) → nset a b l = l ++ [(a, b)]
  | [], _ => rfl
  | (x, y) :: l, h => by
    simp only [List.map_cons, List.mem_cons, not_or] at h
    rw [nset, if_neg (fun e => h.1 e.symm), nset_new h.2]; rfl
theorem nset_keys {a : Nat} {b : Int} : ∀ {l : List (Nat × Int)}, (nset a b l).map (·.1) = if a ∈ l.map (·.1) then l.map (·.1) else l.map (·.1) ++ [a]
  | [] => by simp [nset]
  | (x, y) :: l => by
    rw [nset]
    by_cases h : x = a
    · subst h; simp
    · rw [if_neg h, List.map_cons, nset_keys, List.map_cons]
      have h' : ¬ a = x := fun e => h e.symm
      by_cases h2 : a ∈ l.map (·.1)
      · simp [h2]
      · simp [h2, h']
theorem nset_nd {a : Nat} {b : Int} {l : List (Nat × Int)} (h : (l.map (·.1)).Nodup) : ((nset a b l).map (·.1)).Nodup := by
  rw [nset_keys]
  split
  · exact h
  · rename_i hn
    rw [List.nodup_append]
    exact ⟨h, by simp, fun x hx y hy => by simp at hy; subst hy; rintro rfl; exact hn hx⟩
theorem nlk_nset {a k : Nat} {b : Int} : ∀ {l : List (Nat × Int)}, nlk k (nset a b l) = if k = a then some b else nlk k l
  | [] => by
    by_cases h : a = k
    · subst h; simp [nset, nlk]
    · have : ¬ k = a := fun e => h e.symm
      simp [nset, nlk, h, this]
  | (x, y) :: l => by
    rw [nset]
    by_cases h : x = a
    · subst h
      by_cases h2 : x = k
      · subst h2; simp [nlk]
      · have : ¬ k = x := fun e => h2 e.symm
        simp [nlk, h2, this]
    · rw [if_neg h, nlk, nlk, nlk_nset]
      by_cases h2 : x = k
      · subst h2; simp [h]
      · simp [h2]
theorem nlk_some {k : Nat} {b : Int} : ∀ {l : List (Nat × Int)}, (l.map (·.1)).Nodup → (nlk k l = some b ↔ (k, b) ∈ l)
  | [], _ => by simp [nlk]
  | (x, y) :: l, h => by
    simp only [List.map_cons, List.nodup_cons] at h
    rw [nlk]
    by_cases h2 : x = k
    · subst h2
      rw [if_pos rfl]
      simp only [Option.some.injEq, List.mem_cons, Prod.mk.injEq, true_and]
      refine ⟨fun e => .inl e.symm, fun e => ?_⟩
      rcases e with e | e
      · exact e.symm
      · exact absurd (List.mem_map.2 ⟨_, e, rfl⟩) h.1
    · rw [if_neg h2, nlk_some h.2, List.mem_cons]
      refine ⟨.inr, fun e => ?_⟩
      rcases e with e | e
      · simp only [Prod.mk.injEq] at e; exact absurd e.1.symm h2
      · exact e
theorem nlk_none {k : Nat} : ∀ {l : List (Nat × Int)}, (nlk k l = none ↔ k ∉ l.map (·.1))
  | [] => by simp [nlk]
  | (x, y) :: l => by
    rw [nlk]
    by_cases h2 : x = k
    · subst h2; simp
    · have : ¬ k = x := fun e => h2 e.symm
      rw [if_neg h2, nlk_none]; simp [this]
theorem nd_of_keys {l : List (Nat × Int)} (h : (l.map (·.1)).Nodup) : l.Nodup := by
  induction l with
  | nil => exact List.nodup_nil
  | cons x l ih =>
    simp only [List.map_cons, List.nodup_cons] at h
    exact List.nodup_cons.2 ⟨fun hm => h.1 (List.mem_map.2 ⟨x, hm, rfl⟩), ih h.2⟩
theorem nd_add {sn : List (Nat × Int)} {x : Nat × Int} (h : sn.Nodup) (hx : x ∉ sn) : (sn ++ [x]).Nodup := by
  rw [List.nodup_append]
  exact ⟨h, by simp, fun a ha b hb => by simp at hb; subst hb; rintro rfl; exact hx ha⟩
theorem kvF_perm {k v : IntKind} {a b : List (Nat × Int)} (h : a.Perm b) : (kvF k v a).Perm (kvF k v b) := h.map _
end Dm
/-! What the program's tables say of the types that its functions use. Printed by gen.py. -/
namespace Dm
open Go
@[go_sem] theorem arOf_23 : arOf Go.Proofs.Try.prog 23 = none := by kernel_rfl
@[go_sem] theorem arOf_24 : arOf Go.Proofs.Try.prog 24 = none := by kernel_rfl
@[go_sem] theorem arOf_28 : arOf Go.Proofs.Try.prog 28 = none := by kernel_rfl
@[go_sem] theorem arOf_70 : arOf Go.Proofs.Try.prog 70 = none := by kernel_rfl
@[go_sem] theorem bldOf_27 : bldOf Go.Proofs.Try.prog 27 = some [D.c (C.int IntKind.i64 0), D.c (C.int IntKind.u64 0), D.c (C.int IntKind.u64 0)] := by kernel_rfl
@[go_sem] theorem bldOf_48 : bldOf Go.Proofs.Try.prog 48 = some [D.c (C.int IntKind.u64 0), D.c (C.int IntKind.u64 0), D.c (C.int IntKind.u64 0)] := by kernel_rfl
@[go_sem] theorem elOf_3 : elOf Go.Proofs.Try.prog 3 = none := by kernel_rfl
@[go_sem] theorem elOf_22 : elOf Go.Proofs.Try.prog 22 = none := by kernel_rfl
@[go_sem] theorem elOf_23 : elOf Go.Proofs.Try.prog 23 = some (27, 3, 24) := by kernel_rfl
@[go_sem] theorem elOf_24 : elOf Go.Proofs.Try.prog 24 = some (22, 1, 8) := by kernel_rfl
@[go_sem] theorem elOf_28 : elOf Go.Proofs.Try.prog 28 = some (48, 3, 24) := by kernel_rfl
@[go_sem] theorem elOf_69 : elOf Go.Proofs.Try.prog 69 = none := by kernel_rfl
@[go_sem] theorem elOf_70 : elOf Go.Proofs.Try.prog 70 = some (3, 1, 8) := by kernel_rfl
@[go_sem] theorem eqOf_48 : eqOf Go.Proofs.Try.prog 48 = some [(0, 0), (1, 0), (2, 0)] := by kernel_rfl
@[go_sem] theorem fldOf_27_0 : fldOf Go.Proofs.Try.prog 27 0 = some 0 := by kernel_rfl
@[go_sem] theorem fldOf_27_1 : fldOf Go.Proofs.Try.prog 27 1 = some 1 := by kernel_rfl
@[go_sem] theorem fldOf_27_2 : fldOf Go.Proofs.Try.prog 27 2 = some 2 := by kernel_rfl
@[go_sem] theorem fldOf_48_0 : fldOf Go.Proofs.Try.prog 48 0 = some 0 := by kernel_rfl
@[go_sem] theorem fldOf_48_1 : fldOf Go.Proofs.Try.prog 48 1 = some 1 := by kernel_rfl
@[go_sem] theorem fldOf_48_2 : fldOf Go.Proofs.Try.prog 48 2 = some 2 := by kernel_rfl
@[go_sem] theorem inOf_3 : inOf Go.Proofs.Try.prog 3 = some IntKind.i64 := by kernel_rfl
@[go_sem] theorem inOf_69 : inOf Go.Proofs.Try.prog 69 = some IntKind.u64 := by kernel_rfl
@[go_sem] theorem kdOf_3 : kdOf Go.Proofs.Try.prog 3 = some (TypeDesc.int IntKind.i64) := by kernel_rfl
@[go_sem] theorem kdOf_4 : kdOf Go.Proofs.Try.prog 4 = some TypeDesc.bool := by kernel_rfl
@[go_sem] theorem kdOf_22 : kdOf Go.Proofs.Try.prog 22 = some (TypeDesc.int IntKind.u64) := by kernel_rfl
@[go_sem] theorem kdOf_28 : kdOf Go.Proofs.Try.prog 28 = some (TypeDesc.slice 48) := by kernel_rfl
@[go_sem] theorem kdOf_29 : kdOf Go.Proofs.Try.prog 29 = some (TypeDesc.int IntKind.i64) := by kernel_rfl
@[go_sem] theorem kdOf_69 : kdOf Go.Proofs.Try.prog 69 = some (TypeDesc.int IntKind.u64) := by kernel_rfl
@[go_sem] theorem mapOf_39 : mapOf Go.Proofs.Try.prog 39 = some ([KK.int IntKind.u64], D.c (C.int IntKind.u64 0)) := by kernel_rfl
@[go_sem] theorem plcOf_27_0 : plcOf Go.Proofs.Try.prog 27 0 = some (0, 1) := by kernel_rfl
@[go_sem] theorem plcOf_27_1 : plcOf Go.Proofs.Try.prog 27 1 = some (1, 1) := by kernel_rfl
@[go_sem] theorem plcOf_27_2 : plcOf Go.Proofs.Try.prog 27 2 = some (2, 1) := by kernel_rfl
@[go_sem] theorem plcOf_48_0 : plcOf Go.Proofs.Try.prog 48 0 = some (0, 1) := by kernel_rfl
@[go_sem] theorem plcOf_48_1 : plcOf Go.Proofs.Try.prog 48 1 = some (1, 1) := by kernel_rfl
@[go_sem] theorem plcOf_48_2 : plcOf Go.Proofs.Try.prog 48 2 = some (2, 1) := by kernel_rfl
@[go_sem] theorem tyOf_3 : tyOf Go.Proofs.Try.prog 3 = some (false, 1) := by kernel_rfl
@[go_sem] theorem tyOf_22 : tyOf Go.Proofs.Try.prog 22 = some (false, 1) := by kernel_rfl
@[go_sem] theorem tyOf_27 : tyOf Go.Proofs.Try.prog 27 = some (true, 3) := by kernel_rfl
@[go_sem] theorem tyOf_48 : tyOf Go.Proofs.Try.prog 48 = some (true, 3) := by kernel_rfl
@[go_sem] theorem zOf_27 : zOf Go.Proofs.Try.prog 27 = some (D.agg [D.c (C.int IntKind.i64 0), D.c (C.int IntKind.u64 0), D.c (C.int IntKind.u64 0)]) := by kernel_rfl
@[go_sem] theorem zOf_48 : zOf Go.Proofs.Try.prog 48 = some (D.agg [D.c (C.int IntKind.u64 0), D.c (C.int IntKind.u64 0), D.c (C.int IntKind.u64 0)]) := by kernel_rfl
@[go_sem] theorem zc0_3 : zc0 Go.Proofs.Try.prog 3 = [C.int IntKind.i64 0] := by kernel_rfl
@[go_sem] theorem zc0_22 : zc0 Go.Proofs.Try.prog 22 = [C.int IntKind.u64 0] := by kernel_rfl
@[go_sem] theorem zc0_27 : zc0 Go.Proofs.Try.prog 27 = [C.int IntKind.i64 0, C.int IntKind.u64 0, C.int IntKind.u64 0] := by kernel_rfl
@[go_sem] theorem zc0_48 : zc0 Go.Proofs.Try.prog 48 = [C.int IntKind.u64 0, C.int IntKind.u64 0, C.int IntKind.u64 0] := by kernel_rfl
@[go_sem] theorem zcOf_3 : zcOf Go.Proofs.Try.prog 3 = some [C.int IntKind.i64 0] := by kernel_rfl
@[go_sem] theorem zcOf_22 : zcOf Go.Proofs.Try.prog 22 = some [C.int IntKind.u64 0] := by kernel_rfl
@[go_sem] theorem zcOf_27 : zcOf Go.Proofs.Try.prog 27 = some [C.int IntKind.i64 0, C.int IntKind.u64 0, C.int IntKind.u64 0] := by kernel_rfl
@[go_sem] theorem zcOf_48 : zcOf Go.Proofs.Try.prog 48 = some [C.int IntKind.u64 0, C.int IntKind.u64 0, C.int IntKind.u64 0] := by kernel_rfl
end Dm
/-! The temporaries that are read behind each region. Printed by gen.py. -/
namespace Dm
def lvL (l : List (Nat × List Nat)) (i : Nat) : Option (List Nat) := lk i l
@[go_sem] theorem lvL_eq (l : List (Nat × List Nat)) (i : Nat) : lvL l i = lk i l := rfl
/-- damson/damsonlaw15.SpendCaps -/
abbrev lv3 : Nat → Option (List Nat) := lvL [(0, [0, 1, 2, 3, 4, 5]), (1, [0, 1, 2, 3, 4, 5, 24]), (2, [12]), (3, [0, 1, 2, 3, 4, 5, 32]), (4, [12]), (5, [0, 1, 2, 3, 4, 5, 13]), (6, [0, 1, 2, 3, 4, 5, 13, 14]), (7, [0, 1, 2, 3, 4, 5, 13, 14, 15]), (8, [0, 1, 2, 3, 5, 13, 14, 15, 36, 37, 38]), (9, [0, 1, 2, 3, 5, 13, 14, 15, 36, 37, 38, 39]), (10, [0, 1, 2, 3, 5, 13, 14, 15, 16, 17, 36, 37, 38]), (11, [0, 1, 2, 3, 5, 13, 14, 15, 16, 17, 36, 37, 38, 46]), (12, [0, 1, 2, 3, 5, 13, 14, 15, 16, 17, 18, 36, 37, 38]), (13, [0, 1, 2, 3, 5, 13, 14, 15, 16, 17, 18, 36, 37, 38, 57]), (14, [0, 1, 2, 3, 5, 13, 14, 15, 16, 17, 18, 36, 37, 38]), (15, [0, 1, 2, 3, 5, 13, 14, 15, 16, 17, 19, 20, 36, 37, 38]), (16, [0, 1, 2, 3, 5, 13, 14, 15, 16, 17, 19, 36, 37, 38, 71]), (17, [0, 1, 2, 3, 5, 13, 14, 15, 36, 37, 38, 74]), (18, [12]), (19, [0, 1, 2, 3, 5, 13, 14, 15, 16, 17, 36, 37, 38]), (20, [0, 1, 2, 3, 5, 13, 14, 15, 17, 36, 37, 38, 81]), (21, [0, 1, 2, 3, 5, 13, 14, 15, 36, 37, 38]), (22, [0, 1, 2, 3, 5, 13, 14, 15, 21, 22, 36, 37, 38]), (23, [0, 1, 2, 3, 5, 13, 14, 15, 36, 37, 38, 108]), (24, [12]), (25, [0, 1, 2, 3, 5, 13, 14, 15, 36, 37, 38]), (26, [12])]
@[go_sem] def us3_12 : List Nat := [0, 1, 0, 4, 15, 31]
theorem ac3 {T : Tab} (hT : TabOk Go.Proofs.Try.prog T) {ds : List D} {os : List (Nat × Ob)} {nx : Nat} {Q : D → List (Nat × Ob) → Nat → Prop} (hl : ds.length ≤ 110) (h : awp Go.Proofs.Try.prog T 110 nx lv3 (Go.Proofs.Try.f3.body.getD .skip) (fin Go.Proofs.Try.prog [.tmp 12] Q) ⟨prm 0 ds, os, nx⟩) : ACall Go.Proofs.Try.prog 3 ds os nx Q :=
  acall_intro hT.toS (fn := Go.Proofs.Try.f3) lv3 (by kernel_rfl) rfl rfl (by kernel_rfl) rfl hl rfl h
/-- damson/damsonlaw15.SpendMay -/
abbrev lv4 : Nat → Option (List Nat) := lvL [(0, [0, 1, 2, 3, 4, 5]), (1, [0, 1, 2, 3, 4, 5, 26]), (2, [12]), (3, [0, 1, 2, 3, 4, 5, 30]), (4, [12]), (5, [0, 1, 2, 3, 4, 5, 13, 14]), (6, [0, 1, 2, 3, 4, 5, 13, 14, 15, 16]), (7, [0, 1, 2, 3, 4, 5, 13, 14, 15, 16, 48]), (8, [12]), (9, [0, 1, 2, 3, 4, 5, 15, 16, 62]), (10, [12]), (11, [0, 1, 2, 3, 4, 5, 15, 16, 71]), (12, [12]), (13, [1, 2, 3, 4, 5, 15, 17, 18]), (14, [1, 2, 3, 4, 5, 17, 18, 19, 20]), (15, [1, 3, 4, 5, 17, 18, 19, 20, 21, 22]), (16, [1, 3, 4, 5, 17, 19, 21, 107]), (17, [12]), (18, [1, 3, 4, 17, 19, 23, 24]), (19, [3, 17, 19, 23, 119]), (20, [12]), (21, [12])]
theorem ac4 {T : Tab} (hT : TabOk Go.Proofs.Try.prog T) {ds : List D} {os : List (Nat × Ob)} {nx : Nat} {Q : D → List (Nat × Ob) → Nat → Prop} (hl : ds.length ≤ 133) (h : awp Go.Proofs.Try.prog T 133 nx lv4 (Go.Proofs.Try.f4.body.getD .skip) (fin Go.Proofs.Try.prog [.tmp 12] Q) ⟨prm 0 ds, os, nx⟩) : ACall Go.Proofs.Try.prog 4 ds os nx Q :=
  acall_intro hT.toS (fn := Go.Proofs.Try.f4) lv4 (by kernel_rfl) rfl rfl (by kernel_rfl) rfl hl rfl h
/-- damson/damsonlaw15.SpendNone -/
abbrev lv5 : Nat → Option (List Nat) := lvL [(0, [0, 1, 2, 3, 4]), (1, [0, 1, 2, 3, 4, 22]), (2, [10]), (3, [0, 1, 2, 3, 4, 39]), (4, [10]), (5, [0, 1, 2, 3, 4, 11, 12]), (6, [0, 1, 2, 3, 4, 56]), (7, [10]), (8, [0, 1, 2, 3, 4, 13, 14]), (9, [0, 1, 2, 3, 4, 71]), (10, [10]), (11, [0, 1, 2, 3, 4, 15, 16]), (12, [1, 2, 4, 15, 16, 17, 18]), (13, [15, 16, 18, 19, 20]), (14, [10])]
theorem ac5 {T : Tab} (hT : TabOk Go.Proofs.Try.prog T) {ds : List D} {os : List (Nat × Ob)} {nx : Nat} {Q : D → List (Nat × Ob) → Nat → Prop} (hl : ds.length ≤ 113) (h : awp Go.Proofs.Try.prog T 113 nx lv5 (Go.Proofs.Try.f5.body.getD .skip) (fin Go.Proofs.Try.prog [.tmp 10] Q) ⟨prm 0 ds, os, nx⟩) : ACall Go.Proofs.Try.prog 5 ds os nx Q :=
  acall_intro hT.toS (fn := Go.Proofs.Try.f5) lv5 (by kernel_rfl) rfl rfl (by kernel_rfl) rfl hl rfl h
/-- damson/damsonlaw15.SpendRoots -/
abbrev lv6 : Nat → Option (List Nat) := lvL [(0, [0, 1, 2, 3, 4, 5, 6]), (1, [0, 1, 2, 3, 4, 5, 6, 26]), (2, [14]), (3, [0, 1, 2, 3, 4, 5, 6, 41]), (4, [14]), (5, [0, 1, 2, 3, 4, 5, 6, 15, 16]), (6, [1, 2, 3, 4, 5, 6, 15, 16, 17, 18]), (7, [1, 2, 3, 4, 5, 6, 15, 17, 63]), (8, [14]), (9, [1, 2, 3, 4, 5, 6, 15, 17, 19, 20]), (10, [1, 3, 5, 17, 19, 20, 21, 22]), (11, [19, 20, 21, 22, 23, 24]), (12, [14])]
theorem ac6 {T : Tab} (hT : TabOk Go.Proofs.Try.prog T) {ds : List D} {os : List (Nat × Ob)} {nx : Nat} {Q : D → List (Nat × Ob) → Nat → Prop} (hl : ds.length ≤ 111) (h : awp Go.Proofs.Try.prog T 111 nx lv6 (Go.Proofs.Try.f6.body.getD .skip) (fin Go.Proofs.Try.prog [.tmp 14] Q) ⟨prm 0 ds, os, nx⟩) : ACall Go.Proofs.Try.prog 6 ds os nx Q :=
  acall_intro hT.toS (fn := Go.Proofs.Try.f6) lv6 (by kernel_rfl) rfl rfl (by kernel_rfl) rfl hl rfl h
/-- damson/damsonlaw15.SpendDoes -/
abbrev lv7 : Nat → Option (List Nat) := lvL [(0, [0, 1, 2, 3, 4, 5]), (1, [0, 1, 2, 3, 4, 5, 29]), (2, [12]), (3, [0, 1, 2, 3, 4, 5, 38]), (4, [12]), (5, [0, 1, 2, 3, 4, 5, 13]), (6, [0, 1, 2, 3, 4, 5, 13, 14, 15]), (7, [0, 1, 2, 4, 5, 13, 14, 15, 16, 17]), (8, [0, 1, 2, 4, 5, 13, 14, 15, 16, 17, 18, 19]), (9, [0, 1, 2, 4, 5, 13, 14, 15, 16, 17, 18, 19, 20, 21]), (10, [0, 1, 2, 4, 5, 13, 14, 15, 16, 17, 18, 19, 20, 21, 22, 23]), (11, [0, 1, 13, 14, 15, 16, 17, 18, 19, 20, 21, 22, 23, 24, 25]), (12, [0, 13, 22, 26]), (13, [0, 13, 22, 26, 132, 133]), (14, [0, 13, 22, 26, 132, 133, 134]), (15, [0, 13, 22, 26, 27, 132, 133]), (16, [0, 13, 22, 26, 132, 133]), (17, [0, 13, 22, 26, 132, 133]), (18, [12])]
theorem ac7 {T : Tab} (hT : TabOk Go.Proofs.Try.prog T) {ds : List D} {os : List (Nat × Ob)} {nx : Nat} {Q : D → List (Nat × Ob) → Nat → Prop} (hl : ds.length ≤ 151) (h : awp Go.Proofs.Try.prog T 151 nx lv7 (Go.Proofs.Try.f7.body.getD .skip) (fin Go.Proofs.Try.prog [.tmp 12] Q) ⟨prm 0 ds, os, nx⟩) : ACall Go.Proofs.Try.prog 7 ds os nx Q :=
  acall_intro hT.toS (fn := Go.Proofs.Try.f7) lv7 (by kernel_rfl) rfl rfl (by kernel_rfl) rfl hl rfl h
/-- damson/damsonlaw15.live -/
abbrev lv8 : Nat → Option (List Nat) := lvL [(0, []), (1, [1]), (2, [1, 2, 3]), (3, [1, 2, 3, 4, 5]), (4, [3, 4, 5, 6, 7]), (5, [0])]
theorem ac8 {T : Tab} (hT : TabOk Go.Proofs.Try.prog T) {ds : List D} {os : List (Nat × Ob)} {nx : Nat} {Q : D → List (Nat × Ob) → Nat → Prop} (hl : ds.length ≤ 44) (h : awp Go.Proofs.Try.prog T 44 nx lv8 (Go.Proofs.Try.f8.body.getD .skip) (fin Go.Proofs.Try.prog [.tmp 0] Q) ⟨prm 0 ds, os, nx⟩) : ACall Go.Proofs.Try.prog 8 ds os nx Q :=
  acall_intro hT.toS (fn := Go.Proofs.Try.f8) lv8 (by kernel_rfl) rfl rfl (by kernel_rfl) rfl hl rfl h
/-- damson/spend.Add -/
abbrev lv9 : Nat → Option (List Nat) := lvL [(0, [0, 1, 2, 3]), (1, [0, 1, 3, 10, 11]), (2, [0, 1, 3, 10, 11, 26]), (3, [8, 9]), (4, [0, 1, 3, 10]), (5, [0, 1, 10, 31]), (6, [8, 9]), (7, [0, 1, 34]), (8, [0, 1, 34, 36]), (9, [0, 1, 12, 13, 34]), (10, [0, 1, 12, 13, 15, 16, 34]), (11, [0, 1, 12, 13, 15, 34, 49]), (12, [0, 1, 13, 15, 34]), (13, [0, 1, 34]), (14, [0, 64]), (15, [8, 9]), (16, [8, 9])]
theorem ac9 {T : Tab} (hT : TabOk Go.Proofs.Try.prog T) {ds : List D} {os : List (Nat × Ob)} {nx : Nat} {Q : D → List (Nat × Ob) → Nat → Prop} (hl : ds.length ≤ 66) (h : awp Go.Proofs.Try.prog T 66 nx lv9 (Go.Proofs.Try.f9.body.getD .skip) (fin Go.Proofs.Try.prog [.tmp 8, .tmp 9] Q) ⟨prm 0 ds, os, nx⟩) : ACall Go.Proofs.Try.prog 9 ds os nx Q :=
  acall_intro hT.toS (fn := Go.Proofs.Try.f9) lv9 (by kernel_rfl) rfl rfl (by kernel_rfl) rfl hl rfl h
/-- damson/spend.Spent -/
abbrev lv10 : Nat → Option (List Nat) := lvL [(0, [0, 1, 2]), (1, [0, 1, 2, 8]), (2, [0, 1, 2, 8, 15]), (3, [6, 7]), (4, [9]), (5, [6, 7])]
theorem ac10 {T : Tab} (hT : TabOk Go.Proofs.Try.prog T) {ds : List D} {os : List (Nat × Ob)} {nx : Nat} {Q : D → List (Nat × Ob) → Nat → Prop} (hl : ds.length ≤ 26) (h : awp Go.Proofs.Try.prog T 26 nx lv10 (Go.Proofs.Try.f10.body.getD .skip) (fin Go.Proofs.Try.prog [.tmp 6, .tmp 7] Q) ⟨prm 0 ds, os, nx⟩) : ACall Go.Proofs.Try.prog 10 ds os nx Q :=
  acall_intro hT.toS (fn := Go.Proofs.Try.f10) lv10 (by kernel_rfl) rfl rfl (by kernel_rfl) rfl hl rfl h
/-- damson/spend.Check -/
abbrev lv11 : Nat → Option (List Nat) := lvL [(0, [0]), (1, [0, 7]), (2, [2]), (3, [0, 8, 9, 10]), (4, [0, 8, 9, 10, 11]), (5, [0, 3, 4, 8, 9, 10]), (6, [0, 8, 9, 10, 38]), (7, [2]), (8, [0, 8, 9, 10]), (9, [2])]
@[go_sem] def us11_6 : List Nat := [0, 1, 3, 7, 15, 31, 63, 127, 255, 511, 1023, 2047, 4095, 8191, 16383, 16383, 49151, 131071, 262143, 16383, 1048575, 2097151, 4194303, 8388607]
theorem ac11 {T : Tab} (hT : TabOk Go.Proofs.Try.prog T) {ds : List D} {os : List (Nat × Ob)} {nx : Nat} {Q : D → List (Nat × Ob) → Nat → Prop} (hl : ds.length ≤ 40) (h : awp Go.Proofs.Try.prog T 40 nx lv11 (Go.Proofs.Try.f11.body.getD .skip) (fin Go.Proofs.Try.prog [.tmp 2] Q) ⟨prm 0 ds, os, nx⟩) : ACall Go.Proofs.Try.prog 11 ds os nx Q :=
  acall_intro hT.toS (fn := Go.Proofs.Try.f11) lv11 (by kernel_rfl) rfl rfl (by kernel_rfl) rfl hl rfl h
/-- damson/damsonlaw15.few -/
abbrev lv12 : Nat → Option (List Nat) := lvL [(0, [0, 1]), (1, [4])]
theorem ac12 {T : Tab} (hT : TabOk Go.Proofs.Try.prog T) {ds : List D} {os : List (Nat × Ob)} {nx : Nat} {Q : D → List (Nat × Ob) → Nat → Prop} (hl : ds.length ≤ 23) (h : awp Go.Proofs.Try.prog T 23 nx lv12 (Go.Proofs.Try.f12.body.getD .skip) (fin Go.Proofs.Try.prog [.tmp 4] Q) ⟨prm 0 ds, os, nx⟩) : ACall Go.Proofs.Try.prog 12 ds os nx Q :=
  acall_intro hT.toS (fn := Go.Proofs.Try.f12) lv12 (by kernel_rfl) rfl rfl (by kernel_rfl) rfl hl rfl h
/-- damson/spend.May -/
abbrev lv13 : Nat → Option (List Nat) := lvL [(0, [0, 1, 2, 3]), (1, [11]), (2, [11, 21]), (3, [8, 9]), (4, [8, 9])]
theorem ac13 {T : Tab} (hT : TabOk Go.Proofs.Try.prog T) {ds : List D} {os : List (Nat × Ob)} {nx : Nat} {Q : D → List (Nat × Ob) → Nat → Prop} (hl : ds.length ≤ 25) (h : awp Go.Proofs.Try.prog T 25 nx lv13 (Go.Proofs.Try.f13.body.getD .skip) (fin Go.Proofs.Try.prog [.tmp 8, .tmp 9] Q) ⟨prm 0 ds, os, nx⟩) : ACall Go.Proofs.Try.prog 13 ds os nx Q :=
  acall_intro hT.toS (fn := Go.Proofs.Try.f13) lv13 (by kernel_rfl) rfl rfl (by kernel_rfl) rfl hl rfl h
/-- damson/caveat.Caps -/
abbrev lv14 : Nat → Option (List Nat) := lvL [(0, [0]), (1, [0, 12]), (2, [2, 3]), (3, [0, 4]), (4, [4, 14, 15, 16]), (5, [4, 14, 15, 16, 17]), (6, [4, 6, 14, 15, 16]), (7, [4, 6, 7, 14, 15, 16]), (8, [4, 6, 7, 14, 15, 16, 23]), (9, [2, 3]), (10, [4, 6, 14, 15, 16, 27]), (11, [4, 6, 8, 9, 14, 15, 16]), (12, [4, 6, 14, 15, 16, 42]), (13, [4, 14, 15, 16]), (14, [4, 14, 15, 16]), (15, [2, 3])]
theorem ac14 {T : Tab} (hT : TabOk Go.Proofs.Try.prog T) {ds : List D} {os : List (Nat × Ob)} {nx : Nat} {Q : D → List (Nat × Ob) → Nat → Prop} (hl : ds.length ≤ 50) (h : awp Go.Proofs.Try.prog T 50 nx lv14 (Go.Proofs.Try.f14.body.getD .skip) (fin Go.Proofs.Try.prog [.tmp 2, .tmp 3] Q) ⟨prm 0 ds, os, nx⟩) : ACall Go.Proofs.Try.prog 14 ds os nx Q :=
  acall_intro hT.toS (fn := Go.Proofs.Try.f14) lv14 (by kernel_rfl) rfl rfl (by kernel_rfl) rfl hl rfl h
/-- damson/spend.Same -/
abbrev lv15 : Nat → Option (List Nat) := lvL [(0, [0, 1]), (1, [4])]
theorem ac15 {T : Tab} (hT : TabOk Go.Proofs.Try.prog T) {ds : List D} {os : List (Nat × Ob)} {nx : Nat} {Q : D → List (Nat × Ob) → Nat → Prop} (hl : ds.length ≤ 8) (h : awp Go.Proofs.Try.prog T 8 nx lv15 (Go.Proofs.Try.f15.body.getD .skip) (fin Go.Proofs.Try.prog [.tmp 4] Q) ⟨prm 0 ds, os, nx⟩) : ACall Go.Proofs.Try.prog 15 ds os nx Q :=
  acall_intro hT.toS (fn := Go.Proofs.Try.f15) lv15 (by kernel_rfl) rfl rfl (by kernel_rfl) rfl hl rfl h
/-- damson/damsonref15.Spent -/
abbrev lv16 : Nat → Option (List Nat) := lvL [(0, [0, 1, 2]), (1, [0, 1, 2, 12]), (2, [6, 7]), (3, [1, 2, 13, 14, 15]), (4, [1, 2, 13, 14, 15, 16]), (5, [1, 2, 9, 13, 14, 15]), (6, [1, 2, 9, 13, 14, 15, 28]), (7, [6, 7]), (8, [1, 2, 13, 14, 15]), (9, [6, 7])]
theorem ac16 {T : Tab} (hT : TabOk Go.Proofs.Try.prog T) {ds : List D} {os : List (Nat × Ob)} {nx : Nat} {Q : D → List (Nat × Ob) → Nat → Prop} (hl : ds.length ≤ 32) (h : awp Go.Proofs.Try.prog T 32 nx lv16 (Go.Proofs.Try.f16.body.getD .skip) (fin Go.Proofs.Try.prog [.tmp 6, .tmp 7] Q) ⟨prm 0 ds, os, nx⟩) : ACall Go.Proofs.Try.prog 16 ds os nx Q :=
  acall_intro hT.toS (fn := Go.Proofs.Try.f16) lv16 (by kernel_rfl) rfl rfl (by kernel_rfl) rfl hl rfl h
/-- damson/damsonref15.May -/
abbrev lv17 : Nat → Option (List Nat) := lvL [(0, [0, 1, 2, 3]), (1, [0, 1, 2, 3, 27]), (2, [8, 9]), (3, [0, 1, 3, 28, 29, 30]), (4, [0, 1, 3, 28, 29, 30, 31]), (5, [0, 1, 3, 11, 28, 29, 30]), (6, [0, 1, 3, 11, 28, 29, 30, 36]), (7, [0, 1, 3, 11, 12, 28, 29, 30]), (8, [0, 1, 3, 28, 29, 30, 56]), (9, [8, 9]), (10, [0, 1, 3, 28, 29, 30]), (11, [8, 9])]
theorem ac17 {T : Tab} (hT : TabOk Go.Proofs.Try.prog T) {ds : List D} {os : List (Nat × Ob)} {nx : Nat} {Q : D → List (Nat × Ob) → Nat → Prop} (hl : ds.length ≤ 58) (h : awp Go.Proofs.Try.prog T 58 nx lv17 (Go.Proofs.Try.f17.body.getD .skip) (fin Go.Proofs.Try.prog [.tmp 8, .tmp 9] Q) ⟨prm 0 ds, os, nx⟩) : ACall Go.Proofs.Try.prog 17 ds os nx Q :=
  acall_intro hT.toS (fn := Go.Proofs.Try.f17) lv17 (by kernel_rfl) rfl rfl (by kernel_rfl) rfl hl rfl h
/-- damson/damsonref15.Add -/
abbrev lv18 : Nat → Option (List Nat) := lvL [(0, [0, 1, 2, 3]), (1, [0, 1, 2, 3, 10, 11]), (2, [0, 1, 2, 3, 10, 11, 26]), (3, [8, 9]), (4, [0, 1, 2, 3, 29]), (5, [8, 9]), (6, [0, 1, 2, 3, 12]), (7, [0, 1, 2, 3, 12, 32, 33, 34]), (8, [0, 1, 2, 3, 12, 32, 33, 34, 35]), (9, [0, 1, 2, 3, 12, 13, 14, 32, 33, 34]), (10, [0, 1, 2, 3, 12, 14, 32, 33, 34, 50]), (11, [0, 1, 2, 3, 12, 14, 15, 32, 33, 34]), (12, [0, 1, 2, 3, 12, 32, 33, 34]), (13, [0, 1, 2, 3, 12, 32, 33, 34]), (14, [12, 71]), (15, [8, 9]), (16, [8, 9])]
theorem ac18 {T : Tab} (hT : TabOk Go.Proofs.Try.prog T) {ds : List D} {os : List (Nat × Ob)} {nx : Nat} {Q : D → List (Nat × Ob) → Nat → Prop} (hl : ds.length ≤ 73) (h : awp Go.Proofs.Try.prog T 73 nx lv18 (Go.Proofs.Try.f18.body.getD .skip) (fin Go.Proofs.Try.prog [.tmp 8, .tmp 9] Q) ⟨prm 0 ds, os, nx⟩) : ACall Go.Proofs.Try.prog 18 ds os nx Q :=
  acall_intro hT.toS (fn := Go.Proofs.Try.f18) lv18 (by kernel_rfl) rfl rfl (by kernel_rfl) rfl hl rfl h
/-- damson/damsonref15.Same -/
abbrev lv19 : Nat → Option (List Nat) := lvL [(0, [0, 1]), (1, [0, 1, 10]), (2, [4]), (3, [0, 1, 12, 13]), (4, [0, 1, 12, 13, 14]), (5, [0, 1, 5, 12, 13]), (6, [0, 1, 12, 13, 24]), (7, [4]), (8, [0, 1, 12, 13]), (9, [4])]
@[go_sem] def us19_6 : List Nat := [0, 0, 3, 7, 0, 0, 48, 112, 255]
theorem ac19 {T : Tab} (hT : TabOk Go.Proofs.Try.prog T) {ds : List D} {os : List (Nat × Ob)} {nx : Nat} {Q : D → List (Nat × Ob) → Nat → Prop} (hl : ds.length ≤ 26) (h : awp Go.Proofs.Try.prog T 26 nx lv19 (Go.Proofs.Try.f19.body.getD .skip) (fin Go.Proofs.Try.prog [.tmp 4] Q) ⟨prm 0 ds, os, nx⟩) : ACall Go.Proofs.Try.prog 19 ds os nx Q :=
  acall_intro hT.toS (fn := Go.Proofs.Try.f19) lv19 (by kernel_rfl) rfl rfl (by kernel_rfl) rfl hl rfl h
/-- damson/damsonref15.Check -/
abbrev lv20 : Nat → Option (List Nat) := lvL [(0, [0]), (1, [0, 7]), (2, [2]), (3, [0, 8, 9, 10]), (4, [0, 8, 9, 10, 11]), (5, [0, 3, 4, 8, 9, 10]), (6, [0, 8, 9, 10, 38]), (7, [2]), (8, [0, 8, 9, 10]), (9, [2])]
@[go_sem] def us20_6 : List Nat := [0, 1, 3, 7, 7, 23, 63, 127, 7, 511, 1023, 2047, 4095, 8191, 16383, 32767, 65535, 131071, 262143, 524287, 1048575, 2097151, 4194303, 8388607]
theorem ac20 {T : Tab} (hT : TabOk Go.Proofs.Try.prog T) {ds : List D} {os : List (Nat × Ob)} {nx : Nat} {Q : D → List (Nat × Ob) → Nat → Prop} (hl : ds.length ≤ 40) (h : awp Go.Proofs.Try.prog T 40 nx lv20 (Go.Proofs.Try.f20.body.getD .skip) (fin Go.Proofs.Try.prog [.tmp 2] Q) ⟨prm 0 ds, os, nx⟩) : ACall Go.Proofs.Try.prog 20 ds os nx Q :=
  acall_intro hT.toS (fn := Go.Proofs.Try.f20) lv20 (by kernel_rfl) rfl rfl (by kernel_rfl) rfl hl rfl h
/-- damson/spend.sums -/
abbrev lv21 : Nat → Option (List Nat) := lvL [(0, [0, 1, 2, 3]), (1, [0, 1, 3, 10, 11]), (2, [0, 1, 3, 10, 37]), (3, [8, 9]), (4, [0, 1, 3, 10, 12]), (5, [0, 1, 3, 12, 40]), (6, [0, 1, 3, 12, 40, 42]), (7, [0, 1, 3, 12, 13, 14, 40]), (8, [0, 1, 3, 12, 13, 14, 15, 40]), (9, [0, 1, 3, 12, 13, 14, 18, 19, 40]), (10, [0, 1, 3, 12, 13, 18, 40, 67]), (11, [8, 9]), (12, [0, 1, 3, 12, 40]), (13, [8, 9])]
theorem ac21 {T : Tab} (hT : TabOk Go.Proofs.Try.prog T) {ds : List D} {os : List (Nat × Ob)} {nx : Nat} {Q : D → List (Nat × Ob) → Nat → Prop} (hl : ds.length ≤ 72) (h : awp Go.Proofs.Try.prog T 72 nx lv21 (Go.Proofs.Try.f21.body.getD .skip) (fin Go.Proofs.Try.prog [.tmp 8, .tmp 9] Q) ⟨prm 0 ds, os, nx⟩) : ACall Go.Proofs.Try.prog 21 ds os nx Q :=
  acall_intro hT.toS (fn := Go.Proofs.Try.f21) lv21 (by kernel_rfl) rfl rfl (by kernel_rfl) rfl hl rfl h
/-- slices.Clone[[]damson/api.Count,damson/api.Count] -/
abbrev lv22 : Nat → Option (List Nat) := lvL [(0, [0]), (1, [0, 4]), (2, [2]), (3, [2])]
theorem ac22 {T : Tab} (hT : TabOk Go.Proofs.Try.prog T) {ds : List D} {os : List (Nat × Ob)} {nx : Nat} {Q : D → List (Nat × Ob) → Nat → Prop} (hl : ds.length ≤ 8) (h : awp Go.Proofs.Try.prog T 8 nx lv22 (Go.Proofs.Try.f22.body.getD .skip) (fin Go.Proofs.Try.prog [.tmp 2] Q) ⟨prm 0 ds, os, nx⟩) : ACall Go.Proofs.Try.prog 22 ds os nx Q :=
  acall_intro hT.toS (fn := Go.Proofs.Try.f22) lv22 (by kernel_rfl) rfl rfl (by kernel_rfl) rfl hl rfl h
/-- damson/spend.spent -/
abbrev lv23 : Nat → Option (List Nat) := lvL [(0, [0, 1, 2]), (1, [0, 9, 10]), (2, [0, 9, 20]), (3, [6, 7, 8]), (4, [6, 7, 8])]
theorem ac23 {T : Tab} (hT : TabOk Go.Proofs.Try.prog T) {ds : List D} {os : List (Nat × Ob)} {nx : Nat} {Q : D → List (Nat × Ob) → Nat → Prop} (hl : ds.length ≤ 28) (h : awp Go.Proofs.Try.prog T 28 nx lv23 (Go.Proofs.Try.f23.body.getD .skip) (fin Go.Proofs.Try.prog [.tmp 6, .tmp 7, .tmp 8] Q) ⟨prm 0 ds, os, nx⟩) : ACall Go.Proofs.Try.prog 23 ds os nx Q :=
  acall_intro hT.toS (fn := Go.Proofs.Try.f23) lv23 (by kernel_rfl) rfl rfl (by kernel_rfl) rfl hl rfl h
/-- slices.Insert[[]damson/api.Count,damson/api.Count] -/
abbrev lv24 : Nat → Option (List Nat) := lvL [(0, [0, 1, 2]), (1, [0, 1, 2]), (2, [0, 1, 2, 7]), (3, [0, 1, 2, 7, 16]), (4, [6]), (5, [0, 1, 2, 7, 8]), (6, [0, 1, 2, 7, 8, 22]), (7, [6]), (8, [0, 1, 2, 7, 8, 31]), (9, [0, 1, 2, 7, 9]), (10, [0, 1, 7, 9]), (11, [9]), (12, [6]), (13, [0, 1, 2, 7, 8]), (14, [0, 1, 2, 7, 8, 68]), (15, [0, 1, 2]), (16, [0]), (17, [6]), (18, [0, 1, 7]), (19, [0]), (20, [6])]
@[go_sem] def us24_11 : List Nat := [0, 0, 0, 6, 15, 0, 0, 96, 255]
@[go_sem] def us24_15 : List Nat := [0, 0, 0, 6, 15, 0, 0, 96, 255]
theorem ac24 {T : Tab} (hT : TabOk Go.Proofs.Try.prog T) {ds : List D} {os : List (Nat × Ob)} {nx : Nat} {Q : D → List (Nat × Ob) → Nat → Prop} (hl : ds.length ≤ 95) (h : awp Go.Proofs.Try.prog T 95 nx lv24 (Go.Proofs.Try.f24.body.getD .skip) (fin Go.Proofs.Try.prog [.tmp 6] Q) ⟨prm 0 ds, os, nx⟩) : ACall Go.Proofs.Try.prog 24 ds os nx Q :=
  acall_intro hT.toS (fn := Go.Proofs.Try.f24) lv24 (by kernel_rfl) rfl rfl (by kernel_rfl) rfl hl rfl h
/-- damson/money.Check -/
abbrev lv25 : Nat → Option (List Nat) := lvL [(0, [0]), (1, [10]), (2, [2]), (3, [2])]
theorem ac25 {T : Tab} (hT : TabOk Go.Proofs.Try.prog T) {ds : List D} {os : List (Nat × Ob)} {nx : Nat} {Q : D → List (Nat × Ob) → Nat → Prop} (hl : ds.length ≤ 11) (h : awp Go.Proofs.Try.prog T 11 nx lv25 (Go.Proofs.Try.f25.body.getD .skip) (fin Go.Proofs.Try.prog [.tmp 2] Q) ⟨prm 0 ds, os, nx⟩) : ACall Go.Proofs.Try.prog 25 ds os nx Q :=
  acall_intro hT.toS (fn := Go.Proofs.Try.f25) lv25 (by kernel_rfl) rfl rfl (by kernel_rfl) rfl hl rfl h
/-- damson/spend.order -/
abbrev lv26 : Nat → Option (List Nat) := lvL [(0, [2, 3]), (1, [4])]
@[go_sem] def us26_1 : List Nat := [0, 1, 0, 4, 15, 0, 32, 0, 128, 511, 1023, 2047, 4095]
theorem ac26 {T : Tab} (hT : TabOk Go.Proofs.Try.prog T) {ds : List D} {os : List (Nat × Ob)} {nx : Nat} {Q : D → List (Nat × Ob) → Nat → Prop} (hl : ds.length ≤ 17) (h : awp Go.Proofs.Try.prog T 17 nx lv26 (Go.Proofs.Try.f26.body.getD .skip) (fin Go.Proofs.Try.prog [.tmp 4] Q) ⟨prm 0 ds, os, nx⟩) : ACall Go.Proofs.Try.prog 26 ds os nx Q :=
  acall_intro hT.toS (fn := Go.Proofs.Try.f26) lv26 (by kernel_rfl) rfl rfl (by kernel_rfl) rfl hl rfl h
/-- damson/caveat.Check -/
abbrev lv27 : Nat → Option (List Nat) := lvL [(0, [1]), (1, [1, 4]), (2, [2]), (3, [1, 4, 5]), (4, [2]), (5, [1, 4, 11]), (6, [1, 17]), (7, [2]), (8, [1, 4, 18]), (9, [1, 23]), (10, [2]), (11, [1, 4, 24]), (12, [1, 24]), (13, [29]), (14, [2]), (15, [2])]
theorem ac27 {T : Tab} (hT : TabOk Go.Proofs.Try.prog T) {ds : List D} {os : List (Nat × Ob)} {nx : Nat} {Q : D → List (Nat × Ob) → Nat → Prop} (hl : ds.length ≤ 30) (h : awp Go.Proofs.Try.prog T 30 nx lv27 (Go.Proofs.Try.f27.body.getD .skip) (fin Go.Proofs.Try.prog [.tmp 2] Q) ⟨prm 0 ds, os, nx⟩) : ACall Go.Proofs.Try.prog 27 ds os nx Q :=
  acall_intro hT.toS (fn := Go.Proofs.Try.f27) lv27 (by kernel_rfl) rfl rfl (by kernel_rfl) rfl hl rfl h
/-- slices.Equal[[]damson/api.Count,damson/api.Count] -/
abbrev lv28 : Nat → Option (List Nat) := lvL [(0, [0, 1]), (1, [0, 1, 10]), (2, [4]), (3, [0, 1, 12, 13]), (4, [0, 1, 12, 13, 14]), (5, [0, 1, 5, 12, 13]), (6, [0, 1, 12, 13, 24]), (7, [4]), (8, [0, 1, 12, 13]), (9, [4])]
@[go_sem] def us28_6 : List Nat := [0, 0, 3, 7, 0, 0, 48, 112, 255]
theorem ac28 {T : Tab} (hT : TabOk Go.Proofs.Try.prog T) {ds : List D} {os : List (Nat × Ob)} {nx : Nat} {Q : D → List (Nat × Ob) → Nat → Prop} (hl : ds.length ≤ 26) (h : awp Go.Proofs.Try.prog T 26 nx lv28 (Go.Proofs.Try.f28.body.getD .skip) (fin Go.Proofs.Try.prog [.tmp 4] Q) ⟨prm 0 ds, os, nx⟩) : ACall Go.Proofs.Try.prog 28 ds os nx Q :=
  acall_intro hT.toS (fn := Go.Proofs.Try.f28) lv28 (by kernel_rfl) rfl rfl (by kernel_rfl) rfl hl rfl h
/-- damson/damsonref06.Few -/
abbrev lv29 : Nat → Option (List Nat) := lvL [(0, [0]), (1, [0, 5, 6, 7]), (2, [0, 5, 6, 7, 8]), (3, [0, 4, 5, 6, 7]), (4, [0, 5, 6, 7, 13]), (5, [2]), (6, [0, 5, 6, 7]), (7, [2])]
theorem ac29 {T : Tab} (hT : TabOk Go.Proofs.Try.prog T) {ds : List D} {os : List (Nat × Ob)} {nx : Nat} {Q : D → List (Nat × Ob) → Nat → Prop} (hl : ds.length ≤ 18) (h : awp Go.Proofs.Try.prog T 18 nx lv29 (Go.Proofs.Try.f29.body.getD .skip) (fin Go.Proofs.Try.prog [.tmp 2] Q) ⟨prm 0 ds, os, nx⟩) : ACall Go.Proofs.Try.prog 29 ds os nx Q :=
  acall_intro hT.toS (fn := Go.Proofs.Try.f29) lv29 (by kernel_rfl) rfl rfl (by kernel_rfl) rfl hl rfl h
/-- damson/damsonref04.Check -/
abbrev lv30 : Nat → Option (List Nat) := lvL [(0, [0]), (1, [5, 6, 7]), (2, [5, 6, 7, 8]), (3, [4, 5, 6, 7]), (4, [5, 6, 7, 12]), (5, [2]), (6, [5, 6, 7]), (7, [2])]
theorem ac30 {T : Tab} (hT : TabOk Go.Proofs.Try.prog T) {ds : List D} {os : List (Nat × Ob)} {nx : Nat} {Q : D → List (Nat × Ob) → Nat → Prop} (hl : ds.length ≤ 14) (h : awp Go.Proofs.Try.prog T 14 nx lv30 (Go.Proofs.Try.f30.body.getD .skip) (fin Go.Proofs.Try.prog [.tmp 2] Q) ⟨prm 0 ds, os, nx⟩) : ACall Go.Proofs.Try.prog 30 ds os nx Q :=
  acall_intro hT.toS (fn := Go.Proofs.Try.f30) lv30 (by kernel_rfl) rfl rfl (by kernel_rfl) rfl hl rfl h
/-- damson/damsonref15.ahead -/
abbrev lv31 : Nat → Option (List Nat) := lvL [(0, [0, 1]), (1, [0, 1, 9, 10, 11]), (2, [0, 1, 9, 10, 11, 12]), (3, [0, 1, 6, 9, 10, 11]), (4, [0, 1, 9, 10, 11, 27]), (5, [4]), (6, [0, 1, 9, 10, 11]), (7, [4])]
@[go_sem] def us31_4 : List Nat := [0, 1, 3, 7, 15, 31, 15, 15, 207, 463, 975, 2047, 4095]
theorem ac31 {T : Tab} (hT : TabOk Go.Proofs.Try.prog T) {ds : List D} {os : List (Nat × Ob)} {nx : Nat} {Q : D → List (Nat × Ob) → Nat → Prop} (hl : ds.length ≤ 29) (h : awp Go.Proofs.Try.prog T 29 nx lv31 (Go.Proofs.Try.f31.body.getD .skip) (fin Go.Proofs.Try.prog [.tmp 4] Q) ⟨prm 0 ds, os, nx⟩) : ACall Go.Proofs.Try.prog 31 ds os nx Q :=
  acall_intro hT.toS (fn := Go.Proofs.Try.f31) lv31 (by kernel_rfl) rfl rfl (by kernel_rfl) rfl hl rfl h
/-- damson/damsonref15.with -/
abbrev lv32 : Nat → Option (List Nat) := lvL [(0, [0, 3]), (1, [0, 3, 5]), (2, [0, 3, 5, 10, 11, 12]), (3, [0, 3, 5, 10, 11, 12, 13]), (4, [0, 3, 5, 7, 10, 11, 12]), (5, [0, 3, 5, 7, 10, 11, 12, 18]), (6, [0, 3, 5, 10, 11, 12]), (7, [0, 3, 5, 10, 11, 12]), (8, [0, 3, 5]), (9, [3, 5, 28, 29, 30]), (10, [3, 5, 28, 29, 30, 31]), (11, [3, 5, 9, 28, 29, 30]), (12, [3, 5, 9, 28, 29, 30, 36]), (13, [3, 5, 28, 29, 30]), (14, [3, 5, 28, 29, 30]), (15, [4])]
theorem ac32 {T : Tab} (hT : TabOk Go.Proofs.Try.prog T) {ds : List D} {os : List (Nat × Ob)} {nx : Nat} {Q : D → List (Nat × Ob) → Nat → Prop} (hl : ds.length ≤ 43) (h : awp Go.Proofs.Try.prog T 43 nx lv32 (Go.Proofs.Try.f32.body.getD .skip) (fin Go.Proofs.Try.prog [.tmp 4] Q) ⟨prm 0 ds, os, nx⟩) : ACall Go.Proofs.Try.prog 32 ds os nx Q :=
  acall_intro hT.toS (fn := Go.Proofs.Try.f32) lv32 (by kernel_rfl) rfl rfl (by kernel_rfl) rfl hl rfl h
/-- damson/damsonref15.less -/
abbrev lv33 : Nat → Option (List Nat) := lvL [(0, [2, 3]), (1, [4])]
theorem ac33 {T : Tab} (hT : TabOk Go.Proofs.Try.prog T) {ds : List D} {os : List (Nat × Ob)} {nx : Nat} {Q : D → List (Nat × Ob) → Nat → Prop} (hl : ds.length ≤ 24) (h : awp Go.Proofs.Try.prog T 24 nx lv33 (Go.Proofs.Try.f33.body.getD .skip) (fin Go.Proofs.Try.prog [.tmp 4] Q) ⟨prm 0 ds, os, nx⟩) : ACall Go.Proofs.Try.prog 33 ds os nx Q :=
  acall_intro hT.toS (fn := Go.Proofs.Try.f33) lv33 (by kernel_rfl) rfl rfl (by kernel_rfl) rfl hl rfl h
/-- damson/money.Add -/
abbrev lv34 : Nat → Option (List Nat) := lvL [(0, [0, 2]), (1, [0, 2, 3]), (2, [0, 2, 3, 9]), (3, [2, 3]), (4, [2, 11, 12, 13]), (5, [2, 11, 12, 13, 14]), (6, [2, 5, 11, 12, 13]), (7, [2, 11, 12, 13]), (8, [2, 11, 12, 13, 21]), (9, [2, 3]), (10, [2, 11, 12, 13]), (11, [2, 3])]
theorem ac34 {T : Tab} (hT : TabOk Go.Proofs.Try.prog T) {ds : List D} {os : List (Nat × Ob)} {nx : Nat} {Q : D → List (Nat × Ob) → Nat → Prop} (hl : ds.length ≤ 24) (h : awp Go.Proofs.Try.prog T 24 nx lv34 (Go.Proofs.Try.f34.body.getD .skip) (fin Go.Proofs.Try.prog [.tmp 2, .tmp 3] Q) ⟨prm 0 ds, os, nx⟩) : ACall Go.Proofs.Try.prog 34 ds os nx Q :=
  acall_intro hT.toS (fn := Go.Proofs.Try.f34) lv34 (by kernel_rfl) rfl rfl (by kernel_rfl) rfl hl rfl h
/-- slices.BinarySearchFunc[[]damson/api.Count,damson/api.Count,damson/api.Count] -/
abbrev lv35 : Nat → Option (List Nat) := lvL [(0, [0, 2, 4]), (1, [0, 2, 4, 8]), (2, [0, 2, 4, 8, 9, 10]), (3, [0, 2, 4, 8, 9, 10, 17]), (4, [0, 2, 4, 8, 9, 10, 11]), (5, [0, 2, 4, 8, 9, 10, 11, 31]), (6, [0, 2, 4, 8, 9, 10]), (7, [0, 2, 4, 8, 9, 10]), (8, [6, 7])]
@[go_sem] def us35_5 : List Nat := [0, 0, 0, 6, 14, 0, 63, 127]
@[go_sem] def us35_8 : List Nat := [0, 0, 0, 6, 14, 30, 30, 30, 222, 478, 30, 2046, 4094, 8190, 4095, 32767]
theorem ac35 {T : Tab} (hT : TabOk Go.Proofs.Try.prog T) {ds : List D} {os : List (Nat × Ob)} {nx : Nat} {Q : D → List (Nat × Ob) → Nat → Prop} (hl : ds.length ≤ 49) (h : awp Go.Proofs.Try.prog T 49 nx lv35 (Go.Proofs.Try.f35.body.getD .skip) (fin Go.Proofs.Try.prog [.tmp 6, .tmp 7] Q) ⟨prm 0 ds, os, nx⟩) : ACall Go.Proofs.Try.prog 35 ds os nx Q :=
  acall_intro hT.toS (fn := Go.Proofs.Try.f35) lv35 (by kernel_rfl) rfl rfl (by kernel_rfl) rfl hl rfl h
/-- slices.rotateRight[damson/api.Count] -/
abbrev lv37 : Nat → Option (List Nat) := lvL [(0, [])]
theorem ac37 {T : Tab} (hT : TabOk Go.Proofs.Try.prog T) {ds : List D} {os : List (Nat × Ob)} {nx : Nat} {Q : D → List (Nat × Ob) → Nat → Prop} (hl : ds.length ≤ 10) (h : awp Go.Proofs.Try.prog T 10 nx lv37 (Go.Proofs.Try.f37.body.getD .skip) (fin Go.Proofs.Try.prog [] Q) ⟨prm 0 ds, os, nx⟩) : ACall Go.Proofs.Try.prog 37 ds os nx Q :=
  acall_intro hT.toS (fn := Go.Proofs.Try.f37) lv37 (by kernel_rfl) rfl rfl (by kernel_rfl) rfl hl rfl h
/-- slices.Max[[]uint64,uint64] -/
abbrev lv38 : Nat → Option (List Nat) := lvL [(0, [0]), (1, [0, 7]), (2, [0]), (3, [0, 3]), (4, [0, 3, 4]), (5, [0, 3, 4, 15]), (6, [0, 3, 4]), (7, [0, 3, 4]), (8, [2])]
theorem ac38 {T : Tab} (hT : TabOk Go.Proofs.Try.prog T) {ds : List D} {os : List (Nat × Ob)} {nx : Nat} {Q : D → List (Nat × Ob) → Nat → Prop} (hl : ds.length ≤ 25) (h : awp Go.Proofs.Try.prog T 25 nx lv38 (Go.Proofs.Try.f38.body.getD .skip) (fin Go.Proofs.Try.prog [.tmp 2] Q) ⟨prm 0 ds, os, nx⟩) : ACall Go.Proofs.Try.prog 38 ds os nx Q :=
  acall_intro hT.toS (fn := Go.Proofs.Try.f38) lv38 (by kernel_rfl) rfl rfl (by kernel_rfl) rfl hl rfl h
/-- cmp.Or[int] -/
abbrev lv39 : Nat → Option (List Nat) := lvL [(0, [0]), (1, [0, 3]), (2, [3, 6, 7, 8]), (3, [3, 6, 7, 8, 9]), (4, [3, 5, 6, 7, 8]), (5, [3, 5, 6, 7, 8, 14]), (6, [2]), (7, [3, 6, 7, 8]), (8, [2])]
theorem ac39 {T : Tab} (hT : TabOk Go.Proofs.Try.prog T) {ds : List D} {os : List (Nat × Ob)} {nx : Nat} {Q : D → List (Nat × Ob) → Nat → Prop} (hl : ds.length ≤ 18) (h : awp Go.Proofs.Try.prog T 18 nx lv39 (Go.Proofs.Try.f39.body.getD .skip) (fin Go.Proofs.Try.prog [.tmp 2] Q) ⟨prm 0 ds, os, nx⟩) : ACall Go.Proofs.Try.prog 39 ds os nx Q :=
  acall_intro hT.toS (fn := Go.Proofs.Try.f39) lv39 (by kernel_rfl) rfl rfl (by kernel_rfl) rfl hl rfl h
/-- cmp.Compare[uint64] -/
abbrev lv40 : Nat → Option (List Nat) := lvL [(0, [0, 1]), (1, [0, 1, 5]), (2, [0, 1, 5, 6]), (3, [0, 1, 6, 11]), (4, [12]), (5, [4]), (6, [4]), (7, [0, 1, 13]), (8, [4]), (9, [0, 1, 16]), (10, [4]), (11, [19]), (12, [4]), (13, [4])]
theorem ac40 {T : Tab} (hT : TabOk Go.Proofs.Try.prog T) {ds : List D} {os : List (Nat × Ob)} {nx : Nat} {Q : D → List (Nat × Ob) → Nat → Prop} (hl : ds.length ≤ 20) (h : awp Go.Proofs.Try.prog T 20 nx lv40 (Go.Proofs.Try.f40.body.getD .skip) (fin Go.Proofs.Try.prog [.tmp 4] Q) ⟨prm 0 ds, os, nx⟩) : ACall Go.Proofs.Try.prog 40 ds os nx Q :=
  acall_intro hT.toS (fn := Go.Proofs.Try.f40) lv40 (by kernel_rfl) rfl rfl (by kernel_rfl) rfl hl rfl h
/-- damson/damsonref06.Check -/
abbrev lv41 : Nat → Option (List Nat) := lvL [(0, [1]), (1, [45]), (2, [2]), (3, [2])]
theorem ac41 {T : Tab} (hT : TabOk Go.Proofs.Try.prog T) {ds : List D} {os : List (Nat × Ob)} {nx : Nat} {Q : D → List (Nat × Ob) → Nat → Prop} (hl : ds.length ≤ 46) (h : awp Go.Proofs.Try.prog T 46 nx lv41 (Go.Proofs.Try.f41.body.getD .skip) (fin Go.Proofs.Try.prog [.tmp 2] Q) ⟨prm 0 ds, os, nx⟩) : ACall Go.Proofs.Try.prog 41 ds os nx Q :=
  acall_intro hT.toS (fn := Go.Proofs.Try.f41) lv41 (by kernel_rfl) rfl rfl (by kernel_rfl) rfl hl rfl h
/-- slices.rotateLeft[damson/api.Count] -/
abbrev lv42 : Nat → Option (List Nat) := lvL [(0, [0, 1]), (1, [0]), (2, [])]
theorem ac42 {T : Tab} (hT : TabOk Go.Proofs.Try.prog T) {ds : List D} {os : List (Nat × Ob)} {nx : Nat} {Q : D → List (Nat × Ob) → Nat → Prop} (hl : ds.length ≤ 14) (h : awp Go.Proofs.Try.prog T 14 nx lv42 (Go.Proofs.Try.f42.body.getD .skip) (fin Go.Proofs.Try.prog [] Q) ⟨prm 0 ds, os, nx⟩) : ACall Go.Proofs.Try.prog 42 ds os nx Q :=
  acall_intro hT.toS (fn := Go.Proofs.Try.f42) lv42 (by kernel_rfl) rfl rfl (by kernel_rfl) rfl hl rfl h
/-- cmp.isNaN[uint64] -/
abbrev lv43 : Nat → Option (List Nat) := lvL [(0, [0]), (1, [2])]
theorem ac43 {T : Tab} (hT : TabOk Go.Proofs.Try.prog T) {ds : List D} {os : List (Nat × Ob)} {nx : Nat} {Q : D → List (Nat × Ob) → Nat → Prop} (hl : ds.length ≤ 6) (h : awp Go.Proofs.Try.prog T 6 nx lv43 (Go.Proofs.Try.f43.body.getD .skip) (fin Go.Proofs.Try.prog [.tmp 2] Q) ⟨prm 0 ds, os, nx⟩) : ACall Go.Proofs.Try.prog 43 ds os nx Q :=
  acall_intro hT.toS (fn := Go.Proofs.Try.f43) lv43 (by kernel_rfl) rfl rfl (by kernel_rfl) rfl hl rfl h
/-- slices.Reverse[[]damson/api.Count,damson/api.Count] -/
abbrev lv44 : Nat → Option (List Nat) := lvL [(0, [0, 2, 3]), (1, [0, 2, 3, 9]), (2, [0, 2, 3]), (3, [0, 2, 3])]
@[go_sem] def us44_3 : List Nat := [0, 0, 0, 0, 0, 0, 48, 112, 0, 0, 768, 1792, 4083, 8179, 16383, 32767]
theorem ac44 {T : Tab} (hT : TabOk Go.Proofs.Try.prog T) {ds : List D} {os : List (Nat × Ob)} {nx : Nat} {Q : D → List (Nat × Ob) → Nat → Prop} (hl : ds.length ≤ 28) (h : awp Go.Proofs.Try.prog T 28 nx lv44 (Go.Proofs.Try.f44.body.getD .skip) (fin Go.Proofs.Try.prog [] Q) ⟨prm 0 ds, os, nx⟩) : ACall Go.Proofs.Try.prog 44 ds os nx Q :=
  acall_intro hT.toS (fn := Go.Proofs.Try.f44) lv44 (by kernel_rfl) rfl rfl (by kernel_rfl) rfl hl rfl h
end Dm
namespace Dm
open Go Go.Proofs Go.IntWalk
theorem follows_mixed : Try.prog.follows .mixedOrders = true := by kernel_rfl
/-- api.Caveat -/
structure Cv where
  kind : Int
  a : Nat
  b : Nat
deriving DecidableEq, Inhabited
@[go_sem] def Cv.enc (e : Cv) : List C := [.int .i64 e.kind, .int .u64 (e.a : Int), .int .u64 (e.b : Int)]
def Cv.dec : List C → Cv
  | [.int .i64 z2, .int .u64 z3, .int .u64 z4] => (⟨z2, z3.toNat, z4.toNat⟩ : Cv)
  | _ => default
def cvs (l : List Cv) : List (List C) := l.map Cv.enc
def dcvs (l : List (List C)) : List Cv := l.map Cv.dec
@[simp, go_sem] theorem cvs_length (l : List Cv) : (cvs l).length = l.length := by simp [cvs]
@[go_sem] theorem cvs_get (l : List Cv) (i : Nat) : (cvs l).getD i [.int .i64 0, .int .u64 0, .int .u64 0] = (l.getD i default).enc := by
  simp only [cvs, List.getD_eq_getElem?_getD, List.getElem?_map]
  cases l[i]? <;> rfl
@[go_sem] theorem cvs_wide (l : List Cv) : Wide 3 (cvs l) = True := by
  simp [Wide, cvs, Cv.enc]
theorem Cv.dec_enc (e : Cv) : Cv.dec e.enc = e := by
  simp [Cv.enc, Cv.dec]
@[go_sem] theorem dcvs_cvs (l : List Cv) : dcvs (cvs l) = l := by
  simp only [dcvs, cvs, List.map_map]
  exact List.map_id'' (fun e => Cv.dec_enc e) l
@[go_sem] theorem cvs_app (a b : List Cv) : cvs a ++ cvs b = cvs (a ++ b) := by simp [cvs]
@[go_sem] theorem cvs_drop (l : List Cv) (k : Nat) : (cvs l).drop k = cvs (l.drop k) := by simp [cvs]
@[go_sem] theorem cvs_take (l : List Cv) (k : Nat) : (cvs l).take k = cvs (l.take k) := by simp [cvs]
@[go_sem] theorem cvs_one (z5 : Int) (z6 : Int) (z7 : Int) (hz6 : 0 ≤ z6) (hz7 : 0 ≤ z7) : [[C.int .i64 z5, C.int .u64 z6, C.int .u64 z7]] = cvs [⟨z5, z6.toNat, z7.toNat⟩] := by simp [cvs, Cv.enc, Int.toNat_of_nonneg hz6, Int.toNat_of_nonneg hz7]
@[go_sem] theorem cvs_set (l : List Cv) (i : Nat) (z5 : Int) (z6 : Int) (z7 : Int) (hz6 : 0 ≤ z6) (hz7 : 0 ≤ z7) : (cvs l).set i [C.int .i64 z5, C.int .u64 z6, C.int .u64 z7] = cvs (l.set i ⟨z5, z6.toNat, z7.toNat⟩) := by simp [cvs, List.map_set, Cv.enc, Int.toNat_of_nonneg hz6, Int.toNat_of_nonneg hz7]
@[go_sem] theorem cvs_cons (l : List Cv) (z5 : Int) (z6 : Int) (z7 : Int) (hz6 : 0 ≤ z6) (hz7 : 0 ≤ z7) : [C.int .i64 z5, C.int .u64 z6, C.int .u64 z7] :: cvs l = cvs (⟨z5, z6.toNat, z7.toNat⟩ :: l) := by simp [cvs, Cv.enc, Int.toNat_of_nonneg hz6, Int.toNat_of_nonneg hz7]
@[go_sem] theorem cvs_flat (l : List Cv) : flatE (cvs l) = True := eq_true fun x hx c hc => by
  obtain ⟨e, _, rfl⟩ := List.mem_map.1 hx
  simp only [Cv.enc, List.mem_cons, List.not_mem_nil, or_false] at hc
  rcases hc with rfl | rfl | rfl <;> rfl
@[go_sem] theorem Cv.eta {e : Cv} : (⟨e.kind, e.a, e.b⟩ : Cv) = e := rfl
/-- api.Count -/
structure Ct where
  root : Nat
  b : Nat
  n : Nat
deriving DecidableEq, Inhabited
@[go_sem] def Ct.enc (e : Ct) : List C := [.int .u64 (e.root : Int), .int .u64 (e.b : Int), .int .u64 (e.n : Int)]
def Ct.dec : List C → Ct
  | [.int .u64 z9, .int .u64 z10, .int .u64 z11] => (⟨z9.toNat, z10.toNat, z11.toNat⟩ : Ct)
  | _ => default
def cts (l : List Ct) : List (List C) := l.map Ct.enc
def dcts (l : List (List C)) : List Ct := l.map Ct.dec
@[simp, go_sem] theorem cts_length (l : List Ct) : (cts l).length = l.length := by simp [cts]
@[go_sem] theorem cts_get (l : List Ct) (i : Nat) : (cts l).getD i [.int .u64 0, .int .u64 0, .int .u64 0] = (l.getD i default).enc := by
  simp only [cts, List.getD_eq_getElem?_getD, List.getElem?_map]
  cases l[i]? <;> rfl
@[go_sem] theorem cts_wide (l : List Ct) : Wide 3 (cts l) = True := by
  simp [Wide, cts, Ct.enc]
theorem Ct.dec_enc (e : Ct) : Ct.dec e.enc = e := by
  simp [Ct.enc, Ct.dec]
@[go_sem] theorem dcts_cts (l : List Ct) : dcts (cts l) = l := by
  simp only [dcts, cts, List.map_map]
  exact List.map_id'' (fun e => Ct.dec_enc e) l
@[go_sem] theorem cts_app (a b : List Ct) : cts a ++ cts b = cts (a ++ b) := by simp [cts]
@[go_sem] theorem cts_drop (l : List Ct) (k : Nat) : (cts l).drop k = cts (l.drop k) := by simp [cts]
@[go_sem] theorem cts_take (l : List Ct) (k : Nat) : (cts l).take k = cts (l.take k) := by simp [cts]
@[go_sem] theorem cts_one (z12 : Int) (z13 : Int) (z14 : Int) (hz12 : 0 ≤ z12) (hz13 : 0 ≤ z13) (hz14 : 0 ≤ z14) : [[C.int .u64 z12, C.int .u64 z13, C.int .u64 z14]] = cts [⟨z12.toNat, z13.toNat, z14.toNat⟩] := by simp [cts, Ct.enc, Int.toNat_of_nonneg hz12, Int.toNat_of_nonneg hz13, Int.toNat_of_nonneg hz14]
@[go_sem] theorem cts_set (l : List Ct) (i : Nat) (z12 : Int) (z13 : Int) (z14 : Int) (hz12 : 0 ≤ z12) (hz13 : 0 ≤ z13) (hz14 : 0 ≤ z14) : (cts l).set i [C.int .u64 z12, C.int .u64 z13, C.int .u64 z14] = cts (l.set i ⟨z12.toNat, z13.toNat, z14.toNat⟩) := by simp [cts, List.map_set, Ct.enc, Int.toNat_of_nonneg hz12, Int.toNat_of_nonneg hz13, Int.toNat_of_nonneg hz14]
@[go_sem] theorem cts_cons (l : List Ct) (z12 : Int) (z13 : Int) (z14 : Int) (hz12 : 0 ≤ z12) (hz13 : 0 ≤ z13) (hz14 : 0 ≤ z14) : [C.int .u64 z12, C.int .u64 z13, C.int .u64 z14] :: cts l = cts (⟨z12.toNat, z13.toNat, z14.toNat⟩ :: l) := by simp [cts, Ct.enc, Int.toNat_of_nonneg hz12, Int.toNat_of_nonneg hz13, Int.toNat_of_nonneg hz14]
@[go_sem] theorem cts_flat (l : List Ct) : flatE (cts l) = True := eq_true fun x hx c hc => by
  obtain ⟨e, _, rfl⟩ := List.mem_map.1 hx
  simp only [Ct.enc, List.mem_cons, List.not_mem_nil, or_false] at hc
  rcases hc with rfl | rfl | rfl <;> rfl
@[go_sem] theorem Ct.eta {e : Ct} : (⟨e.root, e.b, e.n⟩ : Ct) = e := rfl
@[go_sem] theorem Ct.eqD {a b : Ct} : eqD Try.prog 48 [D.c (.int .u64 (a.root : Int)), D.c (.int .u64 (a.b : Int)), D.c (.int .u64 (a.n : Int))] [D.c (.int .u64 (b.root : Int)), D.c (.int .u64 (b.b : Int)), D.c (.int .u64 (b.n : Int))] = some (decide (a = b)) := by
  cases a; cases b
  simp only [Dm.eqD, eqOf_48, eqCells, eqC, List.getElem?_cons_zero, List.getElem?_cons_succ, if_true, Option.some.injEq, Ct.mk.injEq]
  rw [Bool.eq_iff_iff]
  simp [Int.ofNat_inj]
@[go_sem] def isnan_r (x : Nat) : D := .bool false
@[go_sem] abbrev n_isnan : FuncId := 43
@[go_sem] def isnan_T : Tab := []
theorem isnan_T_ok : TabOk Try.prog isnan_T := TabOk.nil
set_option maxRecDepth 8000 in
set_option maxHeartbeats 1000000 in
theorem isnan_ok (x : Nat)  : PureFn Try.prog 43 [.c (.int .u64 (x : Int))] (isnan_r x) := by
  refine .of (ac43 isnan_T_ok (Nat.le_of_ble_eq_true rfl) ?_)
  simp -implicitDefEqProofs only [cd_t, cd_f, cd_dec, cd_not, cd_and, cd_or, grd_tt, grd_ff, grd_tf, grd_ft, grd_dt, grd_df, grd_nt, grd_nf, go_sem, Go.Proofs.Try.f43, reduceIte, reduceCtorEq, Nat.reduceEqDiff, Nat.reduceAdd, Nat.reduceLeDiff, Nat.reduceSub, Nat.reduceMul, Nat.reduceLT, Nat.reduceShiftRight, Nat.reduceMod, Int.reduceLE, Int.reduceLT, Int.reduceToNat, decide_true, Bool.and_self, Bool.true_and, Ob.map.injEq, Ob.it.injEq, List.cons.injEq, true_and, and_true]
def sp_isnan : List D → Option (Prop × D × Fr)
  | [.c (.int .u64 z15)] => some (z15 = (z15.toNat : Int), isnan_r z15.toNat, [])
  | _ => none
attribute [go_sem] sp_isnan
theorem sp_isnan_ok : ∀ rs p r fr, sp_isnan rs = some (p, r, fr) → p → FnOk Try.prog 43 rs r fr := by
  intro rs p r fr h hp
  unfold sp_isnan at h
  split at h <;> cases h
  have hc0 := hp
  rename_i z15
  obtain ⟨z15, rfl⟩ : ∃ m : Nat, z15 = m := ⟨_, hc0⟩
  simp only [Int.toNat_natCast]
  exact isnan_ok z15
@[go_sem] def cmp_r (x : Nat) (y : Nat) : D := .int .i64 (cmpS x y)
@[go_sem] abbrev n_cmp : FuncId := 40
@[go_sem] def cmp_T : Tab := [(43, sp_isnan)]
theorem cmp_T_ok : TabOk Try.prog cmp_T := (TabOk.cons sp_isnan_ok TabOk.nil)
set_option maxRecDepth 8000 in
set_option maxHeartbeats 1000000 in
theorem cmp_ok (x : Nat) (y : Nat)  : PureFn Try.prog 40 [.c (.int .u64 (x : Int)), .c (.int .u64 (y : Int))] (cmp_r x y) := by
  refine .of (ac40 cmp_T_ok (Nat.le_of_ble_eq_true rfl) ?_)
  simp -implicitDefEqProofs only [cd_t, cd_f, cd_dec, cd_not, cd_and, cd_or, grd_tt, grd_ff, grd_tf, grd_ft, grd_dt, grd_df, grd_nt, grd_nf, go_sem, Go.Proofs.Try.f40, reduceIte, reduceCtorEq, Nat.reduceEqDiff, Nat.reduceAdd, Nat.reduceLeDiff, Nat.reduceSub, Nat.reduceMul, Nat.reduceLT, Nat.reduceShiftRight, Nat.reduceMod, Int.reduceLE, Int.reduceLT, Int.reduceToNat, decide_true, Bool.and_self, Bool.true_and, Ob.map.injEq, Ob.it.injEq, List.cons.injEq, true_and, and_true]
  refine ⟨fun h => ?_, fun h => ⟨fun h1 => ?_, fun h1 => ?_⟩⟩ <;> simp [cmpS] <;> omega
def sp_cmp : List D → Option (Prop × D × Fr)
  | [.c (.int .u64 z16), .c (.int .u64 z17)] => some (z16 = (z16.toNat : Int) ∧ z17 = (z17.toNat : Int), cmp_r z16.toNat z17.toNat, [])
  | _ => none
attribute [go_sem] sp_cmp
theorem sp_cmp_ok : ∀ rs p r fr, sp_cmp rs = some (p, r, fr) → p → FnOk Try.prog 40 rs r fr := by
  intro rs p r fr h hp
  unfold sp_cmp at h
  split at h <;> cases h
  obtain ⟨hc0, hc1⟩ := hp
  rename_i z16 z17
  obtain ⟨z16, rfl⟩ : ∃ m : Nat, z16 = m := ⟨_, hc0⟩
  obtain ⟨z17, rfl⟩ : ∃ m : Nat, z17 = m := ⟨_, hc1⟩
  simp only [Int.toNat_natCast]
  exact cmp_ok z16 z17
end Dm
/-! Lists that rise by a key. -/
namespace Dm
namespace Srt
structure Tot {κ : Type} (lt : κ → κ → Prop) : Prop where
  irr : ∀ a, ¬ lt a a
  tr : ∀ {a b c}, lt a b → lt b c → lt a c
  tot : ∀ a b, lt a b ∨ a = b ∨ lt b a
theorem totNat : Tot (fun a b : Nat => a < b) := ⟨fun a => by omega, fun h h' => by omega, fun a b => by omega⟩
theorem totInt : Tot (fun a b : Int => a < b) := ⟨fun a => by omega, fun h h' => by omega, fun a b => by omega⟩
section
variable {α κ : Type} [Inhabited α] [DecidableEq κ] (key : α → κ) (lt : κ → κ → Prop) [DecidableRel lt]
def Up (l : List α) : Prop := l.Pairwise fun a b => lt (key a) (key b)
def pos (l : List α) (k : κ) : Nat := l.findIdx fun x => decide (¬ lt (key x) k)
def thr (l : List α) (k : κ) : Bool := decide (pos key lt l k < l.length ∧ key (l.getD (pos key lt l k) default) = k)
def ins (l : List α) (i : Nat) (x : α) : List α := l.take i ++ x :: l.drop i
def fnd (l : List α) (k : κ) : Option α := l.find? fun x => decide (key x = k)
def put (l : List α) (x : α) : List α := if thr key lt l (key x) = true then l.set (pos key lt l (key x)) x else ins l (pos key lt l (key x)) x
/-- Each is below the next one. -/
def Chn (l : List α) : Prop := ∀ j, j < l.length → 0 < j → lt (key (l.getD (j - 1) default)) (key (l.getD j default))
instance (l : List α) : Decidable (Chn key lt l) := by unfold Chn; infer_instance
variable {key lt} {l : List α} {k : κ} {x : α} {i : Nat} (T : Tot lt)
theorem pos_le : pos key lt l k ≤ l.length := List.findIdx_le_length
theorem pos_lo (h : i < pos key lt l k) : lt (key (l.getD i default)) k := by
  have h2 : i < l.length := Nat.lt_of_lt_of_le h pos_le
  have := List.not_of_lt_findIdx h
  rw [getD_lt h2]
  simpa using this
theorem pos_eq (hi : i ≤ l.length) (h1 : ∀ j, j < i → lt (key (l.getD j default)) k) (h2 : i < l.length → ¬ lt (key (l.getD i default)) k) : pos key lt l k = i := by
  unfold pos
  rcases Nat.lt_or_ge i l.length with h | h
  · rw [List.findIdx_eq h]
    have h3 := h2 h
    rw [getD_lt h] at h3
    refine ⟨by simpa using h3, fun j hj => ?_⟩
    have := h1 j hj
    rw [getD_lt (Nat.lt_trans hj h)] at this
    simpa using this
  · have : i = l.length := by omega
    subst this
    refine Nat.le_antisymm List.findIdx_le_length (Nat.le_of_not_lt fun hlt => ?_)
    have h3 := List.findIdx_getElem (w := hlt)
    have h4 := h1 _ hlt
    rw [getD_lt hlt] at h4
    simp only [decide_eq_true_eq] at h3
    exact h3 h4
theorem up_get : Up key lt l ↔ ∀ a b, a < b → b < l.length → lt (key (l.getD a default)) (key (l.getD b default)) := by
  unfold Up
  rw [List.pairwise_iff_getElem]
  refine ⟨fun h a b hab hb => ?_, fun h a b ha hb hab => ?_⟩
  · rw [getD_lt hb, getD_lt (by omega)]; exact h a b (by omega) hb hab
  · have := h a b hab hb
    rwa [getD_lt hb, getD_lt ha] at this
theorem at_pos (h : pos key lt l k < l.length) : ¬ lt (key (l.getD (pos key lt l k) default)) k := by
  have h3 := List.findIdx_getElem (w := h)
  rw [getD_lt h]
  exact of_decide_eq_true h3
include T
theorem chn_up : Chn key lt l ↔ Up key lt l := by
  rw [up_get]
  refine ⟨fun h a b hab => ?_, fun h j hj h0 => h (j - 1) j (by omega) hj⟩
  induction b with
  | zero => omega
  | succ b ih =>
    intro hb
    have h1 := h (b + 1) hb (by omega)
    rw [Nat.add_sub_cancel] at h1
    by_cases hab' : a = b
    · rw [hab']; exact h1
    · exact T.tr (ih (by omega) (by omega)) h1
theorem pos_hi (hu : Up key lt l) (h : pos key lt l k ≤ i) (hi : i < l.length) : ¬ lt (key (l.getD i default)) k := by
  have h1 := at_pos (key := key) (lt := lt) (l := l) (k := k) (by omega)
  by_cases he : pos key lt l k = i
  · rw [← he]; exact h1
  · intro h2
    exact h1 (T.tr (up_get.1 hu _ _ (by omega) hi) h2)
theorem thr_iff (hu : Up key lt l) : thr key lt l k = true ↔ ∃ x ∈ l, key x = k := by
  simp only [thr, decide_eq_true_eq]
  refine ⟨fun ⟨h1, h2⟩ => ⟨_, mem_getD.2 ⟨_, h1, rfl⟩, h2⟩, fun ⟨x, hx, he⟩ => ?_⟩
  obtain ⟨i, hi, rfl⟩ := mem_getD.1 hx
  have h1 : pos key lt l k = i := by
    refine pos_eq (by omega) (fun j hj => ?_) fun _ => ?_
    · rw [← he]; exact up_get.1 hu j i hj hi
    · rw [he]; exact T.irr _
  rw [h1]; exact ⟨hi, he⟩
theorem up_inj (hu : Up key lt l) {a b : α} (ha : a ∈ l) (hb : b ∈ l) (h : key a = key b) : a = b := by
  obtain ⟨i, hi, rfl⟩ := mem_getD.1 ha
  obtain ⟨j, hj, rfl⟩ := mem_getD.1 hb
  rcases Nat.lt_trichotomy i j with h1 | h1 | h1
  · have := up_get.1 hu i j h1 hj; rw [h] at this; exact absurd this (T.irr _)
  · rw [h1]
  · have := up_get.1 hu j i h1 hi; rw [h] at this; exact absurd this (T.irr _)
theorem fnd_some (hu : Up key lt l) : fnd key l k = some x ↔ x ∈ l ∧ key x = k := by
  refine ⟨fun h => ⟨List.mem_of_find?_eq_some h, by simpa using List.find?_some h⟩, fun ⟨h1, h2⟩ => ?_⟩
  cases hf : fnd key l k with
  | none => rw [fnd, List.find?_eq_none] at hf; exact absurd h2 (by simpa using hf x h1)
  | some y =>
    have h3 := List.mem_of_find?_eq_some hf
    have h4 : key y = k := by simpa using List.find?_some hf
    rw [up_inj T hu h3 h1 (h4.trans h2.symm)]
omit T in
theorem fnd_none : fnd key l k = none ↔ ∀ x ∈ l, key x ≠ k := by
  rw [fnd, List.find?_eq_none]; simp
theorem fnd_thr (hu : Up key lt l) : fnd key l k = if thr key lt l k = true then some (l.getD (pos key lt l k) default) else none := by
  split
  · rename_i h
    have h' := h
    simp only [thr, decide_eq_true_eq] at h'
    exact (fnd_some T hu).2 ⟨mem_getD.2 ⟨_, h'.1, rfl⟩, h'.2⟩
  · rename_i h
    rw [fnd_none]
    exact fun x hx he => h ((thr_iff T hu).2 ⟨x, hx, he⟩)
theorem ext {a b : List α} (ha : Up key lt a) (hb : Up key lt b) (h : ∀ x, x ∈ a ↔ x ∈ b) : a = b := by
  induction a generalizing b with
  | nil =>
    cases b with
    | nil => rfl
    | cons y b => exact absurd ((h y).2 (by simp)) (by simp)
  | cons x a ih =>
    cases b with
    | nil => exact absurd ((h x).1 (by simp)) (by simp)
    | cons y b =>
      simp only [Up, List.pairwise_cons] at ha hb
      have hxy : x = y := by
        rcases List.mem_cons.1 ((h x).1 (by simp)) with h1 | h1
        · exact h1
        · rcases List.mem_cons.1 ((h y).2 (by simp)) with h2 | h2
          · exact h2.symm
          · exact absurd (T.tr (ha.1 y h2) (hb.1 x h1)) (T.irr _)
      subst hxy
      congr 1
      refine ih ha.2 hb.2 fun z => ?_
      have hz := h z
      simp only [List.mem_cons] at hz
      refine ⟨fun h1 => ?_, fun h1 => ?_⟩
      · rcases hz.1 (.inr h1) with h2 | h2
        · subst h2; exact absurd (ha.1 z h1) (T.irr _)
        · exact h2
      · rcases hz.2 (.inr h1) with h2 | h2
        · subst h2; exact absurd (hb.1 z h1) (T.irr _)
        · exact h2
theorem ext_fnd {a b : List α} (ha : Up key lt a) (hb : Up key lt b) (h : ∀ k, fnd key a k = fnd key b k) : a = b :=
  ext T ha hb fun x => by
    rw [show x ∈ a ↔ fnd key a (key x) = some x from ⟨fun h => (fnd_some T ha).2 ⟨h, rfl⟩, fun h => ((fnd_some T ha).1 h).1⟩, h, fnd_some T hb]
    exact ⟨fun h => h.1, fun h => ⟨h, rfl⟩⟩
omit T in
theorem ins_perm : List.Perm (ins l i x) (x :: l) := by
  have := List.perm_middle (a := x) (l₁ := l.take i) (l₂ := l.drop i)
  rwa [List.take_append_drop] at this
theorem ins_up (hu : Up key lt l) (ht : ¬ thr key lt l (key x) = true) : Up key lt (ins l (pos key lt l (key x)) x) := by
  have hn : ∀ e ∈ l, ¬ key e = key x := fun e he h => ht ((thr_iff T hu).2 ⟨e, he, h⟩)
  have hlo : ∀ e ∈ l.take (pos key lt l (key x)), lt (key e) (key x) := fun e he => by
    obtain ⟨i, hi, rfl⟩ := List.getElem_of_mem he
    rw [List.length_take] at hi
    have := pos_lo (key := key) (lt := lt) (l := l) (k := key x) (i := i) (by omega)
    rw [getD_lt (by omega)] at this
    simpa using this
  have hhi : ∀ e ∈ l.drop (pos key lt l (key x)), lt (key x) (key e) := fun e he => by
    obtain ⟨i, hi, rfl⟩ := List.getElem_of_mem he
    rw [List.length_drop] at hi
    have h3 := pos_hi T hu (k := key x) (i := pos key lt l (key x) + i) (by omega) (by omega)
    have h4 := hn _ (List.mem_of_mem_drop he)
    rw [getD_lt (by omega)] at h3
    simp only [List.getElem_drop] at h4 ⊢
    rcases T.tot (key l[pos key lt l (key x) + i]) (key x) with h | h | h
    · exact absurd h h3
    · exact absurd h h4
    · exact h
  unfold Up at *
  rw [← List.take_append_drop (pos key lt l (key x)) l, List.pairwise_append] at hu
  rw [ins, List.pairwise_append]
  refine ⟨hu.1, List.pairwise_cons.2 ⟨hhi, hu.2.1⟩, fun a ha b hb => ?_⟩
  rcases List.mem_cons.1 hb with rfl | hb
  · exact hlo a ha
  · exact hu.2.2 a ha b hb
omit T in
theorem set_getD {p : Nat} (hp : p < l.length) (q : Nat) : (l.set p x).getD q default = if q = p then x else l.getD q default := by
  rw [List.getD_eq_getElem?_getD, List.getElem?_set]
  by_cases h : p = q
  · subst h; simp [hp]
  · have : ¬ q = p := fun e => h e.symm
    simp [h, this]
omit T in
theorem set_up {p : Nat} (hu : Up key lt l) (hp : p < l.length) (hk : key x = key (l.getD p default)) : Up key lt (l.set p x) := by
  rw [up_get] at *
  intro a b hab hb
  rw [List.length_set] at hb
  have : ∀ q, key ((l.set p x).getD q default) = key (l.getD q default) := fun q => by
    rw [set_getD hp]
    split
    · rename_i h; rw [h, hk]
    · rfl
  rw [this, this]
  exact hu a b hab hb
theorem put_up (hu : Up key lt l) : Up key lt (put key lt l x) := by
  unfold put
  split
  · rename_i h
    simp only [thr, decide_eq_true_eq] at h
    exact set_up hu h.1 h.2.symm
  · rename_i h; exact ins_up T hu h
theorem mem_put (hu : Up key lt l) {y : α} : y ∈ put key lt l x ↔ y = x ∨ (y ∈ l ∧ key y ≠ key x) := by
  unfold put
  split
  · rename_i h
    simp only [thr, decide_eq_true_eq] at h
    obtain ⟨h1, h2⟩ := h
    refine ⟨fun hy => ?_, fun hy => ?_⟩
    · obtain ⟨i, hi, rfl⟩ := mem_getD.1 hy
      rw [List.length_set] at hi
      rw [set_getD h1]
      split
      · exact .inl rfl
      · rename_i hne
        refine .inr ⟨mem_getD.2 ⟨i, hi, rfl⟩, fun he => ?_⟩
        have := up_inj T hu (mem_getD.2 ⟨i, hi, rfl⟩) (mem_getD.2 ⟨_, h1, rfl⟩) (he.trans h2.symm)
        rcases Nat.lt_trichotomy i (pos key lt l (key x)) with h | h | h
        · have h3 := up_get.1 hu _ _ h h1; rw [this] at h3; exact T.irr _ h3
        · exact hne h
        · have h3 := up_get.1 hu _ _ h hi; rw [this] at h3; exact T.irr _ h3
    · rcases hy with rfl | ⟨hy, hne⟩
      · exact mem_getD.2 ⟨pos key lt l (key y), by rw [List.length_set]; exact h1, by rw [set_getD h1, if_pos rfl]⟩
      · obtain ⟨i, hi, rfl⟩ := mem_getD.1 hy
        refine mem_getD.2 ⟨i, by rw [List.length_set]; exact hi, ?_⟩
        rw [set_getD h1, if_neg]
        rintro rfl
        exact hne h2
  · rename_i h
    rw [ins_perm.mem_iff, List.mem_cons]
    refine ⟨fun hy => hy.imp id fun hy => ⟨hy, fun he => h ((thr_iff T hu).2 ⟨y, hy, he⟩)⟩, fun hy => hy.imp id fun hy => hy.1⟩
theorem fnd_put (hu : Up key lt l) : fnd key (put key lt l x) k = if k = key x then some x else fnd key l k := by
  split
  · rename_i h; subst h
    exact (fnd_some T (put_up T hu)).2 ⟨(mem_put T hu).2 (.inl rfl), rfl⟩
  · rename_i h
    cases hf : fnd key l k with
    | none =>
      rw [fnd_none] at hf ⊢
      intro y hy
      rcases (mem_put T hu).1 hy with rfl | ⟨hy, _⟩
      · exact fun e => h e.symm
      · exact hf y hy
    | some y =>
      obtain ⟨h1, h2⟩ := (fnd_some T hu).1 hf
      exact (fnd_some T (put_up T hu)).2 ⟨(mem_put T hu).2 (.inr ⟨h1, by rw [h2]; exact h⟩), h2⟩
omit T in
theorem ins_len : (ins l i x).length = l.length + 1 := ins_perm.length_eq
omit T in
theorem put_len : (put key lt l x).length = if thr key lt l (key x) = true then l.length else l.length + 1 := by
  unfold put
  split
  · exact List.length_set
  · exact ins_len
omit T in
theorem ins_getD {p : Nat} (hp : p ≤ l.length) : (ins l p x).getD p default = x := by
  have h : (l.take p).length = p := by rw [List.length_take]; omega
  rw [ins, List.getD_eq_getElem?_getD, List.getElem?_append_right (by omega), h]
  simp
omit T in
theorem ins_set {p : Nat} {y : α} (hp : p ≤ l.length) : (ins l p x).set p y = ins l p y := by
  have h : (l.take p).length = p := by rw [List.length_take]; omega
  rw [ins, List.set_append_right _ _ (by omega), h]
  simp [ins]
/-- As it is put by two sieves. -/
theorem put_filter (hu : Up key lt l) : l.filter (fun e => decide (lt (key e) (key x))) ++ x :: l.filter (fun e => decide (lt (key x) (key e))) = put key lt l x := by
  refine ext T (key := key) (lt := lt) ?_ (put_up T hu) fun y => ?_
  · unfold Up at *
    rw [List.pairwise_append]
    refine ⟨hu.filter _, List.pairwise_cons.2 ⟨fun b hb => by simpa using (List.mem_filter.1 hb).2, hu.filter _⟩, fun a ha b hb => ?_⟩
    have h1 : lt (key a) (key x) := by simpa using (List.mem_filter.1 ha).2
    rcases List.mem_cons.1 hb with rfl | hb
    · exact h1
    · exact T.tr h1 (by simpa using (List.mem_filter.1 hb).2)
  · rw [mem_put T hu]
    simp only [List.mem_append, List.mem_cons, List.mem_filter, decide_eq_true_eq]
    refine ⟨fun h => ?_, fun h => ?_⟩
    · rcases h with ⟨h1, h2⟩ | h1 | ⟨h1, h2⟩
      · exact .inr ⟨h1, fun e => T.irr _ (e ▸ h2)⟩
      · exact .inl h1
      · exact .inr ⟨h1, fun e => T.irr _ (e ▸ h2)⟩
    · rcases h with h1 | ⟨h1, h2⟩
      · exact .inr (.inl h1)
      · rcases T.tot (key y) (key x) with h | h | h
        · exact .inl ⟨h1, h⟩
        · exact absurd h h2
        · exact .inr (.inr ⟨h1, h⟩)
end
end Srt
end Dm
namespace Dm
open Go Go.Proofs Go.IntWalk
/-- The first that is not 0. -/
def orS (l : List Int) : Int := (l.find? fun x => decide (¬ x = 0)).getD 0
@[go_sem] def cmpor_r (l : List Int) : D := .int .i64 (orS l)
@[go_sem] abbrev n_cmpor : FuncId := 39
@[go_sem] def cmpor_T : Tab := []
theorem cmpor_T_ok : TabOk Try.prog cmpor_T := TabOk.nil
set_option maxRecDepth 8000 in
set_option maxHeartbeats 1000000 in
theorem cmpor_ok (l : List Int)  : PureFn Try.prog 39 [.sl (i64s l)] (cmpor_r l) := by
  refine .of (ac39 cmpor_T_ok (Nat.le_of_ble_eq_true rfl) ?_)
  simp -implicitDefEqProofs only [cd_t, cd_f, cd_dec, cd_not, cd_and, cd_or, grd_tt, grd_ff, grd_tf, grd_ft, grd_dt, grd_df, grd_nt, grd_nf, go_sem, Go.Proofs.Try.f39, reduceIte, reduceCtorEq, Nat.reduceEqDiff, Nat.reduceAdd, Nat.reduceLeDiff, Nat.reduceSub, Nat.reduceMul, Nat.reduceLT, Nat.reduceShiftRight, Nat.reduceMod, Int.reduceLE, Int.reduceLT, Int.reduceToNat, decide_true, Bool.and_self, Bool.true_and, Ob.map.injEq, Ob.it.injEq, List.cons.injEq, true_and, and_true]
  refine fun hl => SWp.loop (ι := { i : Nat // i ≤ l.length ∧ ∀ j, j < i → l.getD j default = 0 }) (fun i => ⟨[(3, .int .i64 0), (6, .sl (i64s l)), (7, .int .i64 l.length), (8, .int .i64 i.1)], [], 0⟩) (fun i => l.length - i.1) ⟨0, by simp⟩ ?_ ?_
  · simp [go_sem]
  · rintro ⟨i, hi, hall⟩
    refine awp_sound cmpor_T_ok.toS lv39 _ _ _ rfl ?_
    simp -implicitDefEqProofs only [cd_t, cd_f, cd_dec, cd_not, cd_and, cd_or, grd_tt, grd_ff, grd_tf, grd_ft, grd_dt, grd_df, grd_nt, grd_nf, go_sem, reduceIte, reduceCtorEq, Nat.reduceEqDiff, Nat.reduceAdd, Nat.reduceLeDiff, Nat.reduceSub, Nat.reduceMul, Nat.reduceLT, Nat.reduceShiftRight, Nat.reduceMod, Int.reduceLE, Int.reduceLT, Int.reduceToNat, decide_true, Bool.and_self, Bool.true_and, Ob.map.injEq, Ob.it.injEq, List.cons.injEq, true_and, and_true]
    refine ⟨fun h => ⟨by omega, fun h1 => ⟨⟨i + 1, by omega, fun j hj => ?_⟩, by dsimp only; omega, i64_in _ (by omega)⟩, fun h1 => ?_⟩, fun h => ?_⟩
    · by_cases hji : j = i
      · subst hji; exact h1
      · exact hall j (by omega)
    · have hi' : i < l.length := by omega
      have : l.find? (fun x => decide (¬ x = 0)) = some (l.getD i default) := by
        rw [List.find?_eq_some_iff_getElem]
        refine ⟨by simpa using h1, i, hi', (getD_lt hi').symm, fun j hj => ?_⟩
        have := hall j hj
        rw [getD_lt (by omega)] at this
        simpa using this
      rw [orS, this]; rfl
    · have : l.find? (fun x => decide (¬ x = 0)) = none := by
        rw [List.find?_eq_none]
        intro x hx
        obtain ⟨j, hj, rfl⟩ := mem_getD.1 hx
        simpa using hall j (by omega)
      rw [orS, this]; rfl
def sp_cmpor : List D → Option (Prop × D × Fr)
  | [.c (.sl z18)] => some (z18 = i64s (di64s z18), cmpor_r (di64s z18), [])
  | _ => none
attribute [go_sem] sp_cmpor
theorem sp_cmpor_ok : ∀ rs p r fr, sp_cmpor rs = some (p, r, fr) → p → FnOk Try.prog 39 rs r fr := by
  intro rs p r fr h hp
  unfold sp_cmpor at h
  split at h <;> cases h
  have hc0 := hp
  rename_i z18
  obtain ⟨z18, rfl⟩ : ∃ m, z18 = i64s m := ⟨_, hc0⟩
  simp only [di64s_i64s]
  exact cmpor_ok z18
def ltC (a b : Nat × Nat) : Prop := a.1 < b.1 ∨ (a.1 = b.1 ∧ a.2 < b.2)
instance : DecidableRel ltC := fun a b => by unfold ltC; infer_instance
theorem totC : Srt.Tot ltC := ⟨fun a => by unfold ltC; omega, fun h h' => by unfold ltC at *; omega, fun a b => by
  unfold ltC
  have : a = b ↔ a.1 = b.1 ∧ a.2 = b.2 := Prod.ext_iff
  rw [this]; omega⟩
def Ct.key (c : Ct) : Nat × Nat := (c.root, c.b)
def ordC (a b : Ct) : Int := orS [cmpS a.root b.root, cmpS a.b b.b]
theorem ordC_neg {a b : Ct} : ordC a b < 0 ↔ ltC a.key b.key := by
  unfold ordC orS ltC Ct.key cmpS
  by_cases h1 : (a.root : Int) < b.root
  · simp [h1]; omega
  · by_cases h2 : (b.root : Int) < a.root
    · simp [h1, h2]; omega
    · by_cases h3 : (a.b : Int) < b.b
      · simp [h1, h2, h3]; omega
      · by_cases h4 : (b.b : Int) < a.b
        · simp [h1, h2, h3, h4]; omega
        · simp [h1, h2, h3, h4]; omega
theorem ordC_0 {a b : Ct} : ordC a b = 0 ↔ a.key = b.key := by
  have hk : a.key = b.key ↔ a.root = b.root ∧ a.b = b.b := Prod.ext_iff
  rw [hk]
  unfold ordC orS cmpS
  by_cases h1 : (a.root : Int) < b.root
  · simp [h1]; omega
  · by_cases h2 : (b.root : Int) < a.root
    · simp [h1, h2]; omega
    · by_cases h3 : (a.b : Int) < b.b
      · simp [h1, h2, h3]; omega
      · by_cases h4 : (b.b : Int) < a.b
        · simp [h1, h2, h3, h4]; omega
        · simp [h1, h2, h3, h4]; omega
@[go_sem] def corder_r (a : Ct) (b : Ct) : D := .int .i64 (ordC a b)
@[go_sem] abbrev n_corder : FuncId := 26
@[go_sem] def corder_T : Tab := [(40, sp_cmp), (39, sp_cmpor)]
theorem corder_T_ok : TabOk Try.prog corder_T := (TabOk.cons sp_cmp_ok (TabOk.cons sp_cmpor_ok TabOk.nil))
set_option maxRecDepth 8000 in
set_option maxHeartbeats 1000000 in
theorem corder_ok (a : Ct) (b : Ct)  : PureFn Try.prog 26 [.agg [.c (.int .u64 (a.root : Int)), .c (.int .u64 (a.b : Int)), .c (.int .u64 (a.n : Int))], .agg [.c (.int .u64 (b.root : Int)), .c (.int .u64 (b.b : Int)), .c (.int .u64 (b.n : Int))]] (corder_r a b) := by
  refine .of (ac26 corder_T_ok (Nat.le_of_ble_eq_true rfl) ?_)
  simp -implicitDefEqProofs only [cd_t, cd_f, cd_dec, cd_not, cd_and, cd_or, grd_tt, grd_ff, grd_tf, grd_ft, grd_dt, grd_df, grd_nt, grd_nf, go_sem, Go.Proofs.Try.f26, reduceIte, reduceCtorEq, Nat.reduceEqDiff, Nat.reduceAdd, Nat.reduceLeDiff, Nat.reduceSub, Nat.reduceMul, Nat.reduceLT, Nat.reduceShiftRight, Nat.reduceMod, Int.reduceLE, Int.reduceLT, Int.reduceToNat, decide_true, Bool.and_self, Bool.true_and, Ob.map.injEq, Ob.it.injEq, List.cons.injEq, true_and, and_true]
  refine ADraw.run us26_1 corder_T_ok follows_mixed (by kernel_rfl) (by kernel_rfl) ?_
  simp -implicitDefEqProofs only [cd_t, cd_f, cd_dec, cd_not, cd_and, cd_or, grd_tt, grd_ff, grd_tf, grd_ft, grd_dt, grd_df, grd_nt, grd_nf, go_sem, reduceIte, reduceCtorEq, Nat.reduceEqDiff, Nat.reduceAdd, Nat.reduceLeDiff, Nat.reduceSub, Nat.reduceMul, Nat.reduceLT, Nat.reduceShiftRight, Nat.reduceMod, Int.reduceLE, Int.reduceLT, Int.reduceToNat, decide_true, Bool.and_self, Bool.true_and, Ob.map.injEq, Ob.it.injEq, List.cons.injEq, true_and, and_true]
  rfl
def sp_corder : List D → Option (Prop × D × Fr)
  | [.agg [.c (.int .u64 z20), .c (.int .u64 z21), .c (.int .u64 z22)], .agg [.c (.int .u64 z24), .c (.int .u64 z25), .c (.int .u64 z26)]] => some (z20 = (z20.toNat : Int) ∧ z21 = (z21.toNat : Int) ∧ z22 = (z22.toNat : Int) ∧ z24 = (z24.toNat : Int) ∧ z25 = (z25.toNat : Int) ∧ z26 = (z26.toNat : Int), corder_r (⟨z20.toNat, z21.toNat, z22.toNat⟩ : Ct) (⟨z24.toNat, z25.toNat, z26.toNat⟩ : Ct), [])
  | _ => none
attribute [go_sem] sp_corder
theorem sp_corder_ok : ∀ rs p r fr, sp_corder rs = some (p, r, fr) → p → FnOk Try.prog 26 rs r fr := by
  intro rs p r fr h hp
  unfold sp_corder at h
  split at h <;> cases h
  obtain ⟨hc0, hc1, hc2, hc3, hc4, hc5⟩ := hp
  rename_i z20 z21 z22 z24 z25 z26
  obtain ⟨z20, rfl⟩ : ∃ m : Nat, z20 = m := ⟨_, hc0⟩
  obtain ⟨z21, rfl⟩ : ∃ m : Nat, z21 = m := ⟨_, hc1⟩
  obtain ⟨z22, rfl⟩ : ∃ m : Nat, z22 = m := ⟨_, hc2⟩
  obtain ⟨z24, rfl⟩ : ∃ m : Nat, z24 = m := ⟨_, hc3⟩
  obtain ⟨z25, rfl⟩ : ∃ m : Nat, z25 = m := ⟨_, hc4⟩
  obtain ⟨z26, rfl⟩ : ∃ m : Nat, z26 = m := ⟨_, hc5⟩
  simp only [Int.toNat_natCast]
  exact corder_ok ⟨z20, z21, z22⟩ ⟨z24, z25, z26⟩
def maxS (l : List Nat) : Nat := l.foldl max 0
theorem maxS_succ {l : List Nat} {i : Nat} (h : i < l.length) : maxS (l.take (i + 1)) = max (maxS (l.take i)) (l.getD i default) := by
  rw [take_succ h, maxS, List.foldl_append]; rfl
@[go_sem] def smax_r (l : List Nat) : D := .int .u64 (maxS l : Int)
@[go_sem] abbrev n_smax : FuncId := 38
@[go_sem] def smax_T : Tab := [(43, sp_isnan)]
theorem smax_T_ok : TabOk Try.prog smax_T := (TabOk.cons sp_isnan_ok TabOk.nil)
set_option maxRecDepth 8000 in
set_option maxHeartbeats 1000000 in
theorem smax_ok (l : List Nat) (h : 0 < l.length) : PureFn Try.prog 38 [.sl (u64s l)] (smax_r l) := by
  refine .of (ac38 smax_T_ok (Nat.le_of_ble_eq_true rfl) ?_)
  simp -implicitDefEqProofs only [cd_t, cd_f, cd_dec, cd_not, cd_and, cd_or, grd_tt, grd_ff, grd_tf, grd_ft, grd_dt, grd_df, grd_nt, grd_nf, go_sem, Go.Proofs.Try.f38, reduceIte, reduceCtorEq, Nat.reduceEqDiff, Nat.reduceAdd, Nat.reduceLeDiff, Nat.reduceSub, Nat.reduceMul, Nat.reduceLT, Nat.reduceShiftRight, Nat.reduceMod, Int.reduceLE, Int.reduceLT, Int.reduceToNat, decide_true, Bool.and_self, Bool.true_and, Ob.map.injEq, Ob.it.injEq, List.cons.injEq, true_and, and_true]
  refine fun hl => ⟨fun h1 => by omega, fun h1 => ⟨by omega, ?_⟩⟩
  refine SWp.loop (ι := { i : Nat // 0 < i ∧ i ≤ l.length }) (fun i => ⟨[(0, .sl (u64s l)), (3, .int .u64 (maxS (l.take i.1) : Nat)), (4, .int .i64 i.1)], [], 0⟩) (fun i => l.length - i.1) ⟨1, by omega⟩ ?_ ?_
  · have : maxS (l.take 1) = l.getD 0 default := by rw [maxS_succ h]; simp [maxS]
    simp [go_sem, this]
  · rintro ⟨i, hi0, hi⟩
    refine awp_sound smax_T_ok.toS lv38 _ _ _ rfl ?_
    simp -implicitDefEqProofs only [cd_t, cd_f, cd_dec, cd_not, cd_and, cd_or, grd_tt, grd_ff, grd_tf, grd_ft, grd_dt, grd_df, grd_nt, grd_nf, go_sem, reduceIte, reduceCtorEq, Nat.reduceEqDiff, Nat.reduceAdd, Nat.reduceLeDiff, Nat.reduceSub, Nat.reduceMul, Nat.reduceLT, Nat.reduceShiftRight, Nat.reduceMod, Int.reduceLE, Int.reduceLT, Int.reduceToNat, decide_true, Bool.and_self, Bool.true_and, Ob.map.injEq, Ob.it.injEq, List.cons.injEq, true_and, and_true]
    refine fun _ => ⟨fun h2 => ⟨by omega, ⟨i + 1, by omega, by omega⟩, by dsimp only; omega, ?_, i64_in _ (by omega)⟩, fun h2 => ?_⟩
    · rw [maxS_succ (by omega)]; omega
    · rw [List.take_of_length_le (by omega)]
@[go_sem] def smax_p (l : List Nat) : Prop := (0 < l.length)
def sp_smax : List D → Option (Prop × D × Fr)
  | [.c (.sl z27)] => some (z27 = u64s (du64s z27) ∧ smax_p (du64s z27), smax_r (du64s z27), [])
  | _ => none
attribute [go_sem] sp_smax
theorem sp_smax_ok : ∀ rs p r fr, sp_smax rs = some (p, r, fr) → p → FnOk Try.prog 38 rs r fr := by
  intro rs p r fr h hp
  unfold sp_smax at h
  split at h <;> cases h
  obtain ⟨hc0, hp⟩ := hp
  rename_i z27
  obtain ⟨z27, rfl⟩ : ∃ m, z27 = u64s m := ⟨_, hc0⟩
  simp only [du64s_u64s]
  simp only [du64s_u64s, smax_p] at hp
  exact smax_ok z27 hp
def monS (l : List Nat) : Int := if l.all (fun n => decide (n ≤ 4611686018427387904)) = true then 0 else 1
theorem max_all {l : List Nat} {m : Nat} : l.foldl max m ≤ 4611686018427387904 ↔ m ≤ 4611686018427387904 ∧ l.all (fun n => decide (n ≤ 4611686018427387904)) = true := by
  induction l generalizing m with
  | nil => simp
  | cons x l ih =>
    rw [List.foldl_cons, ih, List.all_cons]
    simp only [Bool.and_eq_true, decide_eq_true_eq, ← and_assoc]
    refine and_congr_left fun _ => ?_
    omega
@[go_sem] def moncheck_r (l : List Nat) : D := .int .i64 (monS l)
@[go_sem] abbrev n_moncheck : FuncId := 25
@[go_sem] def moncheck_T : Tab := [(38, sp_smax)]
theorem moncheck_T_ok : TabOk Try.prog moncheck_T := (TabOk.cons sp_smax_ok TabOk.nil)
set_option maxRecDepth 8000 in
set_option maxHeartbeats 1000000 in
theorem moncheck_ok (l : List Nat)  : PureFn Try.prog 25 [.sl (u64s l)] (moncheck_r l) := by
  refine .of (ac25 moncheck_T_ok (Nat.le_of_ble_eq_true rfl) ?_)
  simp -implicitDefEqProofs only [cd_t, cd_f, cd_dec, cd_not, cd_and, cd_or, grd_tt, grd_ff, grd_tf, grd_ft, grd_dt, grd_df, grd_nt, grd_nf, go_sem, Go.Proofs.Try.f25, reduceIte, reduceCtorEq, Nat.reduceEqDiff, Nat.reduceAdd, Nat.reduceLeDiff, Nat.reduceSub, Nat.reduceMul, Nat.reduceLT, Nat.reduceShiftRight, Nat.reduceMod, Int.reduceLE, Int.reduceLT, Int.reduceToNat, decide_true, Bool.and_self, Bool.true_and, Ob.map.injEq, Ob.it.injEq, List.cons.injEq, true_and, and_true]
  have hm := max_all (l := l) (m := 0)
  refine fun h => ⟨fun h1 => ⟨by omega, fun h2 => ?_, fun h2 => ?_⟩, fun h1 => ?_⟩
  · rw [monS, if_neg]; intro h3; have := hm.2 ⟨by omega, h3⟩; unfold maxS at h2; omega
  · rw [monS, if_pos]; unfold maxS at h2; exact (hm.1 (by omega)).2
  · have : l = [] := List.eq_nil_of_length_eq_zero (by omega)
    subst this; rfl
def sp_moncheck : List D → Option (Prop × D × Fr)
  | [.c (.sl z28)] => some (z28 = u64s (du64s z28), moncheck_r (du64s z28), [])
  | _ => none
attribute [go_sem] sp_moncheck
theorem sp_moncheck_ok : ∀ rs p r fr, sp_moncheck rs = some (p, r, fr) → p → FnOk Try.prog 25 rs r fr := by
  intro rs p r fr h hp
  unfold sp_moncheck at h
  split at h <;> cases h
  have hc0 := hp
  rename_i z28
  obtain ⟨z28, rfl⟩ : ∃ m, z28 = u64s m := ⟨_, hc0⟩
  simp only [du64s_u64s]
  exact moncheck_ok z28
/-- Together, or too much. -/
def addM (l : List Nat) : Nat × Int := if monS l = 0 then (if l.sum ≤ 4611686018427387904 then (l.sum, 0) else (0, 8)) else (0, 1)
theorem sum_take {l : List Nat} {i : Nat} (h : i < l.length) : (l.take (i + 1)).sum = (l.take i).sum + l.getD i default := by
  rw [take_succ h]; simp
theorem sum_le {l : List Nat} {i : Nat} : (l.take i).sum ≤ l.sum := by
  conv => rhs; rw [← List.take_append_drop i l]
  rw [List.sum_append]
  omega
theorem monS_get {l : List Nat} (h : monS l = 0) {i : Nat} (hi : i < l.length) : l.getD i default ≤ 4611686018427387904 := by
  unfold monS at h
  split at h
  · rename_i h1
    have := List.all_eq_true.1 h1 _ (mem_getD.2 ⟨i, hi, rfl⟩)
    simpa using this
  · cases h
theorem monS_1 {l : List Nat} (h : ¬ monS l = 0) : monS l = 1 := by
  unfold monS at *; split <;> simp_all
@[go_sem] def monadd_r (l : List Nat) : D := .tup [.int .u64 ((addM l).1 : Int), .int .i64 (addM l).2]
@[go_sem] abbrev n_monadd : FuncId := 34
@[go_sem] def monadd_T : Tab := [(25, sp_moncheck)]
theorem monadd_T_ok : TabOk Try.prog monadd_T := (TabOk.cons sp_moncheck_ok TabOk.nil)
set_option maxRecDepth 8000 in
set_option maxHeartbeats 1000000 in
theorem monadd_ok (l : List Nat)  : PureFn Try.prog 34 [.sl (u64s l)] (monadd_r l) := by
  refine .of (ac34 monadd_T_ok (Nat.le_of_ble_eq_true rfl) ?_)
  simp -implicitDefEqProofs only [cd_t, cd_f, cd_dec, cd_not, cd_and, cd_or, grd_tt, grd_ff, grd_tf, grd_ft, grd_dt, grd_df, grd_nt, grd_nf, go_sem, Go.Proofs.Try.f34, reduceIte, reduceCtorEq, Nat.reduceEqDiff, Nat.reduceAdd, Nat.reduceLeDiff, Nat.reduceSub, Nat.reduceMul, Nat.reduceLT, Nat.reduceShiftRight, Nat.reduceMod, Int.reduceLE, Int.reduceLT, Int.reduceToNat, decide_true, Bool.and_self, Bool.true_and, Ob.map.injEq, Ob.it.injEq, List.cons.injEq, true_and, and_true]
  refine ⟨fun h hl => ?_, fun h => ?_⟩
  · refine SWp.loop (ι := { i : Nat // i ≤ l.length ∧ (l.take i).sum ≤ 4611686018427387904 }) (fun i => ⟨[(2, .int .u64 ((l.take i.1).sum : Nat)), (11, .sl (u64s l)), (12, .int .i64 l.length), (13, .int .i64 i.1)], [], 0⟩) (fun i => l.length - i.1) ⟨0, by simp⟩ ?_ ?_
    · simp [go_sem]
    · rintro ⟨i, hi, hs⟩
      refine awp_sound monadd_T_ok.toS lv34 _ _ _ rfl ?_
      simp -implicitDefEqProofs only [cd_t, cd_f, cd_dec, cd_not, cd_and, cd_or, grd_tt, grd_ff, grd_tf, grd_ft, grd_dt, grd_df, grd_nt, grd_nf, go_sem, reduceIte, reduceCtorEq, Nat.reduceEqDiff, Nat.reduceAdd, Nat.reduceLeDiff, Nat.reduceSub, Nat.reduceMul, Nat.reduceLT, Nat.reduceShiftRight, Nat.reduceMod, Int.reduceLE, Int.reduceLT, Int.reduceToNat, decide_true, Bool.and_self, Bool.true_and, Ob.map.injEq, Ob.it.injEq, List.cons.injEq, true_and, and_true]
      refine ⟨fun h1 => ?_, fun h1 => ?_⟩
      · have hi' : i < l.length := by omega
        have hg := monS_get h hi'
        have hst := sum_take hi'
        have hle := sum_le (l := l) (i := i + 1)
        rw [u64_in _ (by omega)]
        refine ⟨by omega, fun h2 => ?_, fun h2 => ⟨⟨i + 1, by omega, by omega⟩, by dsimp only; omega, by dsimp only; omega, i64_in _ (by omega)⟩⟩
        rw [addM, if_pos h, if_neg (by omega)]; exact ⟨rfl, rfl⟩
      · rw [List.take_of_length_le (by omega)] at hs ⊢
        rw [addM, if_pos h, if_pos hs]; exact ⟨rfl, rfl⟩
  · rw [addM, if_neg h]
    exact ⟨rfl, monS_1 h⟩
def sp_monadd : List D → Option (Prop × D × Fr)
  | [.c (.sl z29)] => some (z29 = u64s (du64s z29), monadd_r (du64s z29), [])
  | _ => none
attribute [go_sem] sp_monadd
theorem sp_monadd_ok : ∀ rs p r fr, sp_monadd rs = some (p, r, fr) → p → FnOk Try.prog 34 rs r fr := by
  intro rs p r fr h hp
  unfold sp_monadd at h
  split at h <;> cases h
  have hc0 := hp
  rename_i z29
  obtain ⟨z29, rfl⟩ : ∃ m, z29 = u64s m := ⟨_, hc0⟩
  simp only [du64s_u64s]
  exact monadd_ok z29
/-- May a caveat be? -/
def cavS (c : Cv) : Int := if (c.kind = 4 ∧ c.a ≤ 4611686018427387904) ∨ (c.b = 0 ∧ ((c.kind = 3 ∧ c.a ≤ 4611686018427387904) ∨ (c.kind = 2 ∧ c.a < 65536) ∨ c.kind = 1 ∨ c.kind = 5)) then 0 else 1
theorem mon1 (n : Nat) : monS [n] = if n ≤ 4611686018427387904 then 0 else 1 := by simp [monS]
theorem mon1_0 {n : Nat} : monS [n] = 0 ↔ n ≤ 4611686018427387904 := by rw [mon1]; split <;> simp_all
@[go_sem] def cavcheck_r (c : Cv) : D := .int .i64 (cavS c)
@[go_sem] abbrev n_cavcheck : FuncId := 27
@[go_sem] def cavcheck_T : Tab := [(25, sp_moncheck)]
theorem cavcheck_T_ok : TabOk Try.prog cavcheck_T := (TabOk.cons sp_moncheck_ok TabOk.nil)
set_option maxRecDepth 8000 in
set_option maxHeartbeats 1000000 in
theorem cavcheck_ok (c : Cv)  : PureFn Try.prog 27 [.agg [.c (.int .i64 c.kind), .c (.int .u64 (c.a : Int)), .c (.int .u64 (c.b : Int))]] (cavcheck_r c) := by
  refine .of (ac27 cavcheck_T_ok (Nat.le_of_ble_eq_true rfl) ?_)
  simp -implicitDefEqProofs only [cd_t, cd_f, cd_dec, cd_not, cd_and, cd_or, grd_tt, grd_ff, grd_tf, grd_ft, grd_dt, grd_df, grd_nt, grd_nf, go_sem, Go.Proofs.Try.f27, reduceIte, reduceCtorEq, Nat.reduceEqDiff, Nat.reduceAdd, Nat.reduceLeDiff, Nat.reduceSub, Nat.reduceMul, Nat.reduceLT, Nat.reduceShiftRight, Nat.reduceMod, Int.reduceLE, Int.reduceLT, Int.reduceToNat, decide_true, Bool.and_self, Bool.true_and, Ob.map.injEq, Ob.it.injEq, List.cons.injEq, true_and, and_true]
  have e0 : (2 ^ min 16 64 : Int) = 65536 := rfl
  have e1 : 0 < (c.a : Int).fdiv (2 ^ min 16 64) ↔ 65536 ≤ c.a := by
    rw [e0, Int.fdiv_eq_ediv_of_nonneg _ (by decide)]; omega
  rw [e1, mon1]
  unfold cavS
  split <;> split <;> simp <;> omega
def sp_cavcheck : List D → Option (Prop × D × Fr)
  | [.agg [.c (.int .i64 z31), .c (.int .u64 z32), .c (.int .u64 z33)]] => some (z32 = (z32.toNat : Int) ∧ z33 = (z33.toNat : Int), cavcheck_r (⟨z31, z32.toNat, z33.toNat⟩ : Cv), [])
  | _ => none
attribute [go_sem] sp_cavcheck
theorem sp_cavcheck_ok : ∀ rs p r fr, sp_cavcheck rs = some (p, r, fr) → p → FnOk Try.prog 27 rs r fr := by
  intro rs p r fr h hp
  unfold sp_cavcheck at h
  split at h <;> cases h
  obtain ⟨hc0, hc1⟩ := hp
  rename_i z31 z32 z33
  obtain ⟨z32, rfl⟩ : ∃ m : Nat, z32 = m := ⟨_, hc0⟩
  obtain ⟨z33, rfl⟩ : ∃ m : Nat, z33 = m := ⟨_, hc1⟩
  simp only [Int.toNat_natCast]
  exact cavcheck_ok ⟨z31, z32, z33⟩
end Dm
namespace Dm
open Go Go.Proofs Go.IntWalk
/-- What a caveat makes of the caps. -/
def capF (m : List (Nat × Int)) (c : Cv) : List (Nat × Int) := if c.kind = 4 then (match nlk c.b m with
  | some n => if (c.a : Int) < n then nset c.b c.a m else m
  | none => nset c.b c.a m) else m
def capS (l : List Cv) : List (Nat × Int) × Int := if l.length ≤ 16 ∧ l.all (fun c => decide (cavS c = 0)) = true then (l.foldl capF [], 0) else ([], 1)
theorem cavS_1 {c : Cv} (h : ¬ cavS c = 0) : cavS c = 1 := by unfold cavS at *; split <;> simp_all
@[go_sem] def caps_r (l : List Cv) : D := .tup [.c (.map [.int .u64] (kvF .u64 .u64 (capS l).1)), .int .i64 (capS l).2]
@[go_sem] abbrev n_caps : FuncId := 14
@[go_sem] def caps_T : Tab := [(27, sp_cavcheck)]
theorem caps_T_ok : TabOk Try.prog caps_T := (TabOk.cons sp_cavcheck_ok TabOk.nil)
set_option maxRecDepth 8000 in
set_option maxHeartbeats 1000000 in
theorem caps_ok (l : List Cv)  : PureFn Try.prog 14 [.sl (cvs l)] (caps_r l) := by
  refine .of (ac14 caps_T_ok (Nat.le_of_ble_eq_true rfl) ?_)
  simp -implicitDefEqProofs only [cd_t, cd_f, cd_dec, cd_not, cd_and, cd_or, grd_tt, grd_ff, grd_tf, grd_ft, grd_dt, grd_df, grd_nt, grd_nf, go_sem, Go.Proofs.Try.f14, reduceIte, reduceCtorEq, Nat.reduceEqDiff, Nat.reduceAdd, Nat.reduceLeDiff, Nat.reduceSub, Nat.reduceMul, Nat.reduceLT, Nat.reduceShiftRight, Nat.reduceMod, Int.reduceLE, Int.reduceLT, Int.reduceToNat, decide_true, Bool.and_self, Bool.true_and, Ob.map.injEq, Ob.it.injEq, List.cons.injEq, true_and, and_true]
  refine fun hl => ⟨fun h1 => ?_, fun h1 _ => ?_⟩
  · rw [capS, if_neg (by omega)]; exact ⟨rfl, rfl⟩
  · refine SWp.loop (ι := { i : Nat // i ≤ l.length ∧ ∀ j, j < i → cavS (l.getD j default) = 0 }) (fun i => ⟨[(4, .mp 0), (14, .sl (cvs l)), (15, .int .i64 l.length), (16, .int .i64 i.1)], [(0, .map [.int .u64] (kvN .u64 .u64 ((l.take i.1).foldl capF [])))], 1⟩) (fun i => l.length - i.1) ⟨0, by simp⟩ ?_ ?_
    · simp [go_sem]; rfl
    · rintro ⟨i, hi, hall⟩
      refine awp_sound caps_T_ok.toS lv14 _ _ _ rfl ?_
      simp -implicitDefEqProofs only [cd_t, cd_f, cd_dec, cd_not, cd_and, cd_or, grd_tt, grd_ff, grd_tf, grd_ft, grd_dt, grd_df, grd_nt, grd_nf, go_sem, reduceIte, reduceCtorEq, Nat.reduceEqDiff, Nat.reduceAdd, Nat.reduceLeDiff, Nat.reduceSub, Nat.reduceMul, Nat.reduceLT, Nat.reduceShiftRight, Nat.reduceMod, Int.reduceLE, Int.reduceLT, Int.reduceToNat, decide_true, Bool.and_self, Bool.true_and, Ob.map.injEq, Ob.it.injEq, List.cons.injEq, true_and, and_true]
      refine ⟨fun h => ⟨by omega, fun hc => ?_, fun hc => ?_⟩, fun h => ?_⟩
      · have hi' : i < l.length := by omega
        have hs : (l.take (i + 1)).foldl capF [] = capF ((l.take i).foldl capF []) (l.getD i default) := by rw [take_succ hi', List.foldl_append]; rfl
        have hn : ∀ m, m = (l.take (i + 1)).foldl capF [] → ∃ i_1 : { i : Nat // i ≤ l.length ∧ ∀ j, j < i → cavS (l.getD j default) = 0 }, l.length - i_1.val < l.length - i ∧ IntKind.i64.wrap (↑i + 1) = ↑i_1.val ∧ kvN .u64 .u64 m = kvN .u64 .u64 ((l.take i_1.val).foldl capF []) := fun m hm =>
          ⟨⟨i + 1, hi', fun j hj => by
            by_cases hji : j = i
            · subst hji; exact hc
            · exact hall j (by omega)⟩, by dsimp only; omega, i64_in _ (by omega), congrArg _ hm⟩
        rw [capF] at hs
        refine ⟨fun h4 => ⟨fun a ha => ⟨fun h5 => hn _ ?_, fun h5 => hn _ ?_⟩, fun ha => hn _ ?_⟩, fun h4 => hn _ ?_⟩
        · rw [hs, if_pos h4, ha]; exact (if_pos h5).symm
        · rw [hs, if_pos h4, ha]; exact (if_neg h5).symm
        · rw [hs, if_pos h4, ha]
        · rw [hs, if_neg h4]
      · have hb : capS l = ([], 1) := by
          rw [capS, if_neg]
          rintro ⟨_, h2⟩
          have := List.all_eq_true.1 h2 _ (mem_getD.2 ⟨i, by omega, rfl⟩)
          exact hc (by simpa using this)
        rw [hb]; exact ⟨rfl, cavS_1 hc⟩
      · have hi' : i = l.length := by omega
        subst hi'
        have hb : capS l = (l.foldl capF [], 0) := by
          rw [capS, if_pos]
          refine ⟨by omega, List.all_eq_true.2 fun x hx => ?_⟩
          obtain ⟨j, hj, rfl⟩ := mem_getD.1 hx
          simpa using hall j hj
        rw [hb, List.take_length]
        exact ⟨⟨_, _, rfl, kvC_kvN, .refl _⟩, rfl⟩
def sp_caps : List D → Option (Prop × D × Fr)
  | [.c (.sl z34)] => some (z34 = cvs (dcvs z34), caps_r (dcvs z34), [])
  | _ => none
attribute [go_sem] sp_caps
theorem sp_caps_ok : ∀ rs p r fr, sp_caps rs = some (p, r, fr) → p → FnOk Try.prog 14 rs r fr := by
  intro rs p r fr h hp
  unfold sp_caps at h
  split at h <;> cases h
  have hc0 := hp
  rename_i z34
  obtain ⟨z34, rfl⟩ : ∃ m, z34 = cvs m := ⟨_, hc0⟩
  simp only [dcvs_cvs]
  exact caps_ok z34
/-- May counts be? -/
def OkC (l : List Ct) : Prop := Srt.Chn Ct.key ltC l ∧ ∀ c ∈ l, ¬ c.n = 0 ∧ c.n ≤ 4611686018427387904
instance (l : List Ct) : Decidable (OkC l) := by unfold OkC; infer_instance
def chkC (l : List Ct) : Int := if l.length ≤ 128 ∧ OkC l then 0 else 1
@[go_sem] def scheck_r (l : List Ct) : D := .int .i64 (chkC l)
@[go_sem] abbrev n_scheck : FuncId := 11
@[go_sem] def scheck_T : Tab := [(25, sp_moncheck), (26, sp_corder)]
theorem scheck_T_ok : TabOk Try.prog scheck_T := (TabOk.cons sp_moncheck_ok (TabOk.cons sp_corder_ok TabOk.nil))
set_option maxRecDepth 8000 in
set_option maxHeartbeats 1000000 in
theorem scheck_ok (l : List Ct)  : PureFn Try.prog 11 [.sl (cts l)] (scheck_r l) := by
  refine .of (ac11 scheck_T_ok (Nat.le_of_ble_eq_true rfl) ?_)
  simp -implicitDefEqProofs only [cd_t, cd_f, cd_dec, cd_not, cd_and, cd_or, grd_tt, grd_ff, grd_tf, grd_ft, grd_dt, grd_df, grd_nt, grd_nf, go_sem, Go.Proofs.Try.f11, reduceIte, reduceCtorEq, Nat.reduceEqDiff, Nat.reduceAdd, Nat.reduceLeDiff, Nat.reduceSub, Nat.reduceMul, Nat.reduceLT, Nat.reduceShiftRight, Nat.reduceMod, Int.reduceLE, Int.reduceLT, Int.reduceToNat, decide_true, Bool.and_self, Bool.true_and, Ob.map.injEq, Ob.it.injEq, List.cons.injEq, true_and, and_true]
  refine fun hl => ⟨fun h1 => ?_, fun h1 _ => ?_⟩
  · rw [chkC, if_neg (by omega)]
  · refine SWp.loop (ι := { i : Nat // i ≤ l.length ∧ ∀ j, j < i → (0 < j → ltC (l.getD (j - 1) default).key (l.getD j default).key) ∧ ¬ (l.getD j default).n = 0 ∧ (l.getD j default).n ≤ 4611686018427387904 }) (fun i => ⟨[(0, .sl (cts l)), (8, .sl (cts l)), (9, .int .i64 l.length), (10, .int .i64 i.1)], [], 0⟩) (fun i => l.length - i.1) ⟨0, by simp⟩ ?_ ?_
    · simp [go_sem]
    · rintro ⟨i, hi, hall⟩
      refine awp_sound scheck_T_ok.toS lv11 _ _ _ rfl ?_
      simp -implicitDefEqProofs only [cd_t, cd_f, cd_dec, cd_not, cd_and, cd_or, grd_tt, grd_ff, grd_tf, grd_ft, grd_dt, grd_df, grd_nt, grd_nf, go_sem, reduceIte, reduceCtorEq, Nat.reduceEqDiff, Nat.reduceAdd, Nat.reduceLeDiff, Nat.reduceSub, Nat.reduceMul, Nat.reduceLT, Nat.reduceShiftRight, Nat.reduceMod, Int.reduceLE, Int.reduceLT, Int.reduceToNat, decide_true, Bool.and_self, Bool.true_and, Ob.map.injEq, Ob.it.injEq, List.cons.injEq, true_and, and_true]
      refine ⟨fun h => ⟨by omega, ?_⟩, fun h => ?_⟩
      · have hi' : i < l.length := by omega
        refine ADraw.run us11_6 scheck_T_ok follows_mixed (by kernel_rfl) (by kernel_rfl) ?_
        simp -implicitDefEqProofs only [cd_t, cd_f, cd_dec, cd_not, cd_and, cd_or, grd_tt, grd_ff, grd_tf, grd_ft, grd_dt, grd_df, grd_nt, grd_nf, go_sem, reduceIte, reduceCtorEq, Nat.reduceEqDiff, Nat.reduceAdd, Nat.reduceLeDiff, Nat.reduceSub, Nat.reduceMul, Nat.reduceLT, Nat.reduceShiftRight, Nat.reduceMod, Int.reduceLE, Int.reduceLT, Int.reduceToNat, decide_true, Bool.and_self, Bool.true_and, Ob.map.injEq, Ob.it.injEq, List.cons.injEq, true_and, and_true]
        have hbad : ¬ ((0 < i → ltC (l.getD (i - 1) default).key (l.getD i default).key) ∧ ¬ (l.getD i default).n = 0 ∧ (l.getD i default).n ≤ 4611686018427387904) → 1 = chkC l := fun hb => by
          rw [chkC, if_neg]
          rintro ⟨_, h2, h3⟩
          exact hb ⟨fun h0 => h2 i hi' h0, h3 _ (mem_getD.2 ⟨i, hi', rfl⟩)⟩
        have hnext : (0 < i → ltC (l.getD (i - 1) default).key (l.getD i default).key) → ¬ (l.getD i default).n = 0 ∧ (l.getD i default).n ≤ 4611686018427387904 → ∃ i_1 : { i : Nat // i ≤ l.length ∧ ∀ j, j < i → (0 < j → ltC (l.getD (j - 1) default).key (l.getD j default).key) ∧ ¬ (l.getD j default).n = 0 ∧ (l.getD j default).n ≤ 4611686018427387904 }, l.length - i_1.val < l.length - i ∧ IntKind.i64.wrap (↑i + 1) = ↑i_1.val := fun ha hb =>
          ⟨⟨i + 1, hi', fun j hj => by
            by_cases hji : j = i
            · subst hji; exact ⟨ha, hb⟩
            · exact hall j (by omega)⟩, by dsimp only; omega, i64_in _ (by omega)⟩
        rw [mon1_0]
        have ho : ∀ a b, 0 ≤ ordC a b ↔ ¬ ltC a.key b.key := fun a b => by rw [← ordC_neg]; omega
        simp only [ho, Classical.not_not]
        refine ⟨fun h2 => ⟨fun h3 => ⟨fun h4 => ?_, fun h4 => hnext (fun h => absurd h (by omega)) ⟨by omega, h3⟩⟩, fun h3 => hbad fun h => h3 h.2.2⟩, fun h2 => hbad fun h => h.2.1 (by omega)⟩
        rw [i64_in _ (by omega), show ((i : Int) - 1).toNat = i - 1 by omega]
        exact ⟨by omega, fun h5 => hbad fun h => h5 (h.1 (by omega)), fun h5 => hnext (fun _ => h5) ⟨by omega, h3⟩⟩
      · have hi' : i = l.length := by omega
        subst hi'
        rw [chkC, if_pos]
        refine ⟨by omega, fun j hj h0 => (hall j hj).1 h0, fun c hc => ?_⟩
        obtain ⟨j, hj, rfl⟩ := mem_getD.1 hc
        exact (hall j hj).2
def sp_scheck : List D → Option (Prop × D × Fr)
  | [.c (.sl z35)] => some (z35 = cts (dcts z35), scheck_r (dcts z35), [])
  | _ => none
attribute [go_sem] sp_scheck
theorem sp_scheck_ok : ∀ rs p r fr, sp_scheck rs = some (p, r, fr) → p → FnOk Try.prog 11 rs r fr := by
  intro rs p r fr h hp
  unfold sp_scheck at h
  split at h <;> cases h
  have hc0 := hp
  rename_i z35
  obtain ⟨z35, rfl⟩ : ∃ m, z35 = cts m := ⟨_, hc0⟩
  simp only [dcts_cts]
  exact scheck_ok z35
@[go_sem] def spent_r (l : List Ct) (root : Nat) (b : Nat) : D := .tup [.int .u64 (((Srt.fnd Ct.key l (root, b)).map Ct.n).getD 0 : Nat), .int .i64 (Srt.pos Ct.key ltC l (root, b) : Nat), .bool (Srt.thr Ct.key ltC l (root, b))]
@[go_sem] abbrev n_spent : FuncId := 23
@[go_sem] def spent_T : Tab := [(26, sp_corder)]
theorem spent_T_ok : TabOk Try.prog spent_T := (TabOk.cons sp_corder_ok TabOk.nil)
set_option maxRecDepth 8000 in
set_option maxHeartbeats 1000000 in
theorem spent_ok (l : List Ct) (root : Nat) (b : Nat) (h : Srt.Up Ct.key ltC l) : PureFn Try.prog 23 [.sl (cts l), .c (.int .u64 (root : Int)), .c (.int .u64 (b : Int))] (spent_r l root b) := by
  refine .of (ac23 spent_T_ok (Nat.le_of_ble_eq_true rfl) ?_)
  simp -implicitDefEqProofs only [cd_t, cd_f, cd_dec, cd_not, cd_and, cd_or, grd_tt, grd_ff, grd_tf, grd_ft, grd_dt, grd_df, grd_nt, grd_nf, go_sem, Go.Proofs.Try.f23, reduceIte, reduceCtorEq, Nat.reduceEqDiff, Nat.reduceAdd, Nat.reduceLeDiff, Nat.reduceSub, Nat.reduceMul, Nat.reduceLT, Nat.reduceShiftRight, Nat.reduceMod, Int.reduceLE, Int.reduceLT, Int.reduceToNat, decide_true, Bool.and_self, Bool.true_and, Ob.map.injEq, Ob.it.injEq, List.cons.injEq, true_and, and_true]
  refine ac35 spent_T_ok (Nat.le_of_ble_eq_true rfl) ?_
  simp -implicitDefEqProofs only [cd_t, cd_f, cd_dec, cd_not, cd_and, cd_or, grd_tt, grd_ff, grd_tf, grd_ft, grd_dt, grd_df, grd_nt, grd_nf, go_sem, Go.Proofs.Try.f35, reduceIte, reduceCtorEq, Nat.reduceEqDiff, Nat.reduceAdd, Nat.reduceLeDiff, Nat.reduceSub, Nat.reduceMul, Nat.reduceLT, Nat.reduceShiftRight, Nat.reduceMod, Int.reduceLE, Int.reduceLT, Int.reduceToNat, decide_true, Bool.and_self, Bool.true_and, Ob.map.injEq, Ob.it.injEq, List.cons.injEq, true_and, and_true]
  refine fun _ => SWp.loop (ι := { x : Nat × Nat // x.1 ≤ x.2 ∧ x.2 ≤ l.length ∧ (∀ k, k < x.1 → ltC (l.getD k default).key (root, b)) ∧ ∀ k, x.2 ≤ k → k < l.length → ¬ ltC (l.getD k default).key (root, b) }) (fun x => ⟨[(0, .sl (cts l)), (2, .fn (.func 26) [] []), (4, .ref 0 0), (8, .int .i64 l.length), (9, .int .i64 x.1.1), (10, .int .i64 x.1.2)], [(0, .box [.int .u64 root, .int .u64 b, .int .u64 0])], 1⟩) (fun x => x.1.2 - x.1.1) ⟨(0, l.length), by simp, by simp, fun k hk => absurd hk (by simp), fun k h1 h2 => absurd h1 (by simpa using h2)⟩ ?_ ?_
  · simp [go_sem]
  · rintro ⟨⟨i, j⟩, hij, hj, hlo, hup⟩
    dsimp only at hij hj hlo hup
    refine awp_sound spent_T_ok.toS lv35 _ _ _ rfl ?_
    simp -implicitDefEqProofs only [cd_t, cd_f, cd_dec, cd_not, cd_and, cd_or, grd_tt, grd_ff, grd_tf, grd_ft, grd_dt, grd_df, grd_nt, grd_nf, go_sem, reduceIte, reduceCtorEq, Nat.reduceEqDiff, Nat.reduceAdd, Nat.reduceLeDiff, Nat.reduceSub, Nat.reduceMul, Nat.reduceLT, Nat.reduceShiftRight, Nat.reduceMod, Int.reduceLE, Int.reduceLT, Int.reduceToNat, decide_true, Bool.and_self, Bool.true_and, Ob.map.injEq, Ob.it.injEq, List.cons.injEq, true_and, and_true]
    rw [mid_eq hij hj ‹_›]
    refine ⟨fun h4 => ?_, fun h4 => ?_⟩
    · have hm : (i + j) / 2 < l.length := by omega
      refine ADraw.run us35_5 spent_T_ok follows_mixed (by kernel_rfl) (by kernel_rfl) ?_
      simp -implicitDefEqProofs only [cd_t, cd_f, cd_dec, cd_not, cd_and, cd_or, grd_tt, grd_ff, grd_tf, grd_ft, grd_dt, grd_df, grd_nt, grd_nf, go_sem, reduceIte, reduceCtorEq, Nat.reduceEqDiff, Nat.reduceAdd, Nat.reduceLeDiff, Nat.reduceSub, Nat.reduceMul, Nat.reduceLT, Nat.reduceShiftRight, Nat.reduceMod, Int.reduceLE, Int.reduceLT, Int.reduceToNat, decide_true, Bool.and_self, Bool.true_and, Ob.map.injEq, Ob.it.injEq, List.cons.injEq, true_and, and_true]
      rw [ordC_neg]
      refine ⟨by omega, fun h5 => ⟨⟨((i + j) / 2 + 1, j), by dsimp only; omega, hj, fun k hk => ?_, hup⟩, by dsimp only; omega, i64_in _ (by omega), rfl⟩, fun h5 => ⟨⟨(i, (i + j) / 2), by dsimp only; omega, by dsimp only; omega, hlo, fun k hk1 hk2 => ?_⟩, by dsimp only; omega, rfl, rfl⟩⟩
      · dsimp only at hk
        by_cases hkm : k = (i + j) / 2
        · rw [hkm]; exact h5
        · exact totC.tr (Srt.up_get.1 h k _ (by omega) hm) h5
      · dsimp only at hk1
        by_cases hkm : k = (i + j) / 2
        · rw [hkm]; exact h5
        · exact fun h6 => h5 (totC.tr (Srt.up_get.1 h _ k (by omega) hk2) h6)
    · refine ADraw.run us35_8 spent_T_ok follows_mixed (by kernel_rfl) (by kernel_rfl) ?_
      simp -implicitDefEqProofs only [cd_t, cd_f, cd_dec, cd_not, cd_and, cd_or, grd_tt, grd_ff, grd_tf, grd_ft, grd_dt, grd_df, grd_nt, grd_nf, go_sem, reduceIte, reduceCtorEq, Nat.reduceEqDiff, Nat.reduceAdd, Nat.reduceLeDiff, Nat.reduceSub, Nat.reduceMul, Nat.reduceLT, Nat.reduceShiftRight, Nat.reduceMod, Int.reduceLE, Int.reduceLT, Int.reduceToNat, decide_true, Bool.and_self, Bool.true_and, Ob.map.injEq, Ob.it.injEq, List.cons.injEq, true_and, and_true]
      have hp : Srt.pos Ct.key ltC l (root, b) = i := Srt.pos_eq (by omega) hlo (fun h => hup i (by omega) h)
      rw [Srt.fnd_thr totC h, Srt.thr, hp, ordC_0]
      refine ⟨fun h5 => ⟨by omega, fun h6 => ⟨by omega, ?_⟩, fun h6 => ?_⟩, fun h5 => ?_⟩
      · have h7 : i < l.length ∧ (l.getD i default).key = (root, b) := ⟨by omega, h6⟩
        rw [decide_eq_true h7]; exact ⟨rfl, rfl, rfl⟩
      · have h7 : ¬ (i < l.length ∧ (l.getD i default).key = (root, b)) := fun h => h6 h.2
        rw [decide_eq_false h7]; exact ⟨rfl, rfl, rfl⟩
      · have h7 : ¬ (i < l.length ∧ (l.getD i default).key = (root, b)) := fun h => by omega
        rw [decide_eq_false h7]; exact ⟨rfl, rfl, rfl⟩
@[go_sem] def spent_p (l : List Ct) (root : Nat) (b : Nat) : Prop := (Srt.Up Ct.key ltC l)
def sp_spent : List D → Option (Prop × D × Fr)
  | [.c (.sl z36), .c (.int .u64 z37), .c (.int .u64 z38)] => some (z36 = cts (dcts z36) ∧ z37 = (z37.toNat : Int) ∧ z38 = (z38.toNat : Int) ∧ spent_p (dcts z36) z37.toNat z38.toNat, spent_r (dcts z36) z37.toNat z38.toNat, [])
  | _ => none
attribute [go_sem] sp_spent
theorem sp_spent_ok : ∀ rs p r fr, sp_spent rs = some (p, r, fr) → p → FnOk Try.prog 23 rs r fr := by
  intro rs p r fr h hp
  unfold sp_spent at h
  split at h <;> cases h
  obtain ⟨hc0, hc1, hc2, hp⟩ := hp
  rename_i z36 z37 z38
  obtain ⟨z36, rfl⟩ : ∃ m, z36 = cts m := ⟨_, hc0⟩
  obtain ⟨z37, rfl⟩ : ∃ m : Nat, z37 = m := ⟨_, hc1⟩
  obtain ⟨z38, rfl⟩ : ∃ m : Nat, z38 = m := ⟨_, hc2⟩
  simp only [Int.toNat_natCast, dcts_cts]
  simp only [Int.toNat_natCast, dcts_cts, spent_p] at hp
  exact spent_ok z36 z37 z38 hp
@[go_sem] def clone_r (l : List Ct) : D := .vec 0 l.length
@[go_sem] def clone_fr (l : List Ct) : Fr := [(3, 48, true, cts l)]
@[go_sem] abbrev n_clone : FuncId := 22
@[go_sem] def clone_T : Tab := []
theorem clone_T_ok : TabOk Try.prog clone_T := TabOk.nil
set_option maxRecDepth 8000 in
set_option maxHeartbeats 1000000 in
theorem clone_ok (l : List Ct) (hl : l.length ≤ 1000000) : FreshFn Try.prog 22 [.sl (cts l)] (clone_r l) (clone_fr l) := by
  refine .of (ac22 clone_T_ok (Nat.le_of_ble_eq_true rfl) ?_)
  simp -implicitDefEqProofs only [cd_t, cd_f, cd_dec, cd_not, cd_and, cd_or, grd_tt, grd_ff, grd_tf, grd_ft, grd_dt, grd_df, grd_nt, grd_nf, go_sem, Go.Proofs.Try.f22, reduceIte, reduceCtorEq, Nat.reduceEqDiff, Nat.reduceAdd, Nat.reduceLeDiff, Nat.reduceSub, Nat.reduceMul, Nat.reduceLT, Nat.reduceShiftRight, Nat.reduceMod, Int.reduceLE, Int.reduceLT, Int.reduceToNat, decide_true, Bool.and_self, Bool.true_and, Ob.map.injEq, Ob.it.injEq, List.cons.injEq, true_and, and_true]
  refine fun b hb => ⟨fun h => ?_, fun h => ?_⟩
  · exact ⟨[none], by simp [go_sem, hb h], by cases l <;> simp_all [go_sem, cts]⟩
  · exact ⟨by omega, [some 0], by simp [go_sem]⟩
@[go_sem] def clone_p (l : List Ct) : Prop := (l.length ≤ 1000000)
def sp_clone : List D → Option (Prop × D × Fr)
  | [.c (.sl z39)] => some (z39 = cts (dcts z39) ∧ clone_p (dcts z39), clone_r (dcts z39), clone_fr (dcts z39))
  | _ => none
attribute [go_sem] sp_clone
theorem sp_clone_ok : ∀ rs p r fr, sp_clone rs = some (p, r, fr) → p → FnOk Try.prog 22 rs r fr := by
  intro rs p r fr h hp
  unfold sp_clone at h
  split at h <;> cases h
  obtain ⟨hc0, hp⟩ := hp
  rename_i z39
  obtain ⟨z39, rfl⟩ : ∃ m, z39 = cts m := ⟨_, hc0⟩
  simp only [dcts_cts]
  simp only [dcts_cts, clone_p] at hp
  exact (show FnOk _ _ _ _ _ from And.intro rfl (clone_ok z39 hp))
end Dm
namespace Dm
open Go Go.Proofs Go.IntWalk
theorem chkC_0 {l : List Ct} (h : chkC l = 0) : l.length ≤ 128 ∧ Srt.Up Ct.key ltC l ∧ ∀ c ∈ l, ¬ c.n = 0 ∧ c.n ≤ 4611686018427387904 := by
  unfold chkC at h
  split at h
  · rename_i h1; exact ⟨h1.1, (Srt.chn_up totC).1 h1.2.1, h1.2.2⟩
  · cases h
theorem chkC_1 {l : List Ct} (h : ¬ chkC l = 0) : chkC l = 1 := by unfold chkC at *; split <;> simp_all
theorem chkC_of {l : List Ct} (h1 : l.length ≤ 128) (h2 : Srt.Up Ct.key ltC l) (h3 : ∀ c ∈ l, ¬ c.n = 0 ∧ c.n ≤ 4611686018427387904) : chkC l = 0 := by
  rw [chkC, if_pos ⟨h1, (Srt.chn_up totC).2 h2, h3⟩]
/-- How much was spent. -/
def was (l : List Ct) (root b : Nat) : Nat := ((Srt.fnd Ct.key l (root, b)).map Ct.n).getD 0
def spentS (l : List Ct) (root b : Nat) : Nat × Int := if chkC l = 0 then (was l root b, 0) else (0, 1)
@[go_sem] def Spent_r (l : List Ct) (root : Nat) (b : Nat) : D := .tup [.int .u64 ((spentS l root b).1 : Int), .int .i64 (spentS l root b).2]
@[go_sem] abbrev n_Spent : FuncId := 10
@[go_sem] def Spent_T : Tab := [(11, sp_scheck), (23, sp_spent)]
theorem Spent_T_ok : TabOk Try.prog Spent_T := (TabOk.cons sp_scheck_ok (TabOk.cons sp_spent_ok TabOk.nil))
set_option maxRecDepth 8000 in
set_option maxHeartbeats 1000000 in
theorem Spent_ok (l : List Ct) (root : Nat) (b : Nat)  : PureFn Try.prog 10 [.sl (cts l), .c (.int .u64 (root : Int)), .c (.int .u64 (b : Int))] (Spent_r l root b) := by
  refine .of (ac10 Spent_T_ok (Nat.le_of_ble_eq_true rfl) ?_)
  simp -implicitDefEqProofs only [cd_t, cd_f, cd_dec, cd_not, cd_and, cd_or, grd_tt, grd_ff, grd_tf, grd_ft, grd_dt, grd_df, grd_nt, grd_nf, go_sem, Go.Proofs.Try.f10, reduceIte, reduceCtorEq, Nat.reduceEqDiff, Nat.reduceAdd, Nat.reduceLeDiff, Nat.reduceSub, Nat.reduceMul, Nat.reduceLT, Nat.reduceShiftRight, Nat.reduceMod, Int.reduceLE, Int.reduceLT, Int.reduceToNat, decide_true, Bool.and_self, Bool.true_and, Ob.map.injEq, Ob.it.injEq, List.cons.injEq, true_and, and_true]
  refine ⟨fun h => ⟨(chkC_0 h).2.1, ?_⟩, fun h => ?_⟩
  · rw [spentS, if_pos h]; exact ⟨rfl, rfl⟩
  · rw [spentS, if_neg h]; exact ⟨rfl, chkC_1 h⟩
def sp_Spent : List D → Option (Prop × D × Fr)
  | [.c (.sl z40), .c (.int .u64 z41), .c (.int .u64 z42)] => some (z40 = cts (dcts z40) ∧ z41 = (z41.toNat : Int) ∧ z42 = (z42.toNat : Int), Spent_r (dcts z40) z41.toNat z42.toNat, [])
  | _ => none
attribute [go_sem] sp_Spent
theorem sp_Spent_ok : ∀ rs p r fr, sp_Spent rs = some (p, r, fr) → p → FnOk Try.prog 10 rs r fr := by
  intro rs p r fr h hp
  unfold sp_Spent at h
  split at h <;> cases h
  obtain ⟨hc0, hc1, hc2⟩ := hp
  rename_i z40 z41 z42
  obtain ⟨z40, rfl⟩ : ∃ m, z40 = cts m := ⟨_, hc0⟩
  obtain ⟨z41, rfl⟩ : ∃ m : Nat, z41 = m := ⟨_, hc1⟩
  obtain ⟨z42, rfl⟩ : ∃ m : Nat, z42 = m := ⟨_, hc2⟩
  simp only [Int.toNat_natCast, dcts_cts]
  exact Spent_ok z40 z41 z42
/-- What would have been spent by each count. -/
def sumsS (l : List Ct) (root : Nat) (cav : List Cv) (n : Nat) : List (Nat × Int) × Int :=
  if (capS cav).2 = 0 ∧ chkC l = 0 ∧ n ≤ 4611686018427387904 then
    (if (capS cav).1.all (fun x => decide ((was l root x.1 : Int) + n ≤ 4611686018427387904 ∧ (was l root x.1 : Int) + n ≤ x.2)) = true then ((capS cav).1.map fun x => (x.1, (was l root x.1 : Int) + n), 0) else ([], 8))
  else ([], 1)
theorem cap_nd (l : List Cv) : ((capS l).1.map (·.1)).Nodup := by
  have : ∀ (l : List Cv) (m : List (Nat × Int)), (m.map (·.1)).Nodup → ((l.foldl capF m).map (·.1)).Nodup := by
    intro l
    induction l with
    | nil => exact fun m h => h
    | cons c l ih =>
      intro m h
      refine ih _ ?_
      unfold capF
      split
      · split
        · split
          · exact nset_nd h
          · exact h
        · exact nset_nd h
      · exact h
  unfold capS
  split
  · exact this l [] (by simp)
  · simp
theorem addM2 {a b : Nat} (ha : a ≤ 4611686018427387904) (hb : b ≤ 4611686018427387904) : addM [a, b] = if a + b ≤ 4611686018427387904 then (a + b, 0) else (0, 8) := by
  have : monS [a, b] = 0 := by simp [monS, ha, hb]
  have e : [a, b].sum = a + b := by simp
  rw [addM, if_pos this, e]
theorem was_le {l : List Ct} (h : chkC l = 0) (root b : Nat) : was l root b ≤ 4611686018427387904 := by
  unfold was
  cases hf : Srt.fnd Ct.key l (root, b) with
  | none => simp
  | some c => exact ((chkC_0 h).2.2 c ((Srt.fnd_some totC (chkC_0 h).2.1).1 hf).1).2
@[go_sem] def sums_r (l : List Ct) (root : Nat) (cav : List Cv) (n : Nat) : D := .tup [.c (.map [.int .u64] (kvF .u64 .u64 (sumsS l root cav n).1)), .int .i64 (sumsS l root cav n).2]
@[go_sem] abbrev n_sums : FuncId := 21
@[go_sem] def sums_T : Tab := [(14, sp_caps), (11, sp_scheck), (25, sp_moncheck), (23, sp_spent), (34, sp_monadd)]
theorem sums_T_ok : TabOk Try.prog sums_T := (TabOk.cons sp_caps_ok (TabOk.cons sp_scheck_ok (TabOk.cons sp_moncheck_ok (TabOk.cons sp_spent_ok (TabOk.cons sp_monadd_ok TabOk.nil)))))
set_option maxRecDepth 8000 in
set_option maxHeartbeats 1000000 in
theorem sums_ok (l : List Ct) (root : Nat) (cav : List Cv) (n : Nat)  : PureFn Try.prog 21 [.sl (cts l), .c (.int .u64 (root : Int)), .sl (cvs cav), .c (.int .u64 (n : Int))] (sums_r l root cav n) := by
  refine .of (ac21 sums_T_ok (Nat.le_of_ble_eq_true rfl) ?_)
  simp -implicitDefEqProofs only [cd_t, cd_f, cd_dec, cd_not, cd_and, cd_or, grd_tt, grd_ff, grd_tf, grd_ft, grd_dt, grd_df, grd_nt, grd_nf, go_sem, Go.Proofs.Try.f21, reduceIte, reduceCtorEq, Nat.reduceEqDiff, Nat.reduceAdd, Nat.reduceLeDiff, Nat.reduceSub, Nat.reduceMul, Nat.reduceLT, Nat.reduceShiftRight, Nat.reduceMod, Int.reduceLE, Int.reduceLT, Int.reduceToNat, decide_true, Bool.and_self, Bool.true_and, Ob.map.injEq, Ob.it.injEq, List.cons.injEq, true_and, and_true]
  rw [mon1_0]
  refine ⟨fun h1 => ⟨fun h2 => ⟨fun h3 => ?_, fun h3 => ?_⟩, fun h2 => ?_⟩, fun h1 => ?_⟩
  · have hnd := cap_nd cav
    have hs : sumsS l root cav n = if (capS cav).1.all (fun x => decide ((was l root x.1 : Int) + n ≤ 4611686018427387904 ∧ (was l root x.1 : Int) + n ≤ x.2)) = true then ((capS cav).1.map fun x => (x.1, (was l root x.1 : Int) + n), 0) else ([], 8) := by rw [sumsS, if_pos ⟨h1, h2, h3⟩]
    rw [hs]
    generalize (capS cav).1 = m at *
    refine SWp.loop (ι := { sn : List (Nat × Int) // sn.Nodup ∧ (∀ x ∈ sn, x ∈ m) ∧ ∀ x ∈ sn, (was l root x.1 : Int) + n ≤ 4611686018427387904 ∧ (was l root x.1 : Int) + n ≤ x.2 }) (fun sn => ⟨[(0, .sl (cts l)), (1, .int .u64 root), (3, .int .u64 n), (12, .mp 1), (40, .ref 2 0)],
      [(2, .it (kvF .u64 .u64 m) (kvF .u64 .u64 sn.1)), (1, .map [.int .u64] (kvN .u64 .u64 (sn.1.map fun x => (x.1, (was l root x.1 : Int) + n))))], 3⟩) (fun sn => m.length - sn.1.length) ⟨[], by simp⟩ ?_ ?_
    · simp [go_sem]; exact ⟨rfl, rfl⟩
    · rintro ⟨sn, hsn, hsm, hok⟩
      refine awp_sound sums_T_ok.toS lv21 _ _ _ rfl ?_
      simp -implicitDefEqProofs only [cd_t, cd_f, cd_dec, cd_not, cd_and, cd_or, grd_tt, grd_ff, grd_tf, grd_ft, grd_dt, grd_df, grd_nt, grd_nf, go_sem, reduceIte, reduceCtorEq, Nat.reduceEqDiff, Nat.reduceAdd, Nat.reduceLeDiff, Nat.reduceSub, Nat.reduceMul, Nat.reduceLT, Nat.reduceShiftRight, Nat.reduceMod, Int.reduceLE, Int.reduceLT, Int.reduceToNat, decide_true, Bool.and_self, Bool.true_and, Ob.map.injEq, Ob.it.injEq, List.cons.injEq, true_and, and_true]
      have hfail : ∀ a b, (a, b) ∈ m → ¬ ((was l root a : Int) + n ≤ 4611686018427387904 ∧ (was l root a : Int) + n ≤ b) → m.all (fun x => decide ((was l root x.1 : Int) + n ≤ 4611686018427387904 ∧ (was l root x.1 : Int) + n ≤ x.2)) = false := fun a b hab hn => by
        rw [List.all_eq_false]
        exact ⟨_, hab, by simpa using hn⟩
      refine ⟨fun a b hab hns => ⟨(chkC_0 h2).2.1, ?_⟩, fun hall => ?_⟩
      · rw [show ((Srt.fnd Ct.key l (root, a)).map Ct.n).getD 0 = was l root a from rfl, addM2 (was_le h2 root a) h3]
        by_cases h4 : was l root a + n ≤ 4611686018427387904
        · rw [if_pos h4]
          refine ⟨fun _ => ⟨fun h5 => ?_, fun h5 => ?_⟩, fun h => absurd rfl h⟩
          · rw [hfail a b hab (by dsimp only at h5; omega)]; exact ⟨rfl, rfl⟩
          · dsimp only at h5
            refine ⟨⟨sn ++ [(a, b)], nd_add hsn hns, fun x hx => ?_, fun x hx => ?_⟩, ?_, rfl, ?_⟩
            · rcases List.mem_append.1 hx with hx | hx
              · exact hsm x hx
              · simp at hx; subst hx; exact hab
            · rcases List.mem_append.1 hx with hx | hx
              · exact hok x hx
              · simp at hx; subst hx; exact ⟨by dsimp only; omega, by dsimp only; omega⟩
            · have := List.Nodup.length_le_of_subset (nd_add hsn hns) (l₂ := m) (fun x hx => by
                rcases List.mem_append.1 hx with hx | hx
                · exact hsm x hx
                · simp at hx; subst hx; exact hab)
              simp at this ⊢
              omega
            · have hk : a ∉ (sn.map fun x => (x.1, (was l root x.1 : Int) + n)).map (·.1) := by
                rw [List.map_map]; exact nd_key hnd hsm hab hns
              rw [nset_new hk, List.map_append]; simp
        · rw [if_neg h4]
          refine ⟨fun h => absurd h (by decide), fun _ => ?_⟩
          rw [hfail a b hab (by omega)]; exact ⟨rfl, rfl⟩
      · have hp : sn.Perm m := (List.perm_ext_iff_of_nodup hsn (nd_of_keys hnd)).2 fun x => ⟨hsm x, fun hx => hall x.1 x.2 hx⟩
        rw [if_pos (List.all_eq_true.2 fun x hx => by simpa using hok x (hp.mem_iff.2 hx))]
        exact ⟨⟨_, _, rfl, kvC_kvN, kvF_perm (hp.map _)⟩, rfl⟩
  · rw [sumsS, if_neg (fun h => h3 h.2.2)]; exact ⟨rfl, rfl⟩
  · rw [sumsS, if_neg (fun h => h2 h.2.1)]; exact ⟨rfl, rfl⟩
  · rw [sumsS, if_neg (fun h => h1 h.1)]; exact ⟨rfl, rfl⟩
def sp_sums : List D → Option (Prop × D × Fr)
  | [.c (.sl z43), .c (.int .u64 z44), .c (.sl z45), .c (.int .u64 z46)] => some (z43 = cts (dcts z43) ∧ z44 = (z44.toNat : Int) ∧ z45 = cvs (dcvs z45) ∧ z46 = (z46.toNat : Int), sums_r (dcts z43) z44.toNat (dcvs z45) z46.toNat, [])
  | _ => none
attribute [go_sem] sp_sums
theorem sp_sums_ok : ∀ rs p r fr, sp_sums rs = some (p, r, fr) → p → FnOk Try.prog 21 rs r fr := by
  intro rs p r fr h hp
  unfold sp_sums at h
  split at h <;> cases h
  obtain ⟨hc0, hc1, hc2, hc3⟩ := hp
  rename_i z43 z44 z45 z46
  obtain ⟨z43, rfl⟩ : ∃ m, z43 = cts m := ⟨_, hc0⟩
  obtain ⟨z44, rfl⟩ : ∃ m : Nat, z44 = m := ⟨_, hc1⟩
  obtain ⟨z45, rfl⟩ : ∃ m, z45 = cvs m := ⟨_, hc2⟩
  obtain ⟨z46, rfl⟩ : ∃ m : Nat, z46 = m := ⟨_, hc3⟩
  simp only [Int.toNat_natCast, dcts_cts, dcvs_cvs]
  exact sums_ok z43 z44 z45 z46
theorem sums_1 {l : List Ct} {root : Nat} {cav : List Cv} {n : Nat} : (sumsS l root cav n).2 = 0 ∨ (sumsS l root cav n).2 = 1 ∨ (sumsS l root cav n).2 = 8 := by
  unfold sumsS
  split
  · split <;> simp
  · simp
def mayS (l : List Ct) (root : Nat) (cav : List Cv) (n : Nat) : Bool × Int := if (sumsS l root cav n).2 = 8 then (false, 0) else (decide ((sumsS l root cav n).2 = 0), (sumsS l root cav n).2)
@[go_sem] def May_r (l : List Ct) (root : Nat) (cav : List Cv) (n : Nat) : D := .tup [.bool (mayS l root cav n).1, .int .i64 (mayS l root cav n).2]
@[go_sem] abbrev n_May : FuncId := 13
@[go_sem] def May_T : Tab := [(21, sp_sums)]
theorem May_T_ok : TabOk Try.prog May_T := (TabOk.cons sp_sums_ok TabOk.nil)
set_option maxRecDepth 8000 in
set_option maxHeartbeats 1000000 in
theorem May_ok (l : List Ct) (root : Nat) (cav : List Cv) (n : Nat)  : PureFn Try.prog 13 [.sl (cts l), .c (.int .u64 (root : Int)), .sl (cvs cav), .c (.int .u64 (n : Int))] (May_r l root cav n) := by
  refine .of (ac13 May_T_ok (Nat.le_of_ble_eq_true rfl) ?_)
  simp -implicitDefEqProofs only [cd_t, cd_f, cd_dec, cd_not, cd_and, cd_or, grd_tt, grd_ff, grd_tf, grd_ft, grd_dt, grd_df, grd_nt, grd_nf, go_sem, Go.Proofs.Try.f13, reduceIte, reduceCtorEq, Nat.reduceEqDiff, Nat.reduceAdd, Nat.reduceLeDiff, Nat.reduceSub, Nat.reduceMul, Nat.reduceLT, Nat.reduceShiftRight, Nat.reduceMod, Int.reduceLE, Int.reduceLT, Int.reduceToNat, decide_true, Bool.and_self, Bool.true_and, Ob.map.injEq, Ob.it.injEq, List.cons.injEq, true_and, and_true]
  refine ⟨fun h => ?_, fun h => ?_⟩
  · rw [mayS, if_pos h]; exact ⟨rfl, rfl⟩
  · rw [mayS, if_neg h]; exact ⟨rfl, rfl⟩
def sp_May : List D → Option (Prop × D × Fr)
  | [.c (.sl z47), .c (.int .u64 z48), .c (.sl z49), .c (.int .u64 z50)] => some (z47 = cts (dcts z47) ∧ z48 = (z48.toNat : Int) ∧ z49 = cvs (dcvs z49) ∧ z50 = (z50.toNat : Int), May_r (dcts z47) z48.toNat (dcvs z49) z50.toNat, [])
  | _ => none
attribute [go_sem] sp_May
theorem sp_May_ok : ∀ rs p r fr, sp_May rs = some (p, r, fr) → p → FnOk Try.prog 13 rs r fr := by
  intro rs p r fr h hp
  unfold sp_May at h
  split at h <;> cases h
  obtain ⟨hc0, hc1, hc2, hc3⟩ := hp
  rename_i z47 z48 z49 z50
  obtain ⟨z47, rfl⟩ : ∃ m, z47 = cts m := ⟨_, hc0⟩
  obtain ⟨z48, rfl⟩ : ∃ m : Nat, z48 = m := ⟨_, hc1⟩
  obtain ⟨z49, rfl⟩ : ∃ m, z49 = cvs m := ⟨_, hc2⟩
  obtain ⟨z50, rfl⟩ : ∃ m : Nat, z50 = m := ⟨_, hc3⟩
  simp only [Int.toNat_natCast, dcts_cts, dcvs_cvs]
  exact May_ok z47 z48 z49 z50
end Dm
/-! A function that makes a slice of one's own longer, called among other objects. -/
namespace Dm
open Go
section
variable {P : Program} {g g' : G} {w w' : World}
/-- What comes of it: the slice, longer. -/
def Grown (z : Nat) (e : TypeId) (els : List (List C)) (d : D) (os : List (Nat × Ob)) : Prop := ∃ k, d = .vec k els.length ∧ lk k os = some (.vec true z e els)
theorem ACall.grow {f : FuncId} {i j nx m n : Nat} {os : List (Nat × Ob)} {z e : Nat} {h1 h2 : Bool} {A B E : List (List C)} {mid : List D} {Q : D → List (Nat × Ob) → Nat → Prop}
    (h : ACall P f (.vec 0 n :: mid ++ [.vec 1 m]) [(1, .vec h2 z e B), (0, .vec h1 z e A)] 2 fun d os' _ => Grown z e E d os')
    (hi : lk i os = some (.vec h1 z e A)) (hj : lk j os = some (.vec h2 z e B)) (hne : i ≠ j) (hn : A.length < E.length) (hmid : ∀ d ∈ mid, ∀ g g' w v, VRel g w v d → VRel g' w v d)
    (hQ : Q (.vec i E.length) ((i, .vec true z e E) :: rmv os [i, j]) nx) : ACall P f (.vec i n :: mid ++ [.vec j m]) os nx Q := by
  refine ⟨h.1, fun g w vs ho hsz hv => ?_⟩
  have hib := ho.lt hi
  have hjb := ho.lt hj
  let g0 : G := ⟨fun _ => none, fun k => if k = 0 then g.κ i else if k = 1 then g.κ j else none, g.I⟩
  have hoi := ho.ok i _ hi
  have hoj := ho.ok j _ hj
  have hk0 : g0.κ 0 = g.κ i := rfl
  have hk1 : g0.κ 1 = g.κ j := rfl
  have hlk0 : ∀ id o, lk id [(1, Ob.vec h2 z e B), (0, Ob.vec h1 z e A)] = some o → (id = 0 ∧ o = .vec h1 z e A) ∨ (id = 1 ∧ o = .vec h2 z e B) := fun id o h => by
    simp only [lk_cons] at h
    split at h
    · rename_i hid; cases h; exact .inr ⟨hid, rfl⟩
    · split at h
      · rename_i hid; cases h; exact .inl ⟨hid, rfl⟩
      · cases h
  have hb0 : ∀ o : Ob, (∃ hd z e els, o = .vec hd z e els) → g0.blk 0 o = g.blk i o := fun o ⟨hd, z, e, els, ho⟩ => by subst ho; rfl
  have hb1 : ∀ o : Ob, (∃ hd z e els, o = .vec hd z e els) → g0.blk 1 o = g.blk j o := fun o ⟨hd, z, e, els, ho⟩ => by subst ho; rfl
  have hown0 : ∀ b, Own g0 ⟨[], [(1, .vec h2 z e B), (0, .vec h1 z e A)], 2⟩ b → g.blk i (.vec h1 z e A) = some b ∨ g.blk j (.vec h2 z e B) = some b := fun b ⟨id, o, h3, h4⟩ => by
    rcases hlk0 id o h3 with ⟨rfl, rfl⟩ | ⟨rfl, rfl⟩
    · exact .inl h4
    · exact .inr h4
  have hownG : ∀ b, Own g0 ⟨[], [(1, .vec h2 z e B), (0, .vec h1 z e A)], 2⟩ b → Own g ⟨[], os, nx⟩ b := fun b h => (hown0 b h).elim (fun h => ⟨i, _, hi, h⟩) fun h => ⟨j, _, hj, h⟩
  have ho0 : RelO g0 ⟨[], [(1, .vec h2 z e B), (0, .vec h1 z e A)], 2⟩ w := by
    refine ⟨fun id o h => ?_, fun id o id' o' b h3 h4 h5 h6 => ?_, fun id hid => ?_, fun b hb => ⟨(ho.imm b hb).1, fun h => (ho.imm b hb).2 (hownG b h)⟩, ho.cel⟩
    · rcases hlk0 id o h with ⟨rfl, rfl⟩ | ⟨rfl, rfl⟩
      · exact hoi
      · exact hoj
    · rcases hlk0 id o h3 with ⟨rfl, rfl⟩ | ⟨rfl, rfl⟩ <;> rcases hlk0 id' o' h4 with ⟨rfl, rfl⟩ | ⟨rfl, rfl⟩
      · rfl
      · exact absurd (ho.apart i _ j _ b hi hj h5 h6) hne
      · exact absurd (ho.apart i _ j _ b hi hj h6 h5) hne
      · rfl
    · have hid' : 2 ≤ id := hid
      refine ⟨rfl, ?_⟩
      show (if id = 0 then g.κ i else if id = 1 then g.κ j else none) = none
      rw [if_neg (by omega), if_neg (by omega)]
  have hvec : ∀ {k k' m : Nat} {v : Value}, g0.κ k' = g.κ k → VRel g w v (.vec k m) → VRel g0 w v (.vec k' m) := fun {k k' m v} hk hv => by
    cases hv with
    | vec a' cap' _ _ a0 len cap hkk hle hm ha hvq => exact .vec _ _ _ _ a0 len cap (by rw [hk]; exact hkk) hle hm ha hvq
  have hv0 : ∀ (k : Nat) (v : Value) (d : D), vs[k]? = some v → (D.vec 0 n :: mid ++ [.vec 1 m])[k]? = some d → VRel g0 w v d := fun k v d hk hd => by
    have hlen : (D.vec i n :: mid ++ [D.vec j m]).length = mid.length + 2 := by simp
    rcases k with _ | k
    · simp at hd; subst hd
      exact hvec hk0 (hv 0 v _ hk (by simp))
    · simp only [List.cons_append, List.getElem?_cons_succ] at hd
      rw [List.getElem?_append] at hd
      split at hd
      · rename_i hlt
        have := hv (k + 1) v d hk (by simp only [List.cons_append, List.getElem?_cons_succ]; rw [List.getElem?_append_left hlt]; exact hd)
        exact hmid d (List.mem_of_getElem? hd) _ _ _ _ this
      · rename_i hlt
        have hk' : k = mid.length := by
          have := (List.getElem?_eq_some_iff.1 hd).1
          simp at this; omega
        subst hk'
        simp at hd; subst hd
        exact hvec hk1 (hv (mid.length + 1) v _ hk (by simp))
  refine (h.2 g0 w vs ho0 (by simpa using hsz) hv0).mono ?_
  rintro ex w' ⟨v, d, g', os', nx', rfl, ⟨k, rfl, hk⟩, hro, hvr, hst⟩
  have hok := hro.ok k _ hk
  obtain ⟨a2, cap2, h6, h7, h8, h9, h10⟩ := hok
  let g2 : G := ⟨g.ρ, fun id => if id = i then some (a2, E.length, cap2) else g.κ id, g'.I⟩
  have h2i : g2.κ i = g'.κ k := by show (if i = i then _ else _) = _; rw [if_pos rfl, h6]
  have h2o : ∀ id, id ≠ i → g2.κ id = g.κ id := fun id hid => if_neg hid
  obtain ⟨a1, cap1, hi1, hi2⟩ := hoi
  have hle : g.Le g2 := by
    refine ⟨fun _ _ h => h, fun id x l c hid => ?_, fun b hb => hst.le.I b hb⟩
    by_cases hii : id = i
    · subst hii
      rw [hi1] at hid
      cases hid
      exact ⟨a2, E.length, cap2, by rw [h2i, h6], by omega, fun e => by omega⟩
    · exact ⟨x, l, c, by rw [h2o id hii]; exact hid, Nat.le_refl _, fun _ => ⟨rfl, rfl⟩⟩
  have hin : ∀ id o, lk id ((i, Ob.vec true z e E) :: rmv os [i, j]) = some o → (id = i ∧ o = .vec true z e E) ∨ (id ≠ i ∧ id ≠ j ∧ lk id os = some o) := fun id o h => by
    simp only [lk_cons, lk_rmv] at h
    split at h
    · rename_i hid; cases h; exact .inl ⟨hid, rfl⟩
    · rename_i hid
      split at h
      · cases h
      · rename_i hid2
        simp at hid2
        exact .inr ⟨hid, hid2.2, h⟩
  have hblko : ∀ id o, id ≠ i → g2.blk id o = g.blk id o := fun id o hid => by
    cases o with
    | box cs => rfl
    | map _ _ => rfl
    | it _ _ => rfl
    | vec _ _ _ _ => simp only [G.blk, h2o id hid]
  have hblki : ∀ b, g2.blk i (.vec true z e E) = some b → g'.blk k (.vec true z e E) = some b := fun b hb => by
    simp only [G.blk, h2i] at hb ⊢
    exact hb
  -- a block of one of the others is not one of these two
  have hrest : ∀ id o b, id ≠ i → id ≠ j → lk id os = some o → g.blk id o = some b → b < w.heap.size ∧ ¬ Own g0 ⟨[], [(1, .vec h2 z e B), (0, .vec h1 z e A)], 2⟩ b := fun id o b h11 h12 h13 h14 => by
    refine ⟨(ho.ok id o h13).lt.1 b h14, fun h15 => ?_⟩
    rcases hown0 b h15 with h16 | h16
    · exact h11 (ho.apart id o i _ b h13 hi h14 h16)
    · exact h12 (ho.apart id o j _ b h13 hj h14 h16)
  have hnew : ∀ b, g'.blk k (.vec true z e E) = some b → Own g' ⟨[], os', nx'⟩ b := fun b hb => ⟨k, _, hk, hb⟩
  have hownN : ∀ b, Own g2 ⟨[], (i, .vec true z e E) :: rmv os [i, j], nx⟩ b → Own g' ⟨[], os', nx'⟩ b ∨ Own g ⟨[], os, nx⟩ b ∧ b < w.heap.size ∧ ¬ Own g0 ⟨[], [(1, .vec h2 z e B), (0, .vec h1 z e A)], 2⟩ b := fun b ⟨id, o, h11, h12⟩ => by
    rcases hin id o h11 with ⟨rfl, rfl⟩ | ⟨h13, h14, h15⟩
    · exact .inl (hnew b (hblki b h12))
    · rw [hblko id o h13] at h12
      exact .inr ⟨⟨id, o, h15, h12⟩, hrest id o b h13 h14 h15 h12⟩
  have hkeep : Keeps g.I w w' := fun b hb => hst.same b (ho.imm b hb).1 fun h => (ho.imm b hb).2 (hownG b h)
  have himm : ∀ b, b < w.heap.size → ¬ Own g ⟨[], os, nx⟩ b → g'.I b → g.I b := fun b hb hno hi' => hst.imm b hb (fun h => hno (hownG b h)) hi'
  refine ⟨v, _, g2, _, nx, rfl, hQ, ⟨fun id o h => ?_, fun id o id' o' b h11 h12 h13 h14 => ?_, fun id hid => ?_, fun b hb => ⟨(hro.imm b hb).1, fun h => ?_⟩, hro.cel⟩, ?_, ⟨hle, hst.size, fun b hb hno => hst.same b hb fun h => hno (hownG b h), fun b hb hno h => ?_, himm, hst.env⟩⟩
  · rcases hin id o h with ⟨rfl, rfl⟩ | ⟨h11, h12, h13⟩
    · exact ⟨a2, cap2, by rw [h2i, h6], h7, h8, h9, h10⟩
    · exact (ho.ok id o h13).mono hkeep hle (fun b hb => hst.same b (hrest id o b h11 h12 h13 hb).1 (hrest id o b h11 h12 h13 hb).2) (h2o id h11)
  · have key : ∀ id o b, id ≠ i → id ≠ j → lk id os = some o → g.blk id o = some b → g'.blk k (.vec true z e E) = some b → False := fun id o b h15 h16 h17 h18 h19 => by
      have := hrest id o b h15 h16 h17 h18
      exact hst.own b this.1 this.2 (hnew b h19)
    rcases hin id o h11 with ⟨rfl, rfl⟩ | ⟨h15, h16, h17⟩ <;> rcases hin id' o' h12 with ⟨rfl, rfl⟩ | ⟨h18, h19, h20⟩
    · rfl
    · rw [hblko id' o' h18] at h14
      exact (key id' o' b h18 h19 h20 h14 (hblki b h13)).elim
    · rw [hblko id o h15] at h13
      exact (key id o b h15 h16 h17 h13 (hblki b h14)).elim
    · rw [hblko id o h15] at h13
      rw [hblko id' o' h18] at h14
      exact ho.apart id o id' o' b h17 h20 h13 h14
  · have := ho.fresh id hid
    have h20 : nx ≤ id := hid
    have h21 : i < nx := hib
    have hne' : id ≠ i := by omega
    exact ⟨this.1, by rw [h2o id hne']; exact this.2⟩
  · rcases hownN b h with h11 | ⟨h11, h12, h13⟩
    · exact (hro.imm b hb).2 h11
    · exact (ho.imm b (hst.imm b h12 h13 hb)).2 h11
  · cases hvr with
    | vec a' cap' _ _ a0 len cap hkk hle' hm ha hvq => exact .vec _ _ _ _ a0 len cap (by rw [h2i]; exact hkk) hle' hm ha hvq
  · rcases hownN b h with h11 | ⟨h11, _⟩
    · exact hst.own b hb (fun h => hno (hownG b h)) h11
    · exact hno h11
end
end Dm
namespace Dm
open Go Go.Proofs Go.IntWalk
@[go_sem] def cins_T2 : Tab := [ovk 36]
theorem cins_T2_ok : TabOk Try.prog cins_T2 := .cons (ov_ok 36) .nil
@[go_sem] def cins_T3 : Tab := [fg 12]
theorem cins_T3_ok : TabOk Try.prog cins_T3 := .cons (fg_ok 12) .nil
theorem cins_wide (l : List Ct) : Wide 3 (cts l) := of_eq_true (cts_wide l)
set_option maxRecDepth 8000 in
set_option maxHeartbeats 1000000 in
theorem cins_ok (l : List Ct) (x : Ct) (i : Nat) (hi : i ≤ l.length) (hl : l.length ≤ 1000000) :
    ACall Try.prog 24 [.vec 0 l.length, .int .i64 i, .vec 1 1] [(1, .vec true 3 48 (cts [x])), (0, .vec true 3 48 (cts l))] 2 fun d os _ => Grown 3 48 (cts (Srt.ins l i x)) d os := by
  have hil : (Srt.ins l i x).length = l.length + 1 := Srt.ins_len
  have hq : ∀ j os, lk j os = some (.vec true 3 48 (cts (Srt.ins l i x))) → Grown 3 48 (cts (Srt.ins l i x)) (.vec j (l.length + 1)) os := fun j os h => ⟨j, by rw [cts_length, hil], h⟩
  by_cases hin : i = l.length
  · refine ac24 cins_T3_ok (Nat.le_of_ble_eq_true rfl) ?_
    have e4 : ((1 : Int) = 0) = False := eq_false (by decide)
    subst hin
    simp -implicitDefEqProofs only [cd_t, cd_f, cd_dec, cd_not, cd_and, cd_or, grd_tt, grd_ff, grd_tf, grd_ft, grd_dt, grd_df, grd_nt, grd_nf, go_sem, Go.Proofs.Try.f24, e4, decide_true, reduceIte, reduceCtorEq, Nat.reduceEqDiff, Nat.reduceAdd, Nat.reduceLeDiff, Nat.reduceSub, Nat.reduceMul, Nat.reduceLT, Nat.reduceShiftRight, Nat.reduceMod, Int.reduceLE, Int.reduceLT, Int.reduceToNat, decide_true, Bool.and_self, Bool.true_and, Ob.map.injEq, Ob.it.injEq, List.cons.injEq, true_and, and_true]
    refine ⟨Int.le_refl _, fun h => h.elim, fun _ => ⟨by omega, hq _ _ ?_⟩⟩
    rw [lk_cons, if_neg (by decide), lk_hd]
    simp [Srt.ins]
  · have hlt : i < l.length := by omega
    refine ACall.opn 0 rfl (by rw [cts_length]; omega) fun c hc hcm => ?_
    refine ACall.sld ?_
    rw [cts_length] at hc
    refine ac24 cins_T2_ok (Nat.le_of_ble_eq_true rfl) ?_
    have e1 : IntKind.i64.wrap ((l.length : Int) + 1) = ((l.length + 1 : Nat) : Int) := by rw [i64_in _ (by omega)]; omega
    have e2 : IntKind.i64.wrap ((i : Int) + 1) = ((i + 1 : Nat) : Int) := by rw [i64_in _ (by omega)]; omega
    have e3 : ((i : Int) = (l.length : Int)) = False := eq_false (by omega)
    have e4 : ((1 : Int) = 0) = False := eq_false (by decide)
    have e5 : IntKind.i64.wrap ((l.length : Int) + 1 - (i : Int)) = ((l.length + 1 - i : Nat) : Int) := by rw [i64_in _ (by omega)]; omega
    have e6 : ((l.length : Int) + 1).toNat = l.length + 1 := by omega
    have e7 : ((i : Int) + 1).toNat = i + 1 := by omega
    have e8 : i + (l.length + 1 - i) = l.length + 1 := by omega
    simp -implicitDefEqProofs only [cd_t, cd_f, cd_dec, cd_not, cd_and, cd_or, grd_tt, grd_ff, grd_tf, grd_ft, grd_dt, grd_df, grd_nt, grd_nf, go_sem, Go.Proofs.Try.f24, e3, e4, e1, e2, e5, e6, e7, e8, decide_false, reduceIte, reduceCtorEq, Nat.reduceEqDiff, Nat.reduceAdd, Nat.reduceLeDiff, Nat.reduceSub, Nat.reduceMul, Nat.reduceLT, Nat.reduceShiftRight, Nat.reduceMod, Int.reduceLE, Int.reduceLT, Int.reduceToNat, decide_true, Bool.and_self, Bool.true_and, Ob.map.injEq, Ob.it.injEq, List.cons.injEq, true_and, and_true]
    refine ⟨by omega, fun _ => ⟨fun h1 => ⟨by omega, by omega, fun c1 h2 h3 => ⟨by omega, ?_⟩⟩, fun h1 => ⟨by omega, by omega, ?_, ?_⟩⟩⟩
    · refine ADraw.run us24_11 cins_T2_ok follows_mixed (by kernel_rfl) (by kernel_rfl) ?_
      simp -implicitDefEqProofs only [cd_t, cd_f, cd_dec, cd_not, cd_and, cd_or, grd_tt, grd_ff, grd_tf, grd_ft, grd_dt, grd_df, grd_nt, grd_nf, go_sem, e1, e2, e5, e6, e7, e8, reduceIte, reduceCtorEq, Nat.reduceEqDiff, Nat.reduceAdd, Nat.reduceLeDiff, Nat.reduceSub, Nat.reduceMul, Nat.reduceLT, Nat.reduceShiftRight, Nat.reduceMod, Int.reduceLE, Int.reduceLT, Int.reduceToNat, decide_true, Bool.and_self, Bool.true_and, Ob.map.injEq, Ob.it.injEq, List.cons.injEq, true_and, and_true]
      refine ⟨by omega, by omega, fun y hy => fit_wide (cins_wide l) y (List.mem_of_mem_take (List.mem_of_mem_drop hy)), ?_⟩
      have := ins_new (sz := 3) (c := c) (c1 := c1) (i := i) (E := cts l) (x := x.enc) (z := [C.int .u64 0, C.int .u64 0, C.int .u64 0]) (by rw [cts_length]; exact hlt) (by rw [cts_length]; exact hc) (by rw [cts_length]; exact h2)
      rw [cts_length] at this
      refine hq _ _ ?_
      rw [lk_hd]
      congr 2
      rw [show cts (List.take (l.length + 1 - i) [x]) = List.take (l.length + 1 - i) [x.enc] by simp [cts], this]
      simp [cts, Srt.ins]
    · exact ⟨_, 28, 4, _, rfl, rfl, rfl, rfl, by kernel_rfl, elOf_28⟩
    · refine ADraw.run us24_15 cins_T2_ok follows_mixed (by kernel_rfl) (by kernel_rfl) ?_
      simp -implicitDefEqProofs only [cd_t, cd_f, cd_dec, cd_not, cd_and, cd_or, grd_tt, grd_ff, grd_tf, grd_ft, grd_dt, grd_df, grd_nt, grd_nf, go_sem, e1, e2, e5, e6, e7, e8, reduceIte, reduceCtorEq, Nat.reduceEqDiff, Nat.reduceAdd, Nat.reduceLeDiff, Nat.reduceSub, Nat.reduceMul, Nat.reduceLT, Nat.reduceShiftRight, Nat.reduceMod, Int.reduceLE, Int.reduceLT, Int.reduceToNat, decide_true, Bool.and_self, Bool.true_and, Ob.map.injEq, Ob.it.injEq, List.cons.injEq, true_and, and_true]
      refine ⟨by omega, by omega, fun y hy => fit_wide (cins_wide l) y (List.mem_of_mem_take (List.mem_of_mem_drop hy)), by omega, ?_⟩
      have := ins_old (sz := 3) (c := c) (i := i) (E := cts l) (x := x.enc) (by rw [cts_length]; exact hlt) (by rw [cts_length]; omega)
      rw [cts_length] at this
      refine hq _ _ ?_
      rw [lk_hd]
      congr 2
      rw [show cts (List.take (l.length + 1 - i) [x]) = List.take (l.length + 1 - i) [x.enc] by simp [cts], this]
      simp [cts, Srt.ins]

/-- One count more, or in its place. -/
def putC (root : Nat) (l : List Ct) (x : Nat × Int) : List Ct := Srt.put Ct.key ltC l ⟨root, x.1, x.2.toNat⟩
def addC (l : List Ct) (root : Nat) (cav : List Cv) (n : Nat) : List Ct × Int :=
  if (sumsS l root cav n).2 = 0 then
    if n = 0 then (l, 0)
    else if ((sumsS l root cav n).1.foldl (putC root) l).length ≤ 128 then ((sumsS l root cav n).1.foldl (putC root) l, 0) else ([], 7)
  else ([], (sumsS l root cav n).2)
theorem fold_up {root : Nat} : ∀ {sn : List (Nat × Int)} {l : List Ct}, Srt.Up Ct.key ltC l → Srt.Up Ct.key ltC (sn.foldl (putC root) l)
  | [], l, h => h
  | x :: sn, l, h => fold_up (sn := sn) (l := putC root l x) (Srt.put_up totC h)
theorem fold_len {root : Nat} : ∀ {sn : List (Nat × Int)} {l : List Ct}, (sn.foldl (putC root) l).length ≤ l.length + sn.length
  | [], l => by simp
  | x :: sn, l => by
    have h := fold_len (root := root) (sn := sn) (l := putC root l x)
    have h2 : (putC root l x).length ≤ l.length + 1 := by
      unfold putC; rw [Srt.put_len]; split <;> omega
    rw [List.foldl_cons, List.length_cons]
    omega
theorem fnd_fold {root r b : Nat} : ∀ {sn : List (Nat × Int)} {l : List Ct}, (sn.map (·.1)).Nodup → Srt.Up Ct.key ltC l → Srt.fnd Ct.key (sn.foldl (putC root) l) (r, b) = if r = root then (match nlk b sn with
    | some v => some ⟨root, b, v.toNat⟩
    | none => Srt.fnd Ct.key l (r, b)) else Srt.fnd Ct.key l (r, b)
  | [], l, _, _ => by simp [nlk]
  | (x, y) :: sn, l, hn, hu => by
    simp only [List.map_cons, List.nodup_cons] at hn
    have hu' : Srt.Up Ct.key ltC (putC root l (x, y)) := Srt.put_up totC hu
    rw [List.foldl_cons, fnd_fold hn.2 hu', putC, Srt.fnd_put totC hu]
    by_cases hr : r = root
    · subst hr
      rw [if_pos rfl, if_pos rfl, nlk]
      by_cases hx : x = b
      · subst hx
        rw [if_pos rfl, nlk_none.2 hn.1]
        simp [Ct.key]
      · rw [if_neg hx]
        have : ¬ (r, b) = Ct.key ⟨r, x, y.toNat⟩ := fun e => by
          simp only [Ct.key, Prod.mk.injEq] at e; exact hx e.2.symm
        simp [this]
    · rw [if_neg hr, if_neg hr, if_neg]
      intro e
      simp only [Ct.key, Prod.mk.injEq] at e
      exact hr e.1
theorem nlk_perm {a b : List (Nat × Int)} (h : a.Perm b) (hb : (b.map (·.1)).Nodup) (k : Nat) : nlk k a = nlk k b := by
  have ha : (a.map (·.1)).Nodup := (h.map _).nodup_iff.2 hb
  cases hk : nlk k b with
  | none => rw [nlk_none] at hk ⊢; exact fun hm => hk ((h.map _).mem_iff.1 hm)
  | some v => rw [nlk_some hb] at hk; rw [nlk_some ha]; exact h.mem_iff.2 hk
theorem fold_perm {root : Nat} {a b : List (Nat × Int)} {l : List Ct} (h : a.Perm b) (hb : (b.map (·.1)).Nodup) (hu : Srt.Up Ct.key ltC l) : a.foldl (putC root) l = b.foldl (putC root) l := by
  have ha : (a.map (·.1)).Nodup := (h.map _).nodup_iff.2 hb
  refine Srt.ext_fnd totC (fold_up hu) (fold_up hu) fun ⟨r, k⟩ => ?_
  rw [fnd_fold ha hu, fnd_fold hb hu, nlk_perm h hb]
theorem sums_0 {l : List Ct} {root : Nat} {cav : List Cv} {n : Nat} (h : (sumsS l root cav n).2 = 0) : (capS cav).2 = 0 ∧ chkC l = 0 ∧ n ≤ 4611686018427387904 ∧ (sumsS l root cav n).1 = (capS cav).1.map (fun x => (x.1, (was l root x.1 : Int) + n)) ∧
    ∀ x ∈ (capS cav).1, (was l root x.1 : Int) + n ≤ 4611686018427387904 ∧ (was l root x.1 : Int) + n ≤ x.2 := by
  unfold sumsS at h ⊢
  split at h
  · rename_i hc
    rw [if_pos hc]
    split at h
    · rename_i ha
      rw [if_pos ha]
      exact ⟨hc.1, hc.2.1, hc.2.2, rfl, fun x hx => by simpa using List.all_eq_true.1 ha x hx⟩
    · cases h
  · cases h
theorem nset_len {a : Nat} {b : Int} : ∀ {l : List (Nat × Int)}, (nset a b l).length ≤ l.length + 1
  | [] => by simp [nset]
  | (x, y) :: l => by
    rw [nset]
    split
    · simp
    · have := nset_len (a := a) (b := b) (l := l)
      simp; omega
theorem cap_len (l : List Cv) : (capS l).1.length ≤ 16 := by
  have : ∀ (l : List Cv) (m : List (Nat × Int)), (l.foldl capF m).length ≤ m.length + l.length := by
    intro l
    induction l with
    | nil => simp
    | cons c l ih =>
      intro m
      have h1 := ih (capF m c)
      have h2 : (capF m c).length ≤ m.length + 1 := by
        unfold capF
        split
        · split
          · split
            · exact nset_len
            · omega
          · exact nset_len
        · omega
      rw [List.foldl_cons, List.length_cons]; omega
  unfold capS
  split
  · rename_i h; have := this l []; simp at this; dsimp only; omega
  · simp
theorem sums_nd {l : List Ct} {root : Nat} {cav : List Cv} {n : Nat} (h : (sumsS l root cav n).2 = 0) : ((sumsS l root cav n).1.map (·.1)).Nodup := by
  rw [(sums_0 h).2.2.2.1, List.map_map]
  exact cap_nd cav
@[go_sem] def Add_r (l : List Ct) (root : Nat) (cav : List Cv) (n : Nat) : D := .tup [.vec 0 (addC l root cav n).1.length, .int .i64 (addC l root cav n).2]
@[go_sem] def Add_fr (l : List Ct) (root : Nat) (cav : List Cv) (n : Nat) : Fr := [(3, 48, true, cts (addC l root cav n).1)]
@[go_sem] abbrev n_Add : FuncId := 9
@[go_sem] def Add_T : Tab := [(21, sp_sums), (22, sp_clone), (23, sp_spent)]
theorem Add_T_ok : TabOk Try.prog Add_T := (TabOk.cons sp_sums_ok (TabOk.cons sp_clone_ok (TabOk.cons sp_spent_ok TabOk.nil)))
set_option maxRecDepth 8000 in
set_option maxHeartbeats 1000000 in
theorem Add_ok (l : List Ct) (root : Nat) (cav : List Cv) (n : Nat)  : FreshFn Try.prog 9 [.sl (cts l), .c (.int .u64 (root : Int)), .sl (cvs cav), .c (.int .u64 (n : Int))] (Add_r l root cav n) (Add_fr l root cav n) := by
  refine .of (ac9 Add_T_ok (Nat.le_of_ble_eq_true rfl) ?_)
  simp -implicitDefEqProofs only [cd_t, cd_f, cd_dec, cd_not, cd_and, cd_or, grd_tt, grd_ff, grd_tf, grd_ft, grd_dt, grd_df, grd_nt, grd_nf, go_sem, Go.Proofs.Try.f9, reduceIte, reduceCtorEq, Nat.reduceEqDiff, Nat.reduceAdd, Nat.reduceLeDiff, Nat.reduceSub, Nat.reduceMul, Nat.reduceLT, Nat.reduceShiftRight, Nat.reduceMod, Int.reduceLE, Int.reduceLT, Int.reduceToNat, decide_true, Bool.and_self, Bool.true_and, Ob.map.injEq, Ob.it.injEq, List.cons.injEq, true_and, and_true]
  refine ⟨fun h1 => ⟨?_, fun hn => ?_, fun hn => ?_⟩, fun h1 => ?_⟩
  · have := (chkC_0 (sums_0 h1).2.1).1; omega
  · rw [addC, if_pos h1, if_pos (by omega)]
    exact ⟨[some 0], by simp [go_sem], ⟨rfl, rfl⟩, rfl⟩
  · have ha : addC l root cav n = if ((sumsS l root cav n).1.foldl (putC root) l).length ≤ 128 then ((sumsS l root cav n).1.foldl (putC root) l, 0) else ([], 7) := by rw [addC, if_pos h1, if_neg (by omega)]
    rw [ha]
    have hnd := sums_nd h1
    have hrng : ∀ x ∈ (sumsS l root cav n).1, 0 ≤ x.2 := fun x hx => by
      rw [(sums_0 h1).2.2.2.1] at hx
      obtain ⟨y, _, rfl⟩ := List.mem_map.1 hx
      dsimp only; omega
    have hup : Srt.Up Ct.key ltC l := (chkC_0 (sums_0 h1).2.1).2.1
    have hlen : l.length ≤ 128 := (chkC_0 (sums_0 h1).2.1).1
    have hml : (sumsS l root cav n).1.length ≤ 16 := by
      rw [(sums_0 h1).2.2.2.1, List.length_map]; exact cap_len cav
    generalize (sumsS l root cav n).1 = m at *
    refine SWp.loop (ι := { x : List (Nat × Int) × List Ct // x.1.Nodup ∧ (∀ y ∈ x.1, y ∈ m) ∧ x.2 = x.1.foldl (putC root) l }) (fun x => ⟨[(0, .vec 0 x.1.2.length), (1, .int .u64 root), (34, .ref 1 0)],
      [(1, .it (kvF .u64 .u64 m) (kvF .u64 .u64 x.1.1)), (0, .vec true 3 48 (cts x.1.2))], 2⟩) (fun x => m.length - x.1.1.length) ⟨([], l), by simp⟩ ?_ ?_
    · simp [go_sem]; rfl
    · rintro ⟨⟨sn, L⟩, hsn, hsm, hL⟩
      dsimp only at hsn hsm hL
      refine awp_sound Add_T_ok.toS lv9 _ _ _ rfl ?_
      simp -implicitDefEqProofs only [cd_t, cd_f, cd_dec, cd_not, cd_and, cd_or, grd_tt, grd_ff, grd_tf, grd_ft, grd_dt, grd_df, grd_nt, grd_nf, go_sem, reduceIte, reduceCtorEq, Nat.reduceEqDiff, Nat.reduceAdd, Nat.reduceLeDiff, Nat.reduceSub, Nat.reduceMul, Nat.reduceLT, Nat.reduceShiftRight, Nat.reduceMod, Int.reduceLE, Int.reduceLT, Int.reduceToNat, decide_true, Bool.and_self, Bool.true_and, Ob.map.injEq, Ob.it.injEq, List.cons.injEq, true_and, and_true]
      have hLu : Srt.Up Ct.key ltC L := by rw [hL]; exact fold_up hup
      have hLl : L.length ≤ l.length + sn.length := by rw [hL]; exact fold_len
      have hsl : sn.length ≤ m.length := hsn.length_le_of_subset fun x hx => hsm x hx
      refine ⟨fun a b hab hns => ⟨hLu, ?_⟩, fun hall hLen => ?_⟩
      · have hsn' := nd_add hsn hns
        have hsm' : ∀ y ∈ sn ++ [(a, b)], y ∈ m := fun x hx => by
          rcases List.mem_append.1 hx with hx | hx
          · exact hsm x hx
          · simp at hx; subst hx; exact hab
        have hsl' := hsn'.length_le_of_subset (l₂ := m) fun x hx => hsm' x hx
        simp at hsl'
        have hfold : (sn ++ [(a, b)]).foldl (putC root) l = Srt.put Ct.key ltC L ⟨root, a, b.toNat⟩ := by rw [List.foldl_append, ← hL]; rfl
        have hb : 0 ≤ b := hrng _ hab
        have hk : Ct.key ⟨root, a, b.toNat⟩ = (root, a) := rfl
        refine ⟨fun ht => ?_, fun ht => ?_⟩
        · have ht' := ht
          simp only [Srt.thr, decide_eq_true_eq] at ht'
          obtain ⟨hp, hkey⟩ := ht'
          refine ⟨by omega, hp, ⟨(sn ++ [(a, b)], L.set (Srt.pos Ct.key ltC L (root, a)) ⟨root, a, b.toNat⟩), hsn', hsm', ?_⟩, by simp; omega, by simp, rfl, ?_⟩
          · dsimp only
            rw [hfold, Srt.put, hk, if_pos ht]
          · dsimp only
            simp only [Ct.key, Prod.mk.injEq] at hkey
            rw [hkey.1, hkey.2, cts_set _ _ _ _ _ (by omega) (by omega) hb, Int.toNat_natCast, Int.toNat_natCast]
        · have hg := cins_ok L ⟨root, a, 0⟩ (Srt.pos Ct.key ltC L (root, a)) Srt.pos_le (by omega)
          refine ACall.grow (mid := [.int .i64 _]) hg rfl rfl (by decide) (by simp [Srt.ins_len]) (fun d hd g g' w v hv => ?_) ?_
          · simp at hd; subst hd
            cases hv with
            | c _ _ h => cases h; exact .c _ _ (.int _ _)
          · simp -implicitDefEqProofs only [cd_t, cd_f, cd_dec, cd_not, cd_and, cd_or, grd_tt, grd_ff, grd_tf, grd_ft, grd_dt, grd_df, grd_nt, grd_nf, go_sem, reduceIte, reduceCtorEq, Nat.reduceEqDiff, Nat.reduceAdd, Nat.reduceLeDiff, Nat.reduceSub, Nat.reduceMul, Nat.reduceLT, Nat.reduceShiftRight, Nat.reduceMod, Int.reduceLE, Int.reduceLT, Int.reduceToNat, decide_true, Bool.and_self, Bool.true_and, Ob.map.injEq, Ob.it.injEq, List.cons.injEq, true_and, and_true]
            have hpl : Srt.pos Ct.key ltC L (root, a) ≤ L.length := Srt.pos_le
            rw [Srt.ins_getD hpl, cts_set _ _ _ _ _ (by omega) (by omega) hb, Int.toNat_natCast, Int.toNat_natCast, Srt.ins_set hpl, Srt.ins_len]
            refine ⟨by omega, by omega, ⟨(sn ++ [(a, b)], Srt.ins L (Srt.pos Ct.key ltC L (root, a)) ⟨root, a, b.toNat⟩), hsn', hsm', ?_⟩, by simp; omega, by rw [Srt.ins_len], rfl, rfl⟩
            dsimp only
            rw [hfold, Srt.put, hk, if_neg (by rw [ht]; decide)]
      · have hp : sn.Perm m := (List.perm_ext_iff_of_nodup hsn (nd_of_keys hnd)).2 fun x => ⟨hsm x, fun hx => hall x.1 x.2 hx⟩
        rw [fold_perm hp.symm ((hp.map _).nodup_iff.2 hnd) hup, ← hL]
        refine ⟨fun h => ?_, fun h => ?_⟩
        · rw [if_neg (by omega)]; exact ⟨[none], by simp [go_sem, cts], ⟨rfl, rfl⟩, rfl⟩
        · rw [if_pos (by omega)]; exact ⟨[some 0], by simp [go_sem], ⟨rfl, rfl⟩, rfl⟩
  · rw [addC, if_neg h1]
    exact ⟨[none], by simp [go_sem, cts], ⟨rfl, rfl⟩, rfl⟩
def sp_Add : List D → Option (Prop × D × Fr)
  | [.c (.sl z51), .c (.int .u64 z52), .c (.sl z53), .c (.int .u64 z54)] => some (z51 = cts (dcts z51) ∧ z52 = (z52.toNat : Int) ∧ z53 = cvs (dcvs z53) ∧ z54 = (z54.toNat : Int), Add_r (dcts z51) z52.toNat (dcvs z53) z54.toNat, Add_fr (dcts z51) z52.toNat (dcvs z53) z54.toNat)
  | _ => none
attribute [go_sem] sp_Add
theorem sp_Add_ok : ∀ rs p r fr, sp_Add rs = some (p, r, fr) → p → FnOk Try.prog 9 rs r fr := by
  intro rs p r fr h hp
  unfold sp_Add at h
  split at h <;> cases h
  obtain ⟨hc0, hc1, hc2, hc3⟩ := hp
  rename_i z51 z52 z53 z54
  obtain ⟨z51, rfl⟩ : ∃ m, z51 = cts m := ⟨_, hc0⟩
  obtain ⟨z52, rfl⟩ : ∃ m : Nat, z52 = m := ⟨_, hc1⟩
  obtain ⟨z53, rfl⟩ : ∃ m, z53 = cvs m := ⟨_, hc2⟩
  obtain ⟨z54, rfl⟩ : ∃ m : Nat, z54 = m := ⟨_, hc3⟩
  simp only [Int.toNat_natCast, dcts_cts, dcvs_cvs]
  exact (show FnOk _ _ _ _ _ from And.intro rfl (Add_ok z51 z52 z53 z54))
@[go_sem] def Addp_r (l : List Ct) (root : Nat) (cav : List Cv) (n : Nat) : D := .tup [.sl (cts (addC l root cav n).1), .int .i64 (addC l root cav n).2]
@[go_sem] abbrev n_Addp : FuncId := 9
@[go_sem] def Addp_T : Tab := []
theorem Addp_T_ok : TabOk Try.prog Addp_T := TabOk.nil
set_option maxRecDepth 8000 in
set_option maxHeartbeats 1000000 in
theorem Addp_ok (l : List Ct) (root : Nat) (cav : List Cv) (n : Nat)  : PureFn Try.prog 9 [.sl (cts l), .c (.int .u64 (root : Int)), .sl (cvs cav), .c (.int .u64 (n : Int))] (Addp_r l root cav n) := by
  refine FreshFn.toPure (Add_ok l root cav n) ?_
  simp [go_sem, pur3, pur2, pur1, pw, news, lk]
def sp_Addp : List D → Option (Prop × D × Fr)
  | [.c (.sl z55), .c (.int .u64 z56), .c (.sl z57), .c (.int .u64 z58)] => some (z55 = cts (dcts z55) ∧ z56 = (z56.toNat : Int) ∧ z57 = cvs (dcvs z57) ∧ z58 = (z58.toNat : Int), Addp_r (dcts z55) z56.toNat (dcvs z57) z58.toNat, [])
  | _ => none
attribute [go_sem] sp_Addp
theorem sp_Addp_ok : ∀ rs p r fr, sp_Addp rs = some (p, r, fr) → p → FnOk Try.prog 9 rs r fr := by
  intro rs p r fr h hp
  unfold sp_Addp at h
  split at h <;> cases h
  obtain ⟨hc0, hc1, hc2, hc3⟩ := hp
  rename_i z55 z56 z57 z58
  obtain ⟨z55, rfl⟩ : ∃ m, z55 = cts m := ⟨_, hc0⟩
  obtain ⟨z56, rfl⟩ : ∃ m : Nat, z56 = m := ⟨_, hc1⟩
  obtain ⟨z57, rfl⟩ : ∃ m, z57 = cvs m := ⟨_, hc2⟩
  obtain ⟨z58, rfl⟩ : ∃ m : Nat, z58 = m := ⟨_, hc3⟩
  simp only [Int.toNat_natCast, dcts_cts, dcvs_cvs]
  exact Addp_ok z55 z56 z57 z58
end Dm
