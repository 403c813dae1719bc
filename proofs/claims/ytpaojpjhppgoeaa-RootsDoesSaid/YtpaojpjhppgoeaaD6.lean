import Derived.Test.YtpaojpjhppgoeaaD5
set_option linter.unusedSimpArgs false
set_option linter.unusedVariables false
/-! The rules by which simp carries out a region whose order is drawn. -/
namespace Dm
open Go
section
variable {P : Program} {T : Tab} {all : Array Oper} {rest : List Oper} {s s' r : St} {K : St → Prop} {d : Option Nat} {ty : TypeId} {pos : String} {af : Array Edge} {gd : Option (Nat × Bool)} {i i' : Nat} {acc acc' : List Ft} {Tt W : List Nat}
attribute [go_sem] mem sub apt low inR allR outR ins uni midsL mob midsA mobO cont clo valsB obsB rosB rvP sameO gone wOf indF accB uh ut
@[go_sem] theorem mids_ref {a b : Nat} : mids (.ref a b) = [a] := by rw [mids]
@[go_sem] theorem mids_eref {a b c e f : Nat} : mids (.eref a b c e f) = [a] := by rw [mids]
@[go_sem] theorem mids_vec {a b : Nat} : mids (.vec a b) = [a] := by rw [mids]
@[go_sem] theorem mids_view {a b c e f : Nat} : mids (.view a b c e f) = [a] := by rw [mids]
@[go_sem] theorem mids_fn {f : Fn} {l m : List D} : mids (.fn f l m) = midsL l ++ midsL m := by rw [mids]
@[go_sem] theorem mids_agg {l : List D} : mids (.agg l) = midsL l := by rw [mids]
@[go_sem] theorem mids_tup {l : List D} : mids (.tup l) = midsL l := by rw [mids]
@[go_sem] theorem mids_c {x : C} : mids (.c x) = [] := by simp [mids]
@[go_sem] theorem mids_undef : mids .undef = [] := by simp [mids]
@[go_sem] theorem mids_skip : mids .skip = [] := by simp [mids]
@[go_sem] theorem mids_rp {l : List C} : mids (.rp l) = [] := by simp [mids]
@[go_sem] theorem mids_nilp : mids .nilp = [] := by simp [mids]
@[go_sem] theorem mids_nilf : mids .nilf = [] := by simp [mids]
@[go_sem] theorem mids_nil : mids .nil = [] := by simp [mids]
@[go_sem] theorem mids_csl {l : List (List C)} : mids (.csl l) = [] := by simp [mids]
def cns {α : Type} (k : Nat) (x : Option α) (r : List (Nat × α)) : List (Nat × α) := match x with
  | some x => (k, x) :: r
  | none => r
@[go_sem] theorem pickL_nil {α : Type} {l : List (Nat × α)} : pickL [] l = [] := rfl
@[go_sem] theorem pickL_cons {α : Type} {k : Nat} {ks : List Nat} {l : List (Nat × α)} : pickL (k :: ks) l = cns k (lk k l) (pickL ks l) := rfl
@[go_sem] theorem cns_some {α : Type} {k : Nat} {x : α} {r : List (Nat × α)} : cns k (some x) r = (k, x) :: r := rfl
@[go_sem] theorem cns_none {α : Type} {k : Nat} {r : List (Nat × α)} : cns k none r = r := rfl
@[go_sem] theorem loc_mk {rd : List Nat} {B : Nat} {tm : List (Nat × D)} {os : List (Nat × Ob)} {nx : Nat} : St.loc rd Tt B ⟨tm, os, nx⟩ = ⟨pickL rd tm, pickL Tt os, B⟩ := rfl
def wo {α : Type} (T : List Nat) : List (Nat × α) → List (Nat × α)
  | [] => []
  | (m, x) :: l => if mem m T = true then wo T l else (m, x) :: wo T l
theorem wo_eq {α : Type} {T : List Nat} : ∀ {l : List (Nat × α)}, (l.filter fun p => !T.contains p.1) = wo T l
  | [] => rfl
  | (m, x) :: l => by
    rw [wo, List.filter_cons, wo_eq]
    by_cases h : m ∈ T <;> simp [h, mem_iff]
attribute [go_sem] wo
@[go_sem] theorem mrg_mk {t : Nat} {tm tm' : List (Nat × D)} {os os' : List (Nat × Ob)} {nx nx' : Nat} : St.mrg ⟨tm, os, nx⟩ Tt (some t) ⟨tm', os', nx'⟩ = ⟨(t, (lk t tm').getD .undef) :: tm, os' ++ wo Tt os, nx'⟩ := by
  rw [← wo_eq]; rfl
@[go_sem] theorem mrg_no {tm tm' : List (Nat × D)} {os os' : List (Nat × Ob)} {nx nx' : Nat} : St.mrg ⟨tm, os, nx⟩ Tt none ⟨tm', os', nx'⟩ = ⟨tm, os' ++ wo Tt os, nx'⟩ := by
  rw [← wo_eq]; rfl
/-! ### Temporaries -/
def tO : List Operand → List Nat
  | [] => []
  | .tmp t :: l => t :: tO l
  | .const _ :: l => tO l
  | .global _ :: l => tO l
  | .func _ :: l => tO l
attribute [go_sem] tO
theorem tO_eq : ∀ l : List Operand, (l.filterMap fun | .tmp t => some t | _ => none) = tO l
  | [] => rfl
  | .tmp t :: l => congrArg (t :: ·) (tO_eq l)
  | .const _ :: l => tO_eq l
  | .global _ :: l => tO_eq l
  | .func _ :: l => tO_eq l
theorem opT_eq {o : Oper} : opT o = tO o.op.operands.toList := tO_eq _
def opo : Option Operand → List Operand
  | some x => [x]
  | none => []
attribute [go_sem] opo
@[go_sem] theorem T_move {x : Operand} : opT ⟨d, .move x, ty, pos, af, gd⟩ = tO [x] := opT_eq
@[go_sem] theorem T_assign {x : Operand} : opT ⟨d, .assign x, ty, pos, af, gd⟩ = tO [x] := opT_eq
@[go_sem] theorem T_pick {c x y : Operand} : opT ⟨d, .pick c x y, ty, pos, af, gd⟩ = tO [c, x, y] := opT_eq
@[go_sem] theorem T_alloc {t : TypeId} : opT ⟨d, .alloc t, ty, pos, af, gd⟩ = [] := opT_eq
@[go_sem] theorem T_box {t : TypeId} {x : Operand} : opT ⟨d, .box t x, ty, pos, af, gd⟩ = tO [x] := opT_eq
@[go_sem] theorem T_build {t : TypeId} {ps : List (Nat × Operand)} : opT ⟨d, .build t ps.toArray, ty, pos, af, gd⟩ = tO (ps.map (·.2)) := by rw [opT_eq]; simp [Op.operands]
@[go_sem] theorem T_buildSlice {t : TypeId} {m : Nat} {ps : List (Nat × Operand)} : opT ⟨d, .buildSlice t m ps.toArray, ty, pos, af, gd⟩ = tO (ps.map (·.2)) := by rw [opT_eq]; simp [Op.operands]
@[go_sem] theorem T_load {t : TypeId} {x : Operand} : opT ⟨d, .load t x, ty, pos, af, gd⟩ = tO [x] := opT_eq
@[go_sem] theorem T_store {t : TypeId} {p x : Operand} : opT ⟨d, .store t p x, ty, pos, af, gd⟩ = tO [p, x] := opT_eq
@[go_sem] theorem T_nilCheck {x : Operand} : opT ⟨d, .nilCheck x, ty, pos, af, gd⟩ = tO [x] := opT_eq
@[go_sem] theorem T_binOp {op : BinOp} {t t' : TypeId} {x y : Operand} : opT ⟨d, .binOp op t x y t', ty, pos, af, gd⟩ = tO [x, y] := opT_eq
@[go_sem] theorem T_unOp {op : UnOp} {t : TypeId} {x : Operand} : opT ⟨d, .unOp op t x, ty, pos, af, gd⟩ = tO [x] := opT_eq
@[go_sem] theorem T_convert {t u : TypeId} {x : Operand} : opT ⟨d, .convert t u x, ty, pos, af, gd⟩ = tO [x] := opT_eq
@[go_sem] theorem T_makeFunc {f : Fn} {fi ca : List Operand} : opT ⟨d, .makeFunc f fi.toArray ca.toArray, ty, pos, af, gd⟩ = tO (fi ++ ca) := by rw [opT_eq]; simp [Op.operands]
@[go_sem] theorem T_makeSlice {t : TypeId} {l c : Operand} : opT ⟨d, .makeSlice t l c, ty, pos, af, gd⟩ = tO [l, c] := opT_eq
@[go_sem] theorem T_slice {t : TypeId} {x : Operand} {lo hi mx : Option Operand} : opT ⟨d, .slice t x lo hi mx, ty, pos, af, gd⟩ = tO (x :: (opo lo ++ (opo hi ++ opo mx))) := by
  rw [opT_eq]; cases lo <;> cases hi <;> cases mx <;> rfl
@[go_sem] theorem T_fieldAddr {t : TypeId} {x : Operand} {f : Nat} : opT ⟨d, .fieldAddr t x f, ty, pos, af, gd⟩ = tO [x] := opT_eq
@[go_sem] theorem T_field {t : TypeId} {x : Operand} {f : Nat} : opT ⟨d, .field t x f, ty, pos, af, gd⟩ = tO [x] := opT_eq
@[go_sem] theorem T_indexAddr {t : TypeId} {x j : Operand} : opT ⟨d, .indexAddr t x j, ty, pos, af, gd⟩ = tO [x, j] := opT_eq
@[go_sem] theorem T_index {t : TypeId} {x j : Operand} : opT ⟨d, .index t x j, ty, pos, af, gd⟩ = tO [x, j] := opT_eq
@[go_sem] theorem T_extract {x : Operand} {j : Nat} : opT ⟨d, .extract x j, ty, pos, af, gd⟩ = tO [x] := opT_eq
@[go_sem] theorem T_builtin {b : Builtin} {xs : List Operand} {ts : Array TypeId} : opT ⟨d, .call ⟨.builtin b, xs.toArray, ts⟩, ty, pos, af, gd⟩ = tO xs := by rw [opT_eq]; simp [Op.operands, Call.operands]
@[go_sem] theorem T_call {f : Operand} {xs : List Operand} {ts : Array TypeId} : opT ⟨d, .call ⟨.value f, xs.toArray, ts⟩, ty, pos, af, gd⟩ = tO (f :: xs) := by rw [opT_eq]; simp [Op.operands, Call.operands]
/-! ### Which operations write -/
@[go_sem] theorem st_move {x : Operand} : stOp (.move x) = false := rfl
@[go_sem] theorem st_assign {x : Operand} : stOp (.assign x) = false := rfl
@[go_sem] theorem st_pick {c x y : Operand} : stOp (.pick c x y) = false := rfl
@[go_sem] theorem st_alloc {t : TypeId} : stOp (.alloc t) = false := rfl
@[go_sem] theorem st_box {t : TypeId} {x : Operand} : stOp (.box t x) = false := rfl
@[go_sem] theorem st_build {t : TypeId} {ps : Array (Nat × Operand)} : stOp (.build t ps) = false := rfl
@[go_sem] theorem st_buildSlice {t : TypeId} {m : Nat} {ps : Array (Nat × Operand)} : stOp (.buildSlice t m ps) = false := rfl
@[go_sem] theorem st_load {t : TypeId} {x : Operand} : stOp (.load t x) = false := rfl
@[go_sem] theorem st_store {t : TypeId} {p x : Operand} : stOp (.store t p x) = true := rfl
@[go_sem] theorem st_nilCheck {x : Operand} : stOp (.nilCheck x) = false := rfl
@[go_sem] theorem st_binOp {op : BinOp} {t t' : TypeId} {x y : Operand} : stOp (.binOp op t x y t') = false := rfl
@[go_sem] theorem st_unOp {op : UnOp} {t : TypeId} {x : Operand} : stOp (.unOp op t x) = false := rfl
@[go_sem] theorem st_convert {t u : TypeId} {x : Operand} : stOp (.convert t u x) = false := rfl
@[go_sem] theorem st_makeFunc {f : Fn} {fi ca : Array Operand} : stOp (.makeFunc f fi ca) = false := rfl
@[go_sem] theorem st_makeSlice {t : TypeId} {l c : Operand} : stOp (.makeSlice t l c) = false := rfl
@[go_sem] theorem st_slice {t : TypeId} {x : Operand} {lo hi mx : Option Operand} : stOp (.slice t x lo hi mx) = false := rfl
@[go_sem] theorem st_fieldAddr {t : TypeId} {x : Operand} {f : Nat} : stOp (.fieldAddr t x f) = false := rfl
@[go_sem] theorem st_field {t : TypeId} {x : Operand} {f : Nat} : stOp (.field t x f) = false := rfl
@[go_sem] theorem st_indexAddr {t : TypeId} {x j : Operand} : stOp (.indexAddr t x j) = false := rfl
@[go_sem] theorem st_index {t : TypeId} {x j : Operand} : stOp (.index t x j) = false := rfl
@[go_sem] theorem st_extract {x : Operand} {j : Nat} : stOp (.extract x j) = false := rfl
@[go_sem] theorem st_len {xs ts} : stOp (.call ⟨.builtin .len, xs, ts⟩) = false := rfl
@[go_sem] theorem st_min {xs ts} : stOp (.call ⟨.builtin .min, xs, ts⟩) = false := rfl
@[go_sem] theorem st_max {xs ts} : stOp (.call ⟨.builtin .max, xs, ts⟩) = false := rfl
@[go_sem] theorem st_append {xs ts} : stOp (.call ⟨.builtin .append, xs, ts⟩) = true := rfl
@[go_sem] theorem st_copy {xs ts} : stOp (.call ⟨.builtin .copy, xs, ts⟩) = true := rfl
@[go_sem] theorem st_cap {xs ts} : stOp (.call ⟨.builtin .cap, xs, ts⟩) = false := rfl
@[go_sem] theorem st_call {f : Operand} {xs ts} : stOp (.call ⟨.value f, xs, ts⟩) = false := rfl
/-! ### Operations -/
@[congr] theorem aopX_congr {o : Oper} (h : s = s') : aopX P T o s K = aopX P T o s' K := by rw [h]
@[congr] theorem okX_congr {x x' : Option (Prop × D)} (h : x = x') (h' : s = s') : okX x d s K = okX x' d s' K := by rw [h, h']
@[congr] theorem aclX_congr {f f' : D} {args args' : List D} (h : f = f') (h1 : args = args') (h' : s = s') : aclX T f args d s K = aclX T f' args' d s' K := by rw [h, h1, h']
@[go_sem] theorem okX_some {p : Prop} {v : D} : okX (some (p, v)) d s K = K (s.put d v) := rfl
@[go_sem] theorem X_move {x : Operand} : aopX P T ⟨d, .move x, ty, pos, af, gd⟩ s K = aop P T ⟨d, .move x, ty, pos, af, gd⟩ s K := rfl
@[go_sem] theorem X_assign {x : Operand} : aopX P T ⟨d, .assign x, ty, pos, af, gd⟩ s K = aop P T ⟨d, .assign x, ty, pos, af, gd⟩ s K := rfl
@[go_sem] theorem X_pick {c x y : Operand} : aopX P T ⟨d, .pick c x y, ty, pos, af, gd⟩ s K = aop P T ⟨d, .pick c x y, ty, pos, af, gd⟩ s K := rfl
@[go_sem] theorem X_alloc {t : TypeId} : aopX P T ⟨d, .alloc t, ty, pos, af, gd⟩ s K = aop P T ⟨d, .alloc t, ty, pos, af, gd⟩ s K := rfl
@[go_sem] theorem X_box {t : TypeId} {x : Operand} : aopX P T ⟨d, .box t x, ty, pos, af, gd⟩ s K = aop P T ⟨d, .box t x, ty, pos, af, gd⟩ s K := rfl
@[go_sem] theorem X_build {t : TypeId} {ps : Array (Nat × Operand)} : aopX P T ⟨d, .build t ps, ty, pos, af, gd⟩ s K = aop P T ⟨d, .build t ps, ty, pos, af, gd⟩ s K := rfl
@[go_sem] theorem X_buildSlice {t : TypeId} {m : Nat} {ps : Array (Nat × Operand)} : aopX P T ⟨d, .buildSlice t m ps, ty, pos, af, gd⟩ s K = aop P T ⟨d, .buildSlice t m ps, ty, pos, af, gd⟩ s K := rfl
@[go_sem] theorem X_load {t : TypeId} {x : Operand} : aopX P T ⟨d, .load t x, ty, pos, af, gd⟩ s K = aop P T ⟨d, .load t x, ty, pos, af, gd⟩ s K := rfl
@[go_sem] theorem X_store {t : TypeId} {p x : Operand} : aopX P T ⟨d, .store t p x, ty, pos, af, gd⟩ s K = aop P T ⟨d, .store t p x, ty, pos, af, gd⟩ s K := rfl
@[go_sem] theorem X_nilCheck {x : Operand} : aopX P T ⟨d, .nilCheck x, ty, pos, af, gd⟩ s K = aop P T ⟨d, .nilCheck x, ty, pos, af, gd⟩ s K := rfl
@[go_sem] theorem X_binOp {op : BinOp} {t t' : TypeId} {x y : Operand} : aopX P T ⟨d, .binOp op t x y t', ty, pos, af, gd⟩ s K = (nilq P op t (s.ev x) (s.ev y) = none ∧ okP (binD P op t (s.ev x) (s.ev y)) d s K) := rfl
@[go_sem] theorem X_unOp {op : UnOp} {t : TypeId} {x : Operand} : aopX P T ⟨d, .unOp op t x, ty, pos, af, gd⟩ s K = aop P T ⟨d, .unOp op t x, ty, pos, af, gd⟩ s K := rfl
@[go_sem] theorem X_convert {t u : TypeId} {x : Operand} : aopX P T ⟨d, .convert t u x, ty, pos, af, gd⟩ s K = aop P T ⟨d, .convert t u x, ty, pos, af, gd⟩ s K := rfl
@[go_sem] theorem X_makeFunc {f : Fn} {fi ca : Array Operand} : aopX P T ⟨d, .makeFunc f fi ca, ty, pos, af, gd⟩ s K = aop P T ⟨d, .makeFunc f fi ca, ty, pos, af, gd⟩ s K := rfl
@[go_sem] theorem X_makeSlice {t : TypeId} {l c : Operand} : aopX P T ⟨d, .makeSlice t l c, ty, pos, af, gd⟩ s K = aop P T ⟨d, .makeSlice t l c, ty, pos, af, gd⟩ s K := rfl
@[go_sem] theorem X_slice {t : TypeId} {x : Operand} {lo hi mx : Option Operand} : aopX P T ⟨d, .slice t x lo hi mx, ty, pos, af, gd⟩ s K = aop P T ⟨d, .slice t x lo hi mx, ty, pos, af, gd⟩ s K := rfl
@[go_sem] theorem X_fieldAddr {t : TypeId} {x : Operand} {f : Nat} : aopX P T ⟨d, .fieldAddr t x f, ty, pos, af, gd⟩ s K = aop P T ⟨d, .fieldAddr t x f, ty, pos, af, gd⟩ s K := rfl
@[go_sem] theorem X_field {t : TypeId} {x : Operand} {f : Nat} : aopX P T ⟨d, .field t x f, ty, pos, af, gd⟩ s K = aop P T ⟨d, .field t x f, ty, pos, af, gd⟩ s K := rfl
@[go_sem] theorem X_indexAddr {t : TypeId} {x j : Operand} : aopX P T ⟨d, .indexAddr t x j, ty, pos, af, gd⟩ s K = aop P T ⟨d, .indexAddr t x j, ty, pos, af, gd⟩ s K := rfl
@[go_sem] theorem X_index {t : TypeId} {x j : Operand} : aopX P T ⟨d, .index t x j, ty, pos, af, gd⟩ s K = aop P T ⟨d, .index t x j, ty, pos, af, gd⟩ s K := rfl
@[go_sem] theorem X_extract {x : Operand} {j : Nat} : aopX P T ⟨d, .extract x j, ty, pos, af, gd⟩ s K = aop P T ⟨d, .extract x j, ty, pos, af, gd⟩ s K := rfl
@[go_sem] theorem X_len {x : Operand} {t : TypeId} : aopX P T ⟨d, .call ⟨.builtin .len, #[x], #[t]⟩, ty, pos, af, gd⟩ s K = ((elOf P t).isSome = true ∧ okX (lenD (s.ev x)) d s K) := rfl
@[go_sem] theorem X_min {xs : Array Operand} {ts : Array TypeId} : aopX P T ⟨d, .call ⟨.builtin .min, xs, ts⟩, ty, pos, af, gd⟩ s K = aop P T ⟨d, .call ⟨.builtin .min, xs, ts⟩, ty, pos, af, gd⟩ s K := rfl
@[go_sem] theorem X_max {xs : Array Operand} {ts : Array TypeId} : aopX P T ⟨d, .call ⟨.builtin .max, xs, ts⟩, ty, pos, af, gd⟩ s K = aop P T ⟨d, .call ⟨.builtin .max, xs, ts⟩, ty, pos, af, gd⟩ s K := rfl
@[go_sem] theorem X_append {x y : Operand} {t u : TypeId} : aopX P T ⟨d, .call ⟨.builtin .append, #[x, y], #[t, u]⟩, ty, pos, af, gd⟩ s K = (appM P s t u (s.ev x) (s.ev y) = none ∧ t = u ∧ okT (appD P s t d (s.ev x) (s.ev y)) K) := rfl
@[go_sem] theorem X_copy {xs : Array Operand} {ts : Array TypeId} : aopX P T ⟨d, .call ⟨.builtin .copy, xs, ts⟩, ty, pos, af, gd⟩ s K = aop P T ⟨d, .call ⟨.builtin .copy, xs, ts⟩, ty, pos, af, gd⟩ s K := rfl
@[go_sem] theorem X_cap {xs : Array Operand} {ts : Array TypeId} : aopX P T ⟨d, .call ⟨.builtin .cap, xs, ts⟩, ty, pos, af, gd⟩ s K = aop P T ⟨d, .call ⟨.builtin .cap, xs, ts⟩, ty, pos, af, gd⟩ s K := rfl
@[go_sem] theorem X_call {f : Operand} {xs : List Operand} {ts : Array TypeId} : aopX P T ⟨d, .call ⟨.value f, xs.toArray, ts⟩, ty, pos, af, gd⟩ s K = aclX T (s.ev f) (xs.map s.ev) d s K := rfl
def xcX (x : Option (Prop × D × List (Nat × Ob) × Nat)) (tm : List (Nat × D)) (d : Option Nat) (K : St → Prop) : Prop := match x with
  | some (p, r, os', nx') => p ∧ K (St.put ⟨tm, os', nx'⟩ d r)
  | none => False
@[congr] theorem xcX_congr {x x' : Option (Prop × D × List (Nat × Ob) × Nat)} {tm tm' : List (Nat × D)} (h : x = x') (h' : tm = tm') : xcX x tm d K = xcX x' tm' d K := by rw [h, h']
@[go_sem] theorem aclX_fn {f : FuncId} {fi ca args : List D} {tm : List (Nat × D)} {os : List (Nat × Ob)} {nx : Nat} : aclX T (.fn (.func f) fi ca) args d ⟨tm, os, nx⟩ K = (ovm T f = false ∧ xcX (look T os nx f (fi ++ args ++ ca)) tm d K) := rfl
@[go_sem] theorem xcX_some {p : Prop} {v : D} {tm : List (Nat × D)} {os : List (Nat × Ob)} {nx : Nat} : xcX (some (p, v, os, nx)) tm d K = (p ∧ K (St.put ⟨tm, os, nx⟩ d v)) := rfl
/-! ### In whatever order -/
@[go_sem] theorem push_c {j n : Nat} {T W : List Nat} {B nx : Nat} : push ⟨j, n :: T, W, B, nx⟩ acc = ⟨j, n :: T, W, B, nx⟩ :: acc := rfl
@[go_sem] theorem push_n {j : Nat} {W : List Nat} {B nx : Nat} : push ⟨j, [], W, B, nx⟩ acc = if nx = B then acc else ⟨j, [], W, B, nx⟩ :: acc := rfl
def kdx (P : Program) (T : Tab) (all : Array Oper) (rest : List Oper) (us : List Nat) (i : Nat) (K : St → Prop) : List Ft → St → Prop := fun acc s => dx P T all rest us i acc K s
def kdxE (P : Program) (T : Tab) (o : Oper) (u i : Nat) (acc : List Ft) (k : List Ft → St → Prop) : St → Prop := fun s => dxE P T o u i acc s k
def kdxS (P : Program) (T : Tab) (all : Array Oper) (d : Option Nat) (rest : List Oper) (us : List Nat) (i : Nat) (acc : List Ft) (K : St → Prop) : St → Prop := fun s => dx P T all rest us i acc K (s.put d .skip)
variable {us us' : List Nat} {u u' : Nat}
@[congr] theorem dx_congr {l : List Oper} (hu : us = us') (hi : i = i') (ha : acc = acc') (h : s = s') : dx P T all l us i acc K s = dx P T all l us' i' acc' K s' := by rw [hu, hi, ha, h]
@[congr] theorem kdx_congr {l : List Oper} (hu : us = us') (hi : i = i') (ha : acc = acc') (h : s = s') : kdx P T all l us i K acc s = kdx P T all l us' i' K acc' s' := by rw [hu, hi, ha, h]
@[congr] theorem kdxE_congr {o : Oper} {k : List Ft → St → Prop} (hu : u = u') (hi : i = i') (ha : acc = acc') (h : s = s') : kdxE P T o u i acc k s = kdxE P T o u' i' acc' k s' := by rw [hu, hi, ha, h]
@[congr] theorem kdxS_congr {l : List Oper} (hu : us = us') (hi : i = i') (ha : acc = acc') (h : s = s') : kdxS P T all d l us i acc K s = kdxS P T all d l us' i' acc' K s' := by rw [hu, hi, ha, h]
@[congr] theorem dxE_congr {o : Oper} {k : List Ft → St → Prop} (hu : u = u') (hi : i = i') (ha : acc = acc') (h : s = s') : dxE P T o u i acc s k = dxE P T o u' i' acc' s' k := by rw [hu, hi, ha, h]
@[congr] theorem dxL_congr {o : Oper} {k : List Ft → St → Prop} {Tt Tt' : List Nat} (hu : u = u') (hi : i = i') (ha : acc = acc') (h : s = s') (ht : Tt = Tt') : dxL P T o u i acc s k Tt = dxL P T o u' i' acc' s' k Tt' := by rw [hu, hi, ha, h, ht]
@[congr] theorem dxR_congr {o : Oper} {k : List Ft → St → Prop} {r r' : St} (h : r = r') : dxR P o u i acc s Tt k r = dxR P o u i acc s Tt k r' := by rw [h]
@[congr] theorem dxW_congr {o : Oper} {k : List Ft → St → Prop} {W W' : List Nat} {r r' : St} (hr : r = r') (h : W = W') : dxW P o u i acc s Tt r k W = dxW P o u i acc s Tt r' k W' := by rw [hr, h]
@[go_sem] theorem DX_nil : dx P T all [] us i acc K s = K s := rfl
@[go_sem] theorem DX_none {op : Op} : dx P T all (⟨d, op, ty, pos, af, none⟩ :: rest) us i acc K s = dxE P T ⟨d, op, ty, pos, af, none⟩ (uh us) i acc s (kdx P T all rest (ut us) (i + 1) K) := rfl
@[go_sem] theorem DX_guard {op : Op} {j : Nat} {w : Bool} : dx P T all (⟨d, op, ty, pos, af, some (j, w)⟩ :: rest) us i acc K s =
    grd (gtmp all j) (s.gd (gtmp all j)) w (kdxE P T ⟨d, op, ty, pos, af, some (j, w)⟩ (uh us) i acc (kdx P T all rest (ut us) (i + 1) K)) (kdxS P T all d rest (ut us) (i + 1) acc K) s := rfl
@[go_sem] theorem DX_appc {o : Oper} {l r : List Oper} : dx P T all (List.append (o :: l) r) us i acc K s = dx P T all (o :: List.append l r) us i acc K s := rfl
@[go_sem] theorem DX_appn {r : List Oper} : dx P T all (List.append [] r) us i acc K s = dx P T all r us i acc K s := rfl
@[go_sem] theorem DX_appa {l r q : List Oper} : dx P T all (List.append (List.append l r) q) us i acc K s = dx P T all (List.append l (List.append r q)) us i acc K s := by
  rw [List.append_eq, List.append_eq, List.append_eq, List.append_eq, List.append_assoc]
@[go_sem] theorem kdx_app {l : List Oper} : kdx P T all l us i K acc s = dx P T all l us i acc K s := rfl
@[go_sem] theorem kdxE_app {o : Oper} {k : List Ft → St → Prop} : kdxE P T o u i acc k s = dxE P T o u i acc s k := rfl
@[go_sem] theorem kdxS_app : kdxS P T all d rest us i acc K s = dx P T all rest us i acc K (s.put d .skip) := rfl
@[go_sem] theorem dxE_eq {o : Oper} {k : List Ft → St → Prop} {tm : List (Nat × D)} {os : List (Nat × Ob)} {nx : Nat} : dxE P T o u i acc ⟨tm, os, nx⟩ k = dxL P T o u i acc ⟨tm, os, nx⟩ k (clo os (uni (midsA (pickL (opT o) tm)) [])) := rfl
@[go_sem] theorem dxL_eq {o : Oper} {k : List Ft → St → Prop} {tm : List (Nat × D)} {os : List (Nat × Ob)} {nx : Nat} : dxL P T o u i acc ⟨tm, os, nx⟩ k Tt = aopX P T o (St.loc (opT o) Tt nx ⟨tm, os, nx⟩) (dxR P o u i acc ⟨tm, os, nx⟩ Tt k) := rfl
@[go_sem] theorem dxR_eq {op : Op} {k : List Ft → St → Prop} {tm : List (Nat × D)} {os : List (Nat × Ob)} {nx : Nat} : dxR P ⟨d, op, ty, pos, af, gd⟩ u i acc s Tt k ⟨tm, os, nx⟩ = dxW P ⟨d, op, ty, pos, af, gd⟩ u i acc s Tt ⟨tm, os, nx⟩ k (wOf (stOp op) Tt os) := rfl
@[go_sem] theorem dxW_eq {op : Op} {k : List Ft → St → Prop} {tm tm' : List (Nat × D)} {os os' : List (Nat × Ob)} {nx nx' : Nat} : dxW P ⟨d, op, ty, pos, af, gd⟩ u i acc ⟨tm, os, nx⟩ Tt ⟨tm', os', nx'⟩ k W =
    (low nx Tt = true ∧ valsB Tt (pickL (opT ⟨d, op, ty, pos, af, gd⟩) tm) = true ∧ obsB Tt (pickL Tt os) = true ∧ nx ≤ nx' ∧ rosB Tt nx nx' os' = true ∧ rvP Tt nx nx' tm' d ∧ sameO W os' os Tt ∧
    accB u ⟨i, Tt, W, nx, nx'⟩ acc ∧ k (push ⟨i, Tt, W, nx, nx'⟩ acc) (St.mrg ⟨tm, os, nx⟩ Tt d ⟨tm', os', nx'⟩)) := rfl
end
end Dm
