import Derived.Test.YtpaojpjhppgoeaaS14
set_option linter.unusedSimpArgs false
set_option linter.unusedVariables false
/-! The rules by which simp carries out the abstract machine. -/
namespace Dm
open Go

section
variable {P : Program} {T : Tab} {n N : Nat} {lv : Nat → Option (List Nat)} {all : Array Oper} {rest : List Oper} {s s' : St} {K : St → Prop} {Q : Exit → St → Prop} {d : Option Nat} {ty : TypeId} {pos : String} {af : Array Edge} {gd : Option (Nat × Bool)}

@[congr] theorem awp_congr {c : Code} (h : s = s') : awp P T n N lv c Q s = awp P T n N lv c Q s' := by rw [h]
@[congr] theorem aops_congr {l : List Oper} (h : s = s') : aops P T all l s K = aops P T all l s' K := by rw [h]
@[congr] theorem aopsQ_congr {l : List Oper} (h : s = s') : aopsQ P T all l s K = aopsQ P T all l s' K := by rw [h]
@[congr] theorem aop_congr {o : Oper} (h : s = s') : aop P T o s K = aop P T o s' K := by rw [h]
@[congr] theorem aopQ_congr {o : Oper} (h : s = s') : aopQ P T o s K = aopQ P T o s' K := by rw [h]
@[congr] theorem SWp_congr {c : Code} (h : s = s') : SWp P n N c Q s = SWp P n N c Q s' := by rw [h]
@[congr] theorem ADraw_congr {i : Nat} {ops : Array Oper} (h : s = s') : ADraw P n N i ops Q s = ADraw P n N i ops Q s' := by rw [h]
@[congr] theorem ACall_congr {f : FuncId} {ds ds' : List D} {os os' : List (Nat × Ob)} {nx nx' : Nat} {R : D → List (Nat × Ob) → Nat → Prop} (h : ds = ds') (h1 : os = os') (h2 : nx = nx') : ACall P f ds os nx R = ACall P f ds' os' nx' R := by rw [h, h1, h2]
@[congr] theorem QCall_congr {f : FuncId} {ds ds' : List D} {os os' : List (Nat × Ob)} {R : D → Prop} (h : ds = ds') (h1 : os = os') : QCall P f ds os R = QCall P f ds' os' R := by rw [h, h1]
@[congr] theorem okD_congr {x x' : Option D} (h : x = x') (h' : s = s') : okD x d s K = okD x' d s' K := by rw [h, h']
@[congr] theorem okP_congr {x x' : Option (Prop × D)} (h : x = x') (h' : s = s') : okP x d s K = okP x' d s' K := by rw [h, h']
@[congr] theorem okH_congr {x x' : Option (Prop × D)} (h : x = x') (h' : s = s') : okH x d s K = okH x' d s' K := by rw [h, h']
@[congr] theorem okB_congr {x x' : Option D} (h : x = x') (h' : s = s') : okB x d s K = okB x' d s' K := by rw [h, h']
@[congr] theorem okV_congr {x x' : Option (Nat × TypeId × List (List C))} (h : x = x') (h' : s = s') : okV x d s K = okV x' d s' K := by rw [h, h']
@[congr] theorem okU_congr {x x' : Option (Bool × Prop)} {A A' : Prop} (h : x = x') (h' : s = s') (hA : A = A') : okU x d s K A = okU x' d s' K A' := by rw [h, h', hA]
@[congr] theorem okS_congr {x x' : Option St} (h : x = x') : okS x K = okS x' K := by rw [h]
@[congr] theorem okT_congr {x x' : Option (Prop × St)} (h : x = x') : okT x K = okT x' K := by rw [h]
@[congr] theorem pk_congr {c c' a a' b b' : D} (h : c = c') (h1 : a = a') (h2 : b = b') (h' : s = s') : pk c a b d s K = pk c' a' b' d s' K := by rw [h, h', h1, h2]
@[congr] theorem nchk_congr {x x' : D} (h : x = x') (h' : s = s') : nchk x d s K = nchk x' d s' K := by rw [h, h']
@[congr] theorem cd_congr {c c' : D} {A B : St → Prop} (h : c = c') (h' : s = s') : cd c A B s = cd c' A B s' := by rw [h, h']
@[congr] theorem grd_congr {t t' : Option Nat} {v v' : D} {w : Bool} {A B : St → Prop} (ht : t = t') (h : v = v') (h' : s = s') : grd t v w A B s = grd t' v' w A B s' := by rw [h, h', ht]
@[congr] theorem rg_congr {l l' : Option (List Nat)} (h : l = l') (h' : s = s') : rg l Q s = rg l' Q s' := by rw [h, h']
@[congr] theorem sq_congr {A : St → Prop} {e : Exit} (h' : s = s') : sq A Q e s = sq A Q e s' := by rw [h']
@[congr] theorem bl_congr {i : Nat} {e : Exit} (h' : s = s') : bl i Q e s = bl i Q e s' := by rw [h']
@[congr] theorem lp_congr {ι : Type} {S : ι → St} {μ : ι → Nat} {m : Nat} {e : Exit} (h' : s = s') : lp N S μ m Q e s = lp N S μ m Q e s' := by rw [h']
@[congr] theorem rto_congr {x x' : Option D} {R : D → List (Nat × Ob) → Nat → Prop} (h : x = x') (h' : s = s') : rto x s R = rto x' s' R := by rw [h, h']
@[congr] theorem fin_congr {rs : List ResultVar} {R : D → List (Nat × Ob) → Nat → Prop} {e : Exit} (h' : s = s') : fin P rs R e s = fin P rs R e s' := by rw [h']

/-! ### Code -/
@[go_sem] theorem W_skip : awp P T n N lv .skip Q s = Q .normal s := rfl
@[go_sem] theorem W_label {l : Nat} : awp P T n N lv (.label l) Q s = Q .normal s := rfl
@[go_sem] theorem W_region {i : Nat} {ops : List Oper} : awp P T n N lv (.region i ops.toArray false) Q s = aops P T ops.toArray ops s (rg (lv i) Q) := rfl
@[go_sem] theorem W_draw {i : Nat} {ops : Array Oper} : awp P T n N lv (.region i ops true) Q s = ADraw P n N i ops (sq (rg (lv i) Q) Q) s := rfl
@[go_sem] theorem W_seq {a b : Code} : awp P T n N lv (.seq a b) Q s = awp P T n N lv a (sq (awp P T n N lv b Q) Q) s := rfl
@[go_sem] theorem W_cond {c : Operand} {x y : Code} : awp P T n N lv (.cond c x y) Q s = cd (s.ev c) (awp P T n N lv x Q) (awp P T n N lv y Q) s := rfl
@[go_sem] theorem W_block {i : Nat} {c : Code} : awp P T n N lv (.block i c) Q s = awp P T n N lv c (bl i Q) s := rfl
@[go_sem] theorem W_exit {i : Nat} : awp P T n N lv (.exit i) Q s = Q (.exit i) s := rfl
@[go_sem] theorem W_ret : awp P T n N lv .ret Q s = Q .ret s := rfl
@[go_sem] theorem W_loop {c : Code} : awp P T n N lv (.loop c) Q s = SWp P n N (.loop c) Q s := rfl
@[go_sem] theorem sq_n {A : St → Prop} : sq A Q .normal s = A s := rfl
@[go_sem] theorem sq_r {A : St → Prop} : sq A Q .ret s = Q .ret s := rfl
@[go_sem] theorem sq_e {A : St → Prop} {i : Nat} : sq A Q (.exit i) s = Q (.exit i) s := rfl
@[go_sem] theorem bl_n {i : Nat} : bl i Q .normal s = Q .normal s := rfl
@[go_sem] theorem bl_r {i : Nat} : bl i Q .ret s = Q .ret s := rfl
@[go_sem] theorem bl_eq {i : Nat} : bl i Q (.exit i) s = Q .normal s := by simp [bl]
@[go_sem] theorem bl_e {i j : Nat} : bl i Q (.exit j) s = if j = i then Q .normal s else Q (.exit j) s := rfl
@[go_sem] theorem lp_n {ι : Type} {S : ι → St} {μ : ι → Nat} {m : Nat} : lp N S μ m Q .normal s = ∃ i, μ i < m ∧ Sub N s (S i) := rfl
@[go_sem] theorem lp_r {ι : Type} {S : ι → St} {μ : ι → Nat} {m : Nat} : lp N S μ m Q .ret s = Q .ret s := rfl
@[go_sem] theorem lp_e {ι : Type} {S : ι → St} {μ : ι → Nat} {m i : Nat} : lp N S μ m Q (.exit i) s = Q (.exit i) s := rfl
@[go_sem] theorem fin_n {rs : List ResultVar} {R : D → List (Nat × Ob) → Nat → Prop} : fin P rs R .normal s = rto (rdD P s rs) s R := rfl
@[go_sem] theorem fin_r {rs : List ResultVar} {R : D → List (Nat × Ob) → Nat → Prop} : fin P rs R .ret s = rto (rdD P s rs) s R := rfl
@[go_sem] theorem rto_some {x : D} {tm : List (Nat × D)} {os : List (Nat × Ob)} {nx : Nat} {R : D → List (Nat × Ob) → Nat → Prop} : rto (some x) ⟨tm, os, nx⟩ R = R x os nx := rfl
@[go_sem] theorem rdD_1 {r : ResultVar} : rdD P s [r] = rd1 P s r := by
  unfold rdD rds
  cases rd1 P s r <;> rfl
@[go_sem] theorem rdD_2 {r r' : ResultVar} : rdD P s [r, r'] = match rd1 P s r, rd1 P s r' with | some x, some y => some (.tup [x, y]) | _, _ => none := by
  unfold rdD rds rds rds
  cases rd1 P s r <;> cases rd1 P s r' <;> rfl
@[go_sem] theorem rdD_3 {r r' r'' : ResultVar} : rdD P s [r, r', r''] = match rd1 P s r, rd1 P s r', rd1 P s r'' with | some x, some y, some z => some (.tup [x, y, z]) | _, _, _ => none := by
  unfold rdD rds rds rds rds
  cases rd1 P s r <;> cases rd1 P s r' <;> cases rd1 P s r'' <;> rfl
@[go_sem] theorem rd1_t {t : Nat} : rd1 P s (.tmp t) = some (s.get t) := rfl
@[go_sem] theorem rd1_c {x : Nat} {t : TypeId} : rd1 P s (.cell x t) = ldD P s t (s.get x) := rfl
/-- What is kept of the temporaries. -/
def prn (tm : List (Nat × D)) : List Nat → List (Nat × D)
  | [] => []
  | t :: l => match lk t tm with
    | some x => (t, x) :: prn tm l
    | none => prn tm l
def pc (t : Nat) (r : List (Nat × D)) : Option D → List (Nat × D)
  | some x => (t, x) :: r
  | none => r
theorem prn_eq (tm : List (Nat × D)) : ∀ l : List Nat, (l.filterMap fun t => match lk t tm with | some d => some (t, d) | none => none) = prn tm l
  | [] => rfl
  | t :: l => by
    simp only [List.filterMap_cons, prn]
    cases lk t tm with
    | none => exact prn_eq tm l
    | some x => exact congrArg _ (prn_eq tm l)
@[go_sem] theorem rg_some {tm : List (Nat × D)} {os : List (Nat × Ob)} {nx : Nat} {l : List Nat} : rg (some l) Q ⟨tm, os, nx⟩ = Q .normal ⟨prn tm l, os, nx⟩ :=
  congrArg (fun z => Q .normal ⟨z, os, nx⟩) (prn_eq tm l)
@[go_sem] theorem rg_none : rg none Q s = Q .normal s := rfl
@[go_sem] theorem prn_nil {tm : List (Nat × D)} : prn tm [] = [] := rfl
@[go_sem] theorem prn_cons {tm : List (Nat × D)} {t : Nat} {l : List Nat} : prn tm (t :: l) = pc t (prn tm l) (lk t tm) := by
  simp only [prn]
  cases lk t tm <;> rfl
@[go_sem] theorem pc_some {t : Nat} {r : List (Nat × D)} {x : D} : pc t r (some x) = (t, x) :: r := rfl
@[go_sem] theorem pc_none {t : Nat} {r : List (Nat × D)} : pc t r none = r := rfl

/-! ### Operations; what follows stands under names, so that simp does not look into it -/
def kops (P : Program) (T : Tab) (all : Array Oper) (rest : List Oper) (K : St → Prop) : St → Prop := fun s => aops P T all rest s K
def kops' (P : Program) (T : Tab) (all : Array Oper) (o : Oper) (rest : List Oper) (K : St → Prop) : St → Prop := fun s => aop P T o s (kops P T all rest K)
def kopsN (P : Program) (T : Tab) (all : Array Oper) (d : Option Nat) (rest : List Oper) (K : St → Prop) : St → Prop := fun s => aops P T all rest (s.put d .skip) K
def kopsQ (P : Program) (T : Tab) (all : Array Oper) (rest : List Oper) (K : St → Prop) : St → Prop := fun s => aopsQ P T all rest s K
def kopsQ' (P : Program) (T : Tab) (all : Array Oper) (o : Oper) (rest : List Oper) (K : St → Prop) : St → Prop := fun s => aopQ P T o s (kopsQ P T all rest K)
def kopsQN (P : Program) (T : Tab) (all : Array Oper) (d : Option Nat) (rest : List Oper) (K : St → Prop) : St → Prop := fun s => aopsQ P T all rest (s.put d .skip) K
def kst (d : Option Nat) (K : St → Prop) : St → Prop := fun s => K (s.put d .skip)
def kcl (tm : List (Nat × D)) (d : Option Nat) (K : St → Prop) : D → List (Nat × Ob) → Nat → Prop := fun v os nx => K (St.put ⟨tm, os, nx⟩ d v)
def kq (s : St) (d : Option Nat) (K : St → Prop) : D → Prop := fun v => K (s.put d v)
@[go_sem] theorem kops_app {l : List Oper} : kops P T all l K s = aops P T all l s K := rfl
@[go_sem] theorem kops'_app {o : Oper} : kops' P T all o rest K s = aop P T o s (kops P T all rest K) := rfl
@[go_sem] theorem kopsN_app : kopsN P T all d rest K s = aops P T all rest (s.put d .skip) K := rfl
@[go_sem] theorem kopsQ_app {l : List Oper} : kopsQ P T all l K s = aopsQ P T all l s K := rfl
@[go_sem] theorem kopsQ'_app {o : Oper} : kopsQ' P T all o rest K s = aopQ P T o s (kopsQ P T all rest K) := rfl
@[go_sem] theorem kopsQN_app : kopsQN P T all d rest K s = aopsQ P T all rest (s.put d .skip) K := rfl
@[go_sem] theorem kst_app : kst d K s = K (s.put d .skip) := rfl
@[go_sem] theorem kcl_app {tm : List (Nat × D)} {v : D} {os : List (Nat × Ob)} {nx : Nat} : kcl tm d K v os nx = K (St.put ⟨tm, os, nx⟩ d v) := rfl
@[go_sem] theorem kq_app {v : D} : kq s d K v = K (s.put d v) := rfl
@[go_sem] theorem L_nil : aops P T all [] s K = K s := rfl
@[go_sem] theorem L_none {op : Op} : aops P T all (⟨d, op, ty, pos, af, none⟩ :: rest) s K = aop P T ⟨d, op, ty, pos, af, none⟩ s (kops P T all rest K) := rfl
@[go_sem] theorem L_guard {op : Op} {j : Nat} {w : Bool} : aops P T all (⟨d, op, ty, pos, af, some (j, w)⟩ :: rest) s K =
    grd (gtmp all j) (s.gd (gtmp all j)) w (kops' P T all ⟨d, op, ty, pos, af, some (j, w)⟩ rest K) (kopsN P T all d rest K) s := rfl
@[go_sem] theorem LQ_nil : aopsQ P T all [] s K = K s := rfl
@[go_sem] theorem LQ_none {op : Op} : aopsQ P T all (⟨d, op, ty, pos, af, none⟩ :: rest) s K = aopQ P T ⟨d, op, ty, pos, af, none⟩ s (kopsQ P T all rest K) := rfl
@[go_sem] theorem LQ_guard {op : Op} {j : Nat} {w : Bool} : aopsQ P T all (⟨d, op, ty, pos, af, some (j, w)⟩ :: rest) s K =
    grd (gtmp all j) (s.gd (gtmp all j)) w (kopsQ' P T all ⟨d, op, ty, pos, af, some (j, w)⟩ rest K) (kopsQN P T all d rest K) s := rfl
/-- Long lists of operations stand in pieces. -/
@[go_sem] theorem L_appc {o : Oper} {l r : List Oper} : aops P T all (List.append (o :: l) r) s K = aops P T all (o :: List.append l r) s K := rfl
@[go_sem] theorem L_appn {r : List Oper} : aops P T all (List.append [] r) s K = aops P T all r s K := rfl
@[go_sem] theorem L_appa {l r q : List Oper} : aops P T all (List.append (List.append l r) q) s K = aops P T all (List.append l (List.append r q)) s K := by
  rw [List.append_eq, List.append_eq, List.append_eq, List.append_eq, List.append_assoc]
@[go_sem] theorem LQ_appc {o : Oper} {l r : List Oper} : aopsQ P T all (List.append (o :: l) r) s K = aopsQ P T all (o :: List.append l r) s K := rfl
@[go_sem] theorem LQ_appn {r : List Oper} : aopsQ P T all (List.append [] r) s K = aopsQ P T all r s K := rfl
@[go_sem] theorem LQ_appa {l r q : List Oper} : aopsQ P T all (List.append (List.append l r) q) s K = aopsQ P T all (List.append l (List.append r q)) s K := by
  rw [List.append_eq, List.append_eq, List.append_eq, List.append_eq, List.append_assoc]
/-- Where an operation's answer stands. -/
def gtl : List Oper → Nat → Option Nat
  | [], _ => none
  | o :: _, 0 => o.dst
  | _ :: l, j + 1 => gtl l j
theorem gtl_eq : ∀ (l : List Oper) (j : Nat), (match l[j]? with | some o => o.dst | none => none) = gtl l j
  | [], j => rfl
  | o :: _, 0 => rfl
  | _ :: l, j + 1 => gtl_eq l j
@[congr] theorem gtl_congr {l : List Oper} {j j' : Nat} (h : j = j') : gtl l j = gtl l j' := by rw [h]
@[congr] theorem gtmp_congr {l : Array Oper} {j j' : Nat} (h : j = j') : gtmp l j = gtmp l j' := by rw [h]
@[go_sem] theorem gtmp_mk {l : List Oper} {j : Nat} : gtmp l.toArray j = gtl l j := by
  rw [← gtl_eq]
  cases h : l[j]? <;> simp [gtmp, h]
@[go_sem] theorem gtl_0 {op : Op} {l : List Oper} : gtl (⟨d, op, ty, pos, af, gd⟩ :: l) 0 = d := rfl
@[go_sem] theorem gtl_s {o : Oper} {l : List Oper} {j : Nat} : gtl (o :: l) (j + 1) = gtl l j := rfl
@[go_sem] theorem gtl_appc {o : Oper} {l r : List Oper} {j : Nat} : gtl (List.append (o :: l) r) j = gtl (o :: List.append l r) j := rfl
@[go_sem] theorem gtl_appn {r : List Oper} {j : Nat} : gtl (List.append [] r) j = gtl r j := rfl
@[go_sem] theorem gtl_appa {l r q : List Oper} {j : Nat} : gtl (List.append (List.append l r) q) j = gtl (List.append l (List.append r q)) j := by
  rw [List.append_eq, List.append_eq, List.append_eq, List.append_eq, List.append_assoc]
@[go_sem] theorem A_move {x : Operand} : aop P T ⟨d, .move x, ty, pos, af, gd⟩ s K = K (s.put d (s.ev x)) := rfl
@[go_sem] theorem A_assign {x : Operand} : aop P T ⟨d, .assign x, ty, pos, af, gd⟩ s K = K (s.put d (s.ev x)) := rfl
@[go_sem] theorem A_pick {c x y : Operand} : aop P T ⟨d, .pick c x y, ty, pos, af, gd⟩ s K = pk (s.ev c) (s.ev x) (s.ev y) d s K := rfl
@[go_sem] theorem A_alloc {t : TypeId} : aop P T ⟨d, .alloc t, ty, pos, af, gd⟩ s K = okB (zOf P t) d s K := rfl
@[go_sem] theorem A_box {t : TypeId} {x : Operand} : aop P T ⟨d, .box t x, ty, pos, af, gd⟩ s K = okB (some (s.ev x)) d s K := rfl
@[go_sem] theorem A_build {t : TypeId} {ps : List (Nat × Operand)} : aop P T ⟨d, .build t ps.toArray, ty, pos, af, gd⟩ s K = okD (buildD P t (ps.map fun (i, x) => (i, s.ev x))) d s K := rfl
@[go_sem] theorem A_buildSlice {t : TypeId} {m : Nat} {ps : List (Nat × Operand)} : aop P T ⟨d, .buildSlice t m ps.toArray, ty, pos, af, gd⟩ s K = okV (bslD P t m (ps.map fun (i, x) => (i, s.ev x))) d s K := rfl
@[go_sem] theorem A_load {t : TypeId} {x : Operand} : aop P T ⟨d, .load t x, ty, pos, af, gd⟩ s K = okD (ldD P s t (s.ev x)) d s K := rfl
@[go_sem] theorem A_store {t : TypeId} {p x : Operand} : aop P T ⟨d, .store t p x, ty, pos, af, gd⟩ s K = okS (stD P s t (s.ev p) (s.ev x)) (kst d K) := rfl
@[go_sem] theorem A_nilCheck {x : Operand} : aop P T ⟨d, .nilCheck x, ty, pos, af, gd⟩ s K = nchk (s.ev x) d s K := rfl
@[go_sem] theorem A_binOp {op : BinOp} {t t' : TypeId} {x y : Operand} : aop P T ⟨d, .binOp op t x y t', ty, pos, af, gd⟩ s K = okU (nilq P op t (s.ev x) (s.ev y)) d s K (okP (binD P op t (s.ev x) (s.ev y)) d s K) := rfl
@[go_sem] theorem A_unOp {op : UnOp} {t : TypeId} {x : Operand} : aop P T ⟨d, .unOp op t x, ty, pos, af, gd⟩ s K = okD (unD op (s.ev x)) d s K := rfl
@[go_sem] theorem A_convert {t u : TypeId} {x : Operand} : aop P T ⟨d, .convert t u x, ty, pos, af, gd⟩ s K = okD (convD P t u (s.ev x)) d s K := rfl
@[go_sem] theorem A_makeFunc {f : Fn} {fi ca : List Operand} : aop P T ⟨d, .makeFunc f fi.toArray ca.toArray, ty, pos, af, gd⟩ s K = K (s.put d (.fn f (fi.map s.ev) (ca.map s.ev))) := rfl
@[go_sem] theorem A_makeSlice {t : TypeId} {l c : Operand} : aop P T ⟨d, .makeSlice t l c, ty, pos, af, gd⟩ s K = okT (mkD P s t d (s.ev l) (s.ev c)) K := rfl
@[congr] theorem okQ_congr {x x' : Option (Prop × D × St)} {A : Prop} (h : x = x') : okQ x d K A = okQ x' d K A := by rw [h]
@[go_sem] theorem okQ_some {p : Prop} {v : D} {A : Prop} : okQ (some (p, v, s)) d K A = (p ∧ K (s.put d v)) := rfl
@[go_sem] theorem okQ_none {A : Prop} : okQ none d K A = A := rfl
def cutW (x : Option (TypeId × Nat × Nat)) (o : Option Ob) (n : Nat) (l : Int) (tm : List (Nat × D)) (os : List (Nat × Ob)) (id nx : Nat) : Option (Prop × D × St) := match x, o with
  | some (_, z, _), some (.vec _ sz e els) => if n = els.length ∧ sz = z then some (0 ≤ l ∧ l ≤ els.length, .vec nx (els.drop l.toNat).length, ⟨tm, (nx, .vec false sz e (els.drop l.toNat)) :: rmv os [id], nx + 1⟩) else none
  | _, _ => none
@[go_sem] theorem cutV_vec {t : TypeId} {tm : List (Nat × D)} {os : List (Nat × Ob)} {nx id m : Nat} {k : IntKind} {l : Int} : cutV P ⟨tm, os, nx⟩ t (.vec id m) (some (.int k l)) none none = cutW (elOf P t) (lk id os) m l tm os id nx := rfl
@[go_sem] theorem cutW_some {e0 e : TypeId} {z y sz m id nx : Nat} {b : Bool} {els : List (List C)} {l : Int} {tm : List (Nat × D)} {os : List (Nat × Ob)} : cutW (some (e0, z, y)) (some (.vec b sz e els)) m l tm os id nx =
    if m = els.length ∧ sz = z then some (0 ≤ l ∧ l ≤ els.length, .vec nx (els.drop l.toNat).length, ⟨tm, (nx, .vec false sz e (els.drop l.toNat)) :: rmv os [id], nx + 1⟩) else none := rfl
@[go_sem] theorem cutW_none {x : Option (TypeId × Nat × Nat)} {m id nx : Nat} {l : Int} {tm : List (Nat × D)} {os : List (Nat × Ob)} : cutW x none m l tm os id nx = none := by cases x <;> rfl
@[go_sem] theorem cutV_lo {t : TypeId} {i m : Nat} {hi mx : Option D} : cutV P s t (.vec i m) none hi mx = none := by unfold cutV; split <;> simp_all
@[go_sem] theorem cutV_hi {t : TypeId} {i m : Nat} {h : D} {lo mx : Option D} : cutV P s t (.vec i m) lo (some h) mx = none := by
  unfold cutV
  split <;> simp_all
/-- A part of a view. -/
def cutP (x : Option (TypeId × Nat × Nat)) (o : Option Ob) (id c sz lo hi : Nat) (l h m : Option D) (s : St) : Option (Prop × D × St) := match x, o with
  | some (_, z, _), some (.vec _ sz' _ els) => match l, h, m with
    | none, none, none => some (c = els.length ∧ sz = z ∧ sz' = z, .view id c sz lo hi, s)
    | none, some (.c (.int _ b)), none => some (c = els.length ∧ sz = z ∧ sz' = z ∧ 0 ≤ b ∧ (lo : Int) + b ≤ c, .view id c sz lo (lo + b.toNat), s)
    | some (.c (.int _ a)), none, none => some (c = els.length ∧ sz = z ∧ sz' = z ∧ 0 ≤ a ∧ (lo : Int) + a ≤ hi, .view id c sz (lo + a.toNat) hi, s)
    | some (.c (.int _ a)), some (.c (.int _ b)), none => some (c = els.length ∧ sz = z ∧ sz' = z ∧ 0 ≤ a ∧ a ≤ b ∧ (lo : Int) + b ≤ c, .view id c sz (lo + a.toNat) (lo + b.toNat), s)
    | _, _, _ => none
  | _, _ => none
@[go_sem] theorem cutV_view {t : TypeId} {id c sz lo hi : Nat} {l h m : Option D} {tm : List (Nat × D)} {os : List (Nat × Ob)} {nx : Nat} : cutV P ⟨tm, os, nx⟩ t (.view id c sz lo hi) l h m = cutP (elOf P t) (lk id os) id c sz lo hi l h m ⟨tm, os, nx⟩ := by
  cases l <;> rfl
attribute [go_sem] cutP
@[go_sem] theorem cutV_c {t : TypeId} {x : C} {lo hi mx : Option D} : cutV P s t (.c x) lo hi mx = none := by unfold cutV; split <;> simp_all
@[go_sem] theorem cutV_nil {t : TypeId} {lo hi mx : Option D} : cutV P s t .nil lo hi mx = none := by unfold cutV; split <;> simp_all
@[go_sem] theorem cutV_csl {t : TypeId} {x : List (List C)} {lo hi mx : Option D} : cutV P s t (.csl x) lo hi mx = none := by unfold cutV; split <;> simp_all
@[go_sem] theorem cutV_ref {t : TypeId} {i o : Nat} {lo hi mx : Option D} : cutV P s t (.ref i o) lo hi mx = none := by unfold cutV; split <;> simp_all
@[go_sem] theorem cutV_rp {t : TypeId} {x : List C} {lo hi mx : Option D} : cutV P s t (.rp x) lo hi mx = none := by unfold cutV; split <;> simp_all
@[congr] theorem okF_congr {b b' : Bool} {p : Option Prop} {A : Prop} (h : b = b') : okF b p d s K A = okF b' p d s K A := by rw [h]
@[go_sem] theorem okF_f {p : Option Prop} {A : Prop} : okF false p d s K A = A := rfl
def okG (p : Option Prop) (d : Option Nat) (s : St) (K : St → Prop) : Prop := match p with
  | some p => p ∧ K (s.put d .undef)
  | none => False
@[go_sem] theorem okF_t {p : Option Prop} {A : Prop} : okF true p d s K A = okG p d s K := rfl
@[congr] theorem okG_congr {p p' : Option Prop} (h : p = p') (h' : s = s') : okG p d s K = okG p' d s' K := by rw [h, h']
@[go_sem] theorem okG_some {p : Prop} : okG (some p) d s K = (p ∧ K (s.put d .undef)) := rfl
attribute [go_sem] fgt bndV Option.isSome_some Option.isSome_none
@[go_sem] theorem A_slice {t : TypeId} {x : Operand} {lo hi mx : Option Operand} : aop P T ⟨d, .slice t x lo hi mx, ty, pos, af, gd⟩ s K = okF (fgt T d) (bndV P s t (s.ev x) (lo.map s.ev) (hi.map s.ev) (mx.map s.ev)) d s K (okQ (cutV P s t (s.ev x) (lo.map s.ev) (hi.map s.ev) (mx.map s.ev)) d K (okP (sliceD P t (frz s (s.ev x)).1 (lo.map s.ev) (hi.map s.ev) (mx.map s.ev)) d (frz s (s.ev x)).2 K) ) := rfl
@[go_sem] theorem A_fieldAddr {t : TypeId} {x : Operand} {f : Nat} : aop P T ⟨d, .fieldAddr t x f, ty, pos, af, gd⟩ s K = okD (fadD P t f (s.ev x)) d s K := rfl
@[go_sem] theorem A_field {t : TypeId} {x : Operand} {f : Nat} : aop P T ⟨d, .field t x f, ty, pos, af, gd⟩ s K = okD (fieldD P t f (s.ev x)) d s K := rfl
@[go_sem] theorem A_indexAddr {t : TypeId} {x i : Operand} : aop P T ⟨d, .indexAddr t x i, ty, pos, af, gd⟩ s K = okP (iaD P t (s.ev x) (s.ev i)) d s K := rfl
@[go_sem] theorem A_index {t : TypeId} {x i : Operand} : aop P T ⟨d, .index t x i, ty, pos, af, gd⟩ s K = okP (indexD P t (s.ev x) (s.ev i)) d s K := rfl
@[go_sem] theorem A_extract {x : Operand} {i : Nat} : aop P T ⟨d, .extract x i, ty, pos, af, gd⟩ s K = okD (extD (s.ev x) i) d s K := rfl
@[go_sem] theorem A_len {x : Operand} {t : TypeId} : aop P T ⟨d, .call ⟨.builtin .len, #[x], #[t]⟩, ty, pos, af, gd⟩ s K = ((elOf P t).isSome = true ∧ okH (lenD (s.ev x)) d s K) := rfl
@[go_sem] theorem A_min {xs : List Operand} {ts : Array TypeId} : aop P T ⟨d, .call ⟨.builtin .min, xs.toArray, ts⟩, ty, pos, af, gd⟩ s K = okD (minD (xs.map s.ev)) d s K := rfl
@[go_sem] theorem A_max {xs : List Operand} {ts : Array TypeId} : aop P T ⟨d, .call ⟨.builtin .max, xs.toArray, ts⟩, ty, pos, af, gd⟩ s K = okD (maxD (xs.map s.ev)) d s K := rfl
@[go_sem] theorem A_append {x y : Operand} {t u : TypeId} : aop P T ⟨d, .call ⟨.builtin .append, #[x, y], #[t, u]⟩, ty, pos, af, gd⟩ s K = okM (appM P s t u (s.ev x) (s.ev y)) d s K (t = u ∧ okT (appD P s t d (s.ev x) (s.ev y)) K) := rfl
@[congr] theorem okM_congr {x x' : Option (Prop × Nat × Nat × TypeId × List (List C))} {A : Prop} (h : x = x') : okM x d s K A = okM x' d s K A := by rw [h]
@[go_sem] theorem okM_none {A : Prop} : okM none d s K A = A := rfl
@[go_sem] theorem okM_some {p A : Prop} {m z : Nat} {e : TypeId} {els : List (List C)} {tm : List (Nat × D)} {os : List (Nat × Ob)} {nx t : Nat} : okM (some (p, m, z, e, els)) (some t) ⟨tm, os, nx⟩ K A = (p ∧ ∀ c : Nat, m ≤ c → c ≤ 9223372036854775807 → K ⟨(t, .view nx c z 0 m) :: tm, (nx, .vec true z e (fit c z els)) :: os, nx + 1⟩) := rfl
@[go_sem] theorem appM_c {t u : TypeId} {x : C} {y : D} : appM P s t u (.c x) y = none := rfl
@[go_sem] theorem appM_nil {t u : TypeId} {y : D} : appM P s t u .nil y = none := rfl
@[go_sem] theorem appM_csl {t u : TypeId} {x : List (List C)} {y : D} : appM P s t u (.csl x) y = none := rfl
@[go_sem] theorem appM_vec {t u : TypeId} {i m : Nat} {y : D} : appM P s t u (.vec i m) y = none := rfl
def appN (P : Program) (x : Option (TypeId × Nat × Nat)) (ik : Option IntKind) (o : Option Ob) (k : Int) (c sz lo hi : Nat) : Option (Prop × Nat × Nat × TypeId × List (List C)) := match x, ik, o with
  | some (e, z, bytes), some _, some (.vec _ sz' _ els) => match zcOf P e with
      | some zc => some (c = els.length ∧ sz = z ∧ sz' = z ∧ zc.length = z ∧ z ≠ 0 ∧ bytes ≠ 0 ∧ (0 ≤ k ∧ (c : Int) < hi + k ∧ ((hi - lo : Nat) + k) * (bytes : Int) ≤ 140737488355328), hi - lo + k.toNat, z, e, (els.take hi).drop lo ++ List.replicate k.toNat zc)
      | none => none
  | _, _, _ => none
@[go_sem] theorem appM_view {t u : TypeId} {id c sz lo hi : Nat} {k : IntKind} {n : Int} {tm : List (Nat × D)} {os : List (Nat × Ob)} {nx : Nat} : appM P ⟨tm, os, nx⟩ t u (.view id c sz lo hi) (.c (.int k n)) = appN P (elOf P t) (inOf P u) (lk id os) n c sz lo hi := by
  simp only [appM, appN]
  cases elOf P t with
  | none => rfl
  | some x => cases inOf P u with
    | none => rfl
    | some k => cases lk id os with
      | none => rfl
      | some o => cases o <;> rfl
attribute [go_sem] appN
@[go_sem] theorem A_cap {x : Operand} {t : TypeId} : aop P T ⟨d, .call ⟨.builtin .cap, #[x], #[t]⟩, ty, pos, af, gd⟩ s K = ((elOf P t).isSome = true ∧ okP (capD s (s.ev x)) d s K) := rfl
@[go_sem] theorem A_copy {x y : Operand} {t u : TypeId} : aop P T ⟨d, .call ⟨.builtin .copy, #[x, y], #[t, u]⟩, ty, pos, af, gd⟩ s K = okQ (cpyD P s t (s.ev x) (s.ev y)) d K False := rfl
attribute [go_sem] capD cpyD fit_length
@[go_sem] theorem wide_fit {c sz : Nat} {els : List (List C)} (h : Wide sz els) : Wide sz (fit c sz els) = True := eq_true (fit_wide h)
@[go_sem] theorem wide_take {m sz : Nat} {els : List (List C)} (h : Wide sz els) : Wide sz (els.take m) = True := eq_true fun x hx => h x (List.mem_of_mem_take hx)
@[go_sem] theorem wide_drop {m sz : Nat} {els : List (List C)} (h : Wide sz els) : Wide sz (els.drop m) = True := eq_true fun x hx => h x (List.mem_of_mem_drop hx)
@[go_sem] theorem wide_lay {sz lo : Nat} {els els' : List (List C)} (h : Wide sz els) (h' : Wide sz els') : Wide sz (lay els lo els') = True := eq_true fun x hx => by
  rw [lay, setAt, List.mem_append, List.mem_append] at hx
  rcases hx with (hx | hx) | hx
  · exact h x (List.mem_of_mem_take hx)
  · exact h' x hx
  · exact h x (List.mem_of_mem_drop hx)
@[go_sem] theorem wide_app {sz : Nat} {els els' : List (List C)} (h : Wide sz els) (h' : Wide sz els') : Wide sz (els ++ els') = True := eq_true fun x hx => (List.mem_append.1 hx).elim (h x) (h' x)
/-- A call of what stands there. -/
def acl (P : Program) (T : Tab) (f : D) (args : List D) (d : Option Nat) (s : St) (K : St → Prop) : Prop := match f with
  | .fn (.func g) fi ca => match ovm T g with
    | true => ovC P g s.os (fi ++ args ++ ca) ∧ K (s.put d (.c (.bool false)))
    | false => XCall P T g (fi ++ args ++ ca) s.os s.nx fun v os nx => K (St.put ⟨s.tm, os, nx⟩ d v)
  | _ => False
def ocl (b : Bool) (P : Program) (T : Tab) (f : FuncId) (ds : List D) (tm : List (Nat × D)) (os : List (Nat × Ob)) (nx : Nat) (d : Option Nat) (K : St → Prop) : Prop := match b with
  | true => ovC P f os ds ∧ K (St.put ⟨tm, os, nx⟩ d (.c (.bool false)))
  | false => XCall P T f ds os nx (kcl tm d K)
@[congr] theorem ocl_congr {b b' : Bool} {f : FuncId} {ds ds' : List D} {tm : List (Nat × D)} {os : List (Nat × Ob)} {nx : Nat} (h : b = b') (h1 : ds = ds') : ocl b P T f ds tm os nx d K = ocl b' P T f ds' tm os nx d K := by rw [h, h1]
@[go_sem] theorem ocl_f {f : FuncId} {ds : List D} {tm : List (Nat × D)} {os : List (Nat × Ob)} {nx : Nat} : ocl false P T f ds tm os nx d K = XCall P T f ds os nx (kcl tm d K) := rfl
@[go_sem] theorem ocl_t {f : FuncId} {ds : List D} {tm : List (Nat × D)} {os : List (Nat × Ob)} {nx : Nat} : ocl true P T f ds tm os nx d K = (ovC P f os ds ∧ K (St.put ⟨tm, os, nx⟩ d (.c (.bool false)))) := rfl
attribute [go_sem] ovm ovC ovO
@[congr] theorem acl_congr {f f' : D} {args args' : List D} (h : f = f') (h1 : args = args') (h' : s = s') : acl P T f args d s K = acl P T f' args' d s' K := by rw [h, h1, h']
@[go_sem] theorem A_call {f : Operand} {xs : List Operand} {ts : Array TypeId} : aop P T ⟨d, .call ⟨.value f, xs.toArray, ts⟩, ty, pos, af, gd⟩ s K = acl P T (s.ev f) (xs.map s.ev) d s K := rfl
@[go_sem] theorem acl_fn {f : FuncId} {fi ca args : List D} {tm : List (Nat × D)} {os : List (Nat × Ob)} {nx : Nat} :
    acl P T (.fn (.func f) fi ca) args d ⟨tm, os, nx⟩ K = ocl (ovm T f) P T f (fi ++ args ++ ca) tm os nx d K := rfl
@[go_sem] theorem PR_app {r v : D} {os : List (Nat × Ob)} {nx : Nat} : PR r v os nx = pur3 os v r := rfl
@[go_sem] theorem FR_app {r v : D} {fr : Fr} {os : List (Nat × Ob)} {nx : Nat} : FR r fr v os nx = ∃ ids, freO os ids fr ∧ fre3 ids os v r := rfl
def xc (P : Program) (x : Option (Prop × D × List (Nat × Ob) × Nat)) (f : FuncId) (ds : List D) (os : List (Nat × Ob)) (nx : Nat) (Q : D → List (Nat × Ob) → Nat → Prop) : Prop := match x with
  | some (p, r, os', nx') => p ∧ Q r os' nx'
  | none => ACall P f ds os nx Q
@[congr] theorem xc_congr {x x' : Option (Prop × D × List (Nat × Ob) × Nat)} {f : FuncId} {ds ds' : List D} {os os' : List (Nat × Ob)} {nx nx' : Nat} {R : D → List (Nat × Ob) → Nat → Prop} (h0 : x = x') (h : ds = ds') (h1 : os = os') (h2 : nx = nx') : xc P x f ds os nx R = xc P x' f ds' os' nx' R := by rw [h, h0, h1, h2]
@[go_sem] theorem XCall_eq {f : FuncId} {ds : List D} {os : List (Nat × Ob)} {nx : Nat} {R : D → List (Nat × Ob) → Nat → Prop} : XCall P T f ds os nx R = xc P (look T os nx f ds) f ds os nx R := rfl
@[go_sem] theorem xc_some {p : Prop} {r : D} {f : FuncId} {ds : List D} {os os' : List (Nat × Ob)} {nx nx' : Nat} {R : D → List (Nat × Ob) → Nat → Prop} : xc P (some (p, r, os', nx')) f ds os nx R = (p ∧ R r os' nx') := rfl
@[go_sem] theorem xc_none {f : FuncId} {ds : List D} {os : List (Nat × Ob)} {nx : Nat} {R : D → List (Nat × Ob) → Nat → Prop} : xc P none f ds os nx R = ACall P f ds os nx R := rfl
def xq (P : Program) (x : Option (Prop × D × List (Nat × Ob) × Nat)) (f : FuncId) (ds : List D) (os : List (Nat × Ob)) (Q : D → Prop) : Prop := match x with
  | some (p, r, _) => p ∧ r.scal = true ∧ Q r
  | none => QCall P f ds os Q
@[congr] theorem xq_congr {x x' : Option (Prop × D × List (Nat × Ob) × Nat)} {f : FuncId} {ds ds' : List D} {os os' : List (Nat × Ob)} {R : D → Prop} (h0 : x = x') (h : ds = ds') (h1 : os = os') : xq P x f ds os R = xq P x' f ds' os' R := by rw [h, h0, h1]
@[go_sem] theorem XQ_eq {f : FuncId} {ds : List D} {os : List (Nat × Ob)} {R : D → Prop} : XQ P T f ds os R = xq P (look T os 0 f ds) f ds os R := rfl
@[go_sem] theorem xq_some {p : Prop} {r : D} {f : FuncId} {ds : List D} {os os' : List (Nat × Ob)} {nx' : Nat} {R : D → Prop} : xq P (some (p, r, os', nx')) f ds os R = (p ∧ r.scal = true ∧ R r) := rfl
@[go_sem] theorem xq_none {f : FuncId} {ds : List D} {os : List (Nat × Ob)} {R : D → Prop} : xq P none f ds os R = QCall P f ds os R := rfl
def qcl (P : Program) (T : Tab) (f : D) (args : List D) (d : Option Nat) (s : St) (K : St → Prop) : Prop := match f with
  | .fn (.func g) fi ca => XQ P T g (fi ++ args ++ ca) s.os fun v => K (s.put d v)
  | _ => False
@[congr] theorem qcl_congr {f f' : D} {args args' : List D} (h : f = f') (h1 : args = args') (h' : s = s') : qcl P T f args d s K = qcl P T f' args' d s' K := by rw [h, h1, h']
@[go_sem] theorem AQ_call {f : Operand} {xs : List Operand} {ts : Array TypeId} : aopQ P T ⟨d, .call ⟨.value f, xs.toArray, ts⟩, ty, pos, af, gd⟩ s K = qcl P T (s.ev f) (xs.map s.ev) d s K := rfl
@[go_sem] theorem qcl_fn {f : FuncId} {fi ca args : List D} {tm : List (Nat × D)} {os : List (Nat × Ob)} {nx : Nat} :
    qcl P T (.fn (.func f) fi ca) args d ⟨tm, os, nx⟩ K = XQ P T f (fi ++ args ++ ca) os (kq ⟨tm, os, nx⟩ d K) := rfl
theorem AQ_of {op : Op} (hc : ∀ c, op ≠ .call c) (hs : ∀ t x lo hi mx, op ≠ .slice t x lo hi mx) (hq : quietOp op = true) : aopQ P T ⟨d, op, ty, pos, af, gd⟩ s K = aop P T ⟨d, op, ty, pos, af, gd⟩ s K := by
  unfold aopQ
  split
  · rename_i c hcc; exact absurd hcc (hc c)
  · rename_i t x lo hi mx hcc; exact absurd hcc (hs _ _ _ _ _)
  · simp [hq]
@[go_sem] theorem AQ_move {x : Operand} : aopQ P T ⟨d, .move x, ty, pos, af, gd⟩ s K = aop P T ⟨d, .move x, ty, pos, af, gd⟩ s K := AQ_of (by simp) (by simp) rfl
@[go_sem] theorem AQ_assign {x : Operand} : aopQ P T ⟨d, .assign x, ty, pos, af, gd⟩ s K = aop P T ⟨d, .assign x, ty, pos, af, gd⟩ s K := AQ_of (by simp) (by simp) rfl
@[go_sem] theorem AQ_pick {c x y : Operand} : aopQ P T ⟨d, .pick c x y, ty, pos, af, gd⟩ s K = aop P T ⟨d, .pick c x y, ty, pos, af, gd⟩ s K := AQ_of (by simp) (by simp) rfl
@[go_sem] theorem AQ_build {t : TypeId} {ps : Array (Nat × Operand)} : aopQ P T ⟨d, .build t ps, ty, pos, af, gd⟩ s K = aop P T ⟨d, .build t ps, ty, pos, af, gd⟩ s K := AQ_of (by simp) (by simp) rfl
@[go_sem] theorem AQ_load {t : TypeId} {x : Operand} : aopQ P T ⟨d, .load t x, ty, pos, af, gd⟩ s K = aop P T ⟨d, .load t x, ty, pos, af, gd⟩ s K := AQ_of (by simp) (by simp) rfl
@[go_sem] theorem AQ_nilCheck {x : Operand} : aopQ P T ⟨d, .nilCheck x, ty, pos, af, gd⟩ s K = aop P T ⟨d, .nilCheck x, ty, pos, af, gd⟩ s K := AQ_of (by simp) (by simp) rfl
@[go_sem] theorem AQ_binOp {op : BinOp} {t t' : TypeId} {x y : Operand} : aopQ P T ⟨d, .binOp op t x y t', ty, pos, af, gd⟩ s K = aop P T ⟨d, .binOp op t x y t', ty, pos, af, gd⟩ s K := AQ_of (by simp) (by simp) rfl
@[go_sem] theorem AQ_unOp {op : UnOp} {t : TypeId} {x : Operand} : aopQ P T ⟨d, .unOp op t x, ty, pos, af, gd⟩ s K = aop P T ⟨d, .unOp op t x, ty, pos, af, gd⟩ s K := AQ_of (by simp) (by simp) rfl
@[go_sem] theorem AQ_convert {t u : TypeId} {x : Operand} : aopQ P T ⟨d, .convert t u x, ty, pos, af, gd⟩ s K = aop P T ⟨d, .convert t u x, ty, pos, af, gd⟩ s K := AQ_of (by simp) (by simp) rfl
@[go_sem] theorem AQ_makeFunc {f : Fn} {fi ca : Array Operand} : aopQ P T ⟨d, .makeFunc f fi ca, ty, pos, af, gd⟩ s K = aop P T ⟨d, .makeFunc f fi ca, ty, pos, af, gd⟩ s K := AQ_of (by simp) (by simp) rfl
@[go_sem] theorem AQ_slice {t : TypeId} {x : Operand} {lo hi mx : Option Operand} : aopQ P T ⟨d, .slice t x lo hi mx, ty, pos, af, gd⟩ s K = okP (sliceD P t (s.ev x) (lo.map s.ev) (hi.map s.ev) (mx.map s.ev)) d s K := rfl
@[go_sem] theorem AQ_fieldAddr {t : TypeId} {x : Operand} {f : Nat} : aopQ P T ⟨d, .fieldAddr t x f, ty, pos, af, gd⟩ s K = aop P T ⟨d, .fieldAddr t x f, ty, pos, af, gd⟩ s K := AQ_of (by simp) (by simp) rfl
@[go_sem] theorem AQ_field {t : TypeId} {x : Operand} {f : Nat} : aopQ P T ⟨d, .field t x f, ty, pos, af, gd⟩ s K = aop P T ⟨d, .field t x f, ty, pos, af, gd⟩ s K := AQ_of (by simp) (by simp) rfl
@[go_sem] theorem AQ_indexAddr {t : TypeId} {x i : Operand} : aopQ P T ⟨d, .indexAddr t x i, ty, pos, af, gd⟩ s K = aop P T ⟨d, .indexAddr t x i, ty, pos, af, gd⟩ s K := AQ_of (by simp) (by simp) rfl
@[go_sem] theorem AQ_index {t : TypeId} {x i : Operand} : aopQ P T ⟨d, .index t x i, ty, pos, af, gd⟩ s K = aop P T ⟨d, .index t x i, ty, pos, af, gd⟩ s K := AQ_of (by simp) (by simp) rfl
@[go_sem] theorem AQ_extract {x : Operand} {i : Nat} : aopQ P T ⟨d, .extract x i, ty, pos, af, gd⟩ s K = aop P T ⟨d, .extract x i, ty, pos, af, gd⟩ s K := AQ_of (by simp) (by simp) rfl
@[go_sem] theorem AQ_len {x : Operand} {t : TypeId} : aopQ P T ⟨d, .call ⟨.builtin .len, #[x], #[t]⟩, ty, pos, af, gd⟩ s K = aop P T ⟨d, .call ⟨.builtin .len, #[x], #[t]⟩, ty, pos, af, gd⟩ s K := by simp [aopQ, quietOp]
@[go_sem] theorem AQ_min {xs : Array Operand} {ts : Array TypeId} : aopQ P T ⟨d, .call ⟨.builtin .min, xs, ts⟩, ty, pos, af, gd⟩ s K = aop P T ⟨d, .call ⟨.builtin .min, xs, ts⟩, ty, pos, af, gd⟩ s K := by simp [aopQ, quietOp]
@[go_sem] theorem AQ_max {xs : Array Operand} {ts : Array TypeId} : aopQ P T ⟨d, .call ⟨.builtin .max, xs, ts⟩, ty, pos, af, gd⟩ s K = aop P T ⟨d, .call ⟨.builtin .max, xs, ts⟩, ty, pos, af, gd⟩ s K := by simp [aopQ, quietOp]

/-! ### What goes on -/
@[go_sem] theorem okD_some {v : D} : okD (some v) d s K = K (s.put d v) := rfl
@[go_sem] theorem okP_some {p : Prop} {v : D} : okP (some (p, v)) d s K = (p ∧ K (s.put d v)) := rfl
@[go_sem] theorem okH_some {p : Prop} {v : D} : okH (some (p, v)) d s K = (p → K (s.put d v)) := rfl
@[go_sem] theorem okU_some {neg : Bool} {p A : Prop} : okU (some (neg, p)) d s K A = ∀ b : Bool, (b = true → p) → K (s.put d (.bool (b ^^ neg))) := rfl
@[go_sem] theorem okU_none {A : Prop} : okU none d s K A = A := rfl
@[go_sem] theorem okS_some : okS (some s) K = K s := rfl
@[go_sem] theorem okT_some {p : Prop} : okT (some (p, s)) K = (p ∧ K s) := rfl
@[go_sem] theorem okV_some {z : Nat} {e : TypeId} {els : List (List C)} : okV (some (z, e, els)) d s K = K (s.vc d z e els) := rfl
def okC (x : Option (List D)) (d : Option Nat) (s : St) (K : St → Prop) : Prop := match x with
  | some cs => K (s.bx d cs)
  | none => False
@[congr] theorem okC_congr {x x' : Option (List D)} (h : x = x') (h' : s = s') : okC x d s K = okC x' d s' K := by rw [h, h']
@[go_sem] theorem okB_some {v : D} : okB (some v) d s K = okC v.cells? d s K := rfl
@[go_sem] theorem okC_some {cs : List D} : okC (some cs) d s K = K (s.bx d cs) := rfl
@[go_sem] theorem pk_t {a b : D} : pk (.bool true) a b d s K = K (s.put d a) := by simp [pk]
@[go_sem] theorem pk_f {a b : D} : pk (.bool false) a b d s K = K (s.put d b) := by simp [pk]
@[go_sem] theorem pk_or {c b : Bool} : pk (.bool c) (.bool true) (.bool b) d s K = K (s.put d (.bool (c || b))) := by cases c <;> simp [pk]
@[go_sem] theorem pk_and {c b : Bool} : pk (.bool c) (.bool b) (.bool false) d s K = K (s.put d (.bool (c && b))) := by cases c <;> simp [pk]
@[go_sem] theorem nchk_ref {i o : Nat} : nchk (.ref i o) d s K = K (s.put d (.ref i o)) := rfl
@[go_sem] theorem nchk_eref {i m z k o : Nat} : nchk (.eref i m z k o) d s K = K (s.put d (.eref i m z k o)) := rfl
@[go_sem] theorem nchk_rp {cs : List C} : nchk (.rp cs) d s K = K (s.put d (.rp cs)) := rfl
@[go_sem] theorem nchk_fn {f : FuncId} {fi ca : List D} : nchk (.fn (.func f) fi ca) d s K = K (s.put d (.fn (.func f) fi ca)) := rfl
section
variable {A B : St → Prop} {t : Option Nat} {p : Prop} [Decidable p]
@[go_sem] theorem cd_t : cd (.bool true) A B s = A s := by simp [cd]
@[go_sem] theorem cd_f : cd (.bool false) A B s = B s := by simp [cd]
@[go_sem] theorem cd_dec : cd (.bool (decide p)) A B s = ((p → A s) ∧ (¬ p → B s)) := by simp [cd]
@[go_sem] theorem cd_not {b : Bool} : cd (.bool (!b)) A B s = cd (.bool b) B A s := by cases b <;> simp [cd]
@[go_sem] theorem cd_and {b c : Bool} : cd (.bool (b && c)) A B s = cd (.bool b) (cd (.bool c) A B) B s := by cases b <;> simp [cd]
@[go_sem] theorem cd_or {b c : Bool} : cd (.bool (b || c)) A B s = cd (.bool b) A (cd (.bool c) A B) s := by cases b <;> simp [cd]
@[go_sem] theorem cd_gen {b : Bool} : cd (.bool b) A B s = ((b = true → A s) ∧ (b = false → B s)) := rfl
@[go_sem] theorem grd_gen {b w : Bool} : grd t (.bool b) w A B s = ((b = w → A (s.rep t (.bool w))) ∧ (b = !w → B (s.rep t (.bool !w)))) := rfl
@[go_sem] theorem grd_tt : grd t (.bool true) true A B s = A (s.rep t (.bool true)) := by simp [grd]
@[go_sem] theorem grd_ff : grd t (.bool false) false A B s = A (s.rep t (.bool false)) := by simp [grd]
@[go_sem] theorem grd_tf : grd t (.bool true) false A B s = B (s.rep t (.bool true)) := by simp [grd]
@[go_sem] theorem grd_ft : grd t (.bool false) true A B s = B (s.rep t (.bool false)) := by simp [grd]
@[go_sem] theorem grd_dt : grd t (.bool (decide p)) true A B s = ((p → A (s.rep t (.bool true))) ∧ (¬ p → B (s.rep t (.bool false)))) := by simp [grd]
@[go_sem] theorem grd_df : grd t (.bool (decide p)) false A B s = ((¬ p → A (s.rep t (.bool false))) ∧ (p → B (s.rep t (.bool true)))) := by simp [grd]
@[go_sem] theorem grd_nt : grd t (.bool (!decide p)) true A B s = ((¬ p → A (s.rep t (.bool true))) ∧ (p → B (s.rep t (.bool false)))) := by simp [grd]
@[go_sem] theorem grd_nf : grd t (.bool (!decide p)) false A B s = ((p → A (s.rep t (.bool false))) ∧ (¬ p → B (s.rep t (.bool true)))) := by simp [grd]
@[go_sem] theorem grd_skip {w : Bool} : grd t .skip w A B s = B s := rfl
end
end

/-! ### States -/
section
variable {tm : List (Nat × D)} {os : List (Nat × Ob)} {nx t : Nat} {v : D}
@[go_sem] theorem ev_tmp : St.ev ⟨tm, os, nx⟩ (.tmp t) = (lk t tm).getD .undef := rfl
@[go_sem] theorem ev_const {x : Value} {s : St} : St.ev s (.const x) = valD x := rfl
@[go_sem] theorem ev_func {s : St} {f : FuncId} : St.ev s (.func f) = .fn (.func f) [] [] := rfl
@[go_sem] theorem get_mk : St.get ⟨tm, os, nx⟩ t = (lk t tm).getD .undef := rfl
@[go_sem] theorem gd_mk : St.gd ⟨tm, os, nx⟩ (some t) = (lk t tm).getD .undef := rfl
@[go_sem] theorem put_some : St.put ⟨tm, os, nx⟩ (some t) v = ⟨(t, v) :: tm, os, nx⟩ := rfl
@[go_sem] theorem put_none {s : St} : St.put s none v = s := rfl
@[go_sem] theorem rep_some : St.rep ⟨tm, os, nx⟩ (some t) v = ⟨upd t v tm, os, nx⟩ := rfl
@[go_sem] theorem bx_some {cs : List D} : St.bx ⟨tm, os, nx⟩ (some t) cs = ⟨(t, .ref nx 0) :: tm, (nx, .box cs) :: os, nx + 1⟩ := rfl
@[go_sem] theorem vc_some {z : Nat} {e : TypeId} {els : List (List C)} : St.vc ⟨tm, os, nx⟩ (some t) z e els = ⟨(t, .vec nx els.length) :: tm, (nx, .vec true z e els) :: os, nx + 1⟩ := rfl
@[go_sem] theorem lk_hd {α : Type} {x : α} {l : List (Nat × α)} : lk t ((t, x) :: l) = some x := by simp [lk]
attribute [go_sem] lk_cons
@[go_sem] theorem lk_nil {α : Type} : lk (α := α) t [] = none := rfl
@[go_sem] theorem upd_nil {α : Type} {x : α} : upd t x ([] : List (Nat × α)) = [] := rfl
@[go_sem] theorem upd_cons {α : Type} {m : Nat} {x y : α} {l : List (Nat × α)} : upd t y ((m, x) :: l) = if t = m then (m, y) :: l else (m, x) :: upd t y l := rfl
end
attribute [go_sem] Option.getD_some Option.getD_none Option.map_some Option.map_none
attribute [go_sem] Int.toNat_natCast frz nilq
attribute [go_sem] valD valD1 D.cells? D.one D.toC D.toCs ldc ldD fadD fieldD iaD indexD ibin ishift isShift binD unD convD extD lenD minD maxD sliceD stD setAt fillD buildD fillS bslD St.els appD mkD
attribute [go_sem] List.drop_zero List.drop_succ_cons List.take_zero List.take_succ_cons List.drop_nil List.take_nil List.length_cons List.length_nil List.map_cons List.map_nil List.cons_append List.nil_append List.append_nil List.append_assoc List.getElem?_cons_zero List.getElem?_cons_succ List.getElem?_nil List.all_cons List.all_nil
attribute [go_sem] pw pur1 pur2 pur3 D.scal D.scal1 D.bel0 D.bel1 D.bel2 Ob.bel dle ole subT subO St.bel Sub
attribute [go_sem] shf news D.sh3 D.sh2 D.sh1 fre1 fre2 fre3 freO
attribute [go_sem] look pures2 pures1 pure2 pure1 vids2 vids1 vid2 vid1 rmv D.scal D.scal1 prm
theorem ite_max (a b : Int) : (if b > a then b else a) = max a b := by split <;> omega
theorem ite_min (a b : Int) : (if b < a then b else a) = min a b := by split <;> omega
attribute [go_sem] ite_max ite_min List.set_cons_zero List.set_cons_succ List.length_set List.length_append Int.natCast_add Int.cast_ofNat_Int
@[go_sem] theorem flt_cons {i m : Nat} {o : Ob} {l : List (Nat × Ob)} : List.filter (fun x => x.1 != i) ((m, o) :: l) = if m = i then List.filter (fun x => x.1 != i) l else (m, o) :: List.filter (fun x => x.1 != i) l := by
  by_cases h : m = i
  · rw [if_pos h, List.filter_cons_of_neg (by simp [h])]
  · rw [if_neg h, List.filter_cons_of_pos (by simp [h])]
theorem ex_some {α : Type} {x y : α} : (∃ d, some x = some d ∧ d = y) = (x = y) := by simp
attribute [go_sem] Bool.false_or Bool.or_false Bool.not_false Bool.not_true Bool.true_or Bool.xor_false Bool.xor_true Bool.not_not List.replicate_zero List.replicate_succ Nat.zero_le Nat.le_refl Nat.zero_add Nat.add_zero Nat.sub_zero
attribute [go_sem] ne_eq not_true_eq_false not_false_eq_true
attribute [go_sem] ex_some Bool.and_true Bool.true_and D.c.injEq C.int.injEq C.bool.injEq C.sl.injEq
attribute [go_sem] Option.isSome_some forall_const Option.map_none if_true if_false Bool.false_eq_true true_and and_true List.filter_nil
end Dm
