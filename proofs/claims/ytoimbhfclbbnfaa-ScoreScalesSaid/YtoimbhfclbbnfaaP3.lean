import Derived.Test.YtoimbhfclbbnfaaP2
import Derived.IntWalk
import Derived.KernelRfl
import Derived.Scope
import Derived.Test.YtoimbhfclbbnfaaProg
set_option linter.unusedSimpArgs false
set_option linter.unusedVariables false
set_option linter.unusedSectionVars false
/-! The region's operations, one by one, as they are written; what comes of them in every order. -/
namespace Dm
open Go
section
variable {δ : List Deferred} {P : Program} {T : Tab} {all : Array Oper} {s s' s'' e : St} {n N : Nat} {K : St → Prop}

/-- What an operation touched, and wrote; its new objects. -/
structure Ft where
  i : Nat
  T : List Nat
  W : List Nat
  B : Nat
  nx : Nat
def bnd : Ground → Bool
  | .textOnly _ => false
  | .gcOnly _ => false
  | _ => true
/-- They touch nothing in common that one of them writes. -/
def indF (y x : Ft) : Bool := if apt y.W x.T = true then (if apt x.W y.T = true then outR y.B y.nx x.T else false) else false
/-- Numbers below 64 .. as bits. -/
def bitN (m i : Nat) : Bool := if (m >>> i) % 2 = 1 then true else false
def accB (u : Nat) (x : Ft) : List Ft → Prop
  | [] => True
  | y :: l => (if (u >>> y.i) % 2 = 1 then True else indF y x = true) ∧ accB u x l
def uh : List Nat → Nat
  | [] => 0
  | u :: _ => u
def ut : List Nat → List Nat
  | [] => []
  | _ :: us => us
/-- One that touches nothing need not be kept. -/
def push (x : Ft) (l : List Ft) : List Ft := match x.T with
  | _ :: _ => x :: l
  | [] => if x.nx = x.B then l else x :: l

def dxW (P : Program) (o : Oper) (u i : Nat) (acc : List Ft) (s : St) (Tt : List Nat) (r : St) (k : List Ft → St → Prop) (W : List Nat) : Prop :=
  low s.nx Tt = true ∧ valsB Tt (pickL (opT o) s.tm) = true ∧ obsB Tt (pickL Tt s.os) = true ∧ s.nx ≤ r.nx ∧ rosB Tt s.nx r.nx r.os = true ∧ rvP Tt s.nx r.nx r.tm o.dst ∧ sameO W r.os s.os Tt ∧
    accB u ⟨i, Tt, W, s.nx, r.nx⟩ acc ∧ k (push ⟨i, Tt, W, s.nx, r.nx⟩ acc) (s.mrg Tt o.dst r)
def dxR (P : Program) (o : Oper) (u i : Nat) (acc : List Ft) (s : St) (Tt : List Nat) (k : List Ft → St → Prop) (r : St) : Prop := dxW P o u i acc s Tt r k (wOf (stOp o.op) Tt r.os)
def dxL (P : Program) (T : Tab) (o : Oper) (u i : Nat) (acc : List Ft) (s : St) (k : List Ft → St → Prop) (Tt : List Nat) : Prop :=
  aopX P T o (s.loc (opT o) Tt s.nx) (dxR P o u i acc s Tt k)
def dxE (P : Program) (T : Tab) (o : Oper) (u i : Nat) (acc : List Ft) (s : St) (k : List Ft → St → Prop) : Prop :=
  dxL P T o u i acc s k (clo s.os (uni (midsA (pickL (opT o) s.tm)) []))
def dx (P : Program) (T : Tab) (all : Array Oper) : List Oper → List Nat → Nat → List Ft → (St → Prop) → St → Prop
  | [], _, _, _, K, s => K s
  | o :: rest, us, i, acc, K, s => match o.guard with
    | none => dxE P T o (uh us) i acc s fun acc' s' => dx P T all rest (ut us) (i + 1) acc' K s'
    | some (j, w) => grd (gtmp all j) (s.gd (gtmp all j)) w (fun s => dxE P T o (uh us) i acc s fun acc' s' => dx P T all rest (ut us) (i + 1) acc' K s') (fun s => dx P T all rest (ut us) (i + 1) acc K (s.put o.dst .skip)) s

def Ent.ft (x : Ent) : Ft := ⟨x.i, x.T, x.W, x.B, x.r.nx⟩
theorem accB_spec {u : Nat} {x : Ft} : ∀ {l : List Ft}, accB u x l → ∀ y ∈ l, indF y x = true ∨ bitN u y.i = true
  | [], _, _, h => by cases h
  | z :: l, h, y, hy => by
    obtain ⟨h1, h2⟩ := h
    rcases List.mem_cons.1 hy with rfl | hy
    · split at h1
      · rename_i hh; exact .inr (by rw [bitN, if_pos hh])
      · exact .inl h1
    · exact accB_spec h2 y hy
theorem indF_none {y x : Ft} (h1 : y.T = []) (h2 : y.W = []) (h3 : y.nx = y.B) : indF y x = true := by
  have ha : ∀ l : List Nat, apt l [] = true := fun l => apt_iff.2 (by simp)
  unfold indF
  rw [h2, h1, if_pos (by rfl), if_pos (ha _), outR_iff]
  intro n _
  omega
theorem indF_none2 {y x : Ft} (h1 : x.T = []) (h2 : x.W = []) : indF y x = true := by
  have ha : ∀ l : List Nat, apt l [] = true := fun l => apt_iff.2 (by simp)
  unfold indF
  rw [h2, h1, if_pos (ha _), if_pos (by rfl)]
  rfl
theorem put_eqv {d : Option Nat} {v : D} (h : Eqv s s') : Eqv (s.put d v) (s'.put d v) := by
  cases d with
  | none => exact h
  | some t => exact ⟨fun u => by simp only [St.put, lk_cons, h.1], h.2⟩
theorem wOf_nil {b : Bool} {os : List (Nat × Ob)} : wOf b [] os = [] := by cases b <;> rfl
theorem indF_spec {y x : Ft} (h : indF y x = true) : (∀ id ∈ y.W, id ∉ x.T) ∧ (∀ id ∈ x.W, id ∉ y.T) ∧ ∀ id ∈ x.T, ¬ (y.B ≤ id ∧ id < y.nx) := by
  unfold indF at h
  split at h
  · rename_i h1
    split at h
    · rename_i h2; exact ⟨apt_iff.1 h1, apt_iff.1 h2, outR_iff.1 h⟩
    · cases h
  · cases h

/-- What comes of the operations from the i-th on. -/
structure Out (P : Program) (T : Tab) (all : Array Oper) (ops : List Oper) (us : List Nat) (i : Nat) (acc : List Ft) (s : St) (l : List Ent) (e : St) : Prop where
  tr : Tr P T all l s e
  nums : ∀ j o, ops[j]? = some o → ∃ x ∈ l, x.i = i + j
  of : ∀ x ∈ l, ∃ j, x.i = i + j ∧ ops[j]? = some x.o
  nx : s.nx ≤ e.nx
  lo : ∀ x ∈ l, s.nx ≤ x.B ∧ x.B ≤ x.r.nx ∧ x.r.nx ≤ e.nx
  two : l.Pairwise fun y x => y.i < x.i ∧ y.r.nx ≤ x.B ∧ y.B ≤ y.r.nx ∧ (indF y.ft x.ft = true ∨ bitN (us.getD (x.i - i) 0) y.i = true)
  acc : ∀ y ∈ acc, ∀ x ∈ l, indF y x.ft = true ∨ bitN (us.getD (x.i - i) 0) y.i = true

theorem put_mrg (s : St) (d : Option Nat) : Eqv (s.put d .skip) (s.mrg [] d ((⟨[], [], s.nx⟩ : St).put d .skip)) :=
  Sk.eqv (x := ⟨0, ⟨d, .move (.tmp 0), 0, "", #[], none⟩, [], [], s.nx, (⟨[], [], s.nx⟩ : St).put d .skip⟩) ⟨rfl, rfl⟩

theorem dxE_out {o : Oper} {u i : Nat} {acc : List Ft} {k : List Ft → St → Prop} (h : dxE P T o u i acc s k) :
    ∃ x : Ent, x.i = i ∧ x.o = o ∧ x.B = s.nx ∧ Ex P T x s ∧ s.nx ≤ x.r.nx ∧ (∀ y ∈ acc, indF y x.ft = true ∨ bitN u y.i = true) ∧ (x.T = [] → x.W = []) ∧ k (push x.ft acc) (x.app s) := by
  unfold dxE dxL at h
  generalize clo s.os (uni (midsA (pickL (opT o) s.tm)) []) = Tt at h
  obtain ⟨r, h1, h2⟩ := aopX_det h
  unfold dxR at h2
  have hW : Tt = [] → wOf (stOp o.op) Tt r.os = [] := fun h => by subst h; exact wOf_nil
  generalize wOf (stOp o.op) Tt r.os = W at h2 hW
  obtain ⟨h3, h4, h5, h6, h7, h8, h9, h10, h11⟩ := h2
  refine ⟨⟨i, o, Tt, W, s.nx, r⟩, rfl, rfl, rfl, ⟨h1, fit_of h3 h4 h5 h6 h7 h8, sameO_spec h9, fun t ht => ?_⟩, h6, accB_spec h10, hW, h11⟩
  have ht' : o.dst = some t := ht
  rw [ht'] at h8
  simp only [rvP] at h8
  cases hl : lk t r.tm with
  | none => rw [hl] at h8; cases h8
  | some d => rfl
theorem push_mem {x y : Ft} {l : List Ft} (h : y ∈ l) : y ∈ push x l := by
  unfold push
  split
  · exact List.mem_cons_of_mem _ h
  · split
    · exact h
    · exact List.mem_cons_of_mem _ h
theorem push_self {x : Ft} {l : List Ft} : x ∈ push x l ∨ (x.T = [] ∧ x.nx = x.B) := by
  unfold push
  split
  · exact .inl (by simp)
  · rename_i h
    split
    · rename_i h'; exact .inr ⟨h, h'⟩
    · exact .inl (by simp)
theorem ut_getD {us : List Nat} {k : Nat} : (ut us).getD k 0 = us.getD (k + 1) 0 := by cases us <;> rfl
theorem uh_getD {us : List Nat} : uh us = us.getD 0 0 := by cases us <;> rfl
theorem out_cons {o : Oper} {rest : List Oper} {us : List Nat} {i : Nat} {acc acc' : List Ft} {x : Ent} {s1 : St} {l : List Ent} (h1 : x.i = i) (h2 : x.o = o) (hg : Good P T all x s) (hB : x.B = s.nx) (hnx : s.nx ≤ x.r.nx)
    (hacc : ∀ y ∈ acc, indF y x.ft = true ∨ bitN (uh us) y.i = true) (ho : Out P T all rest (ut us) (i + 1) acc' s1 l e) (he : Eqv s1 (x.app s)) (hn1 : s1.nx = x.r.nx) (hsub : ∀ y ∈ acc, y ∈ acc')
    (hself : x.ft ∈ acc' ∨ (x.T = [] ∧ x.W = [] ∧ x.r.nx = x.B)) : Out P T all (o :: rest) us i acc s (x :: l) e where
  tr := ⟨hg, ho.tr.eqv he⟩
  nums j o' hj := by
    cases j with
    | zero => exact ⟨x, by simp, by omega⟩
    | succ j =>
      obtain ⟨y, hy, hyi⟩ := ho.nums j o' (by simpa using hj)
      exact ⟨y, by simp [hy], by omega⟩
  of y hy := by
    rcases List.mem_cons.1 hy with rfl | hy
    · exact ⟨0, by omega, by simp [h2]⟩
    · obtain ⟨j, hj1, hj2⟩ := ho.of y hy
      exact ⟨j + 1, by omega, by simpa using hj2⟩
  nx := by have := ho.nx; omega
  lo y hy := by
    have h3 := ho.nx
    rcases List.mem_cons.1 hy with rfl | hy
    · exact ⟨by omega, by omega, by omega⟩
    · have := ho.lo y hy
      omega
  two := by
    have hus : ∀ y ∈ l, (ut us).getD (y.i - (i + 1)) 0 = us.getD (y.i - i) 0 := fun y hy => by
      obtain ⟨j, hj1, _⟩ := ho.of y hy
      rw [ut_getD, show y.i - (i + 1) + 1 = y.i - i from by omega]
    refine List.pairwise_cons.2 ⟨fun y hy => ?_, ho.two.imp_of_mem fun {z y} _ hy h => ⟨h.1, h.2.1, h.2.2.1, by rw [← hus y hy]; exact h.2.2.2⟩⟩
    obtain ⟨j, hj1, _⟩ := ho.of y hy
    have h3 := ho.lo y hy
    refine ⟨by omega, by omega, by omega, ?_⟩
    rcases hself with h4 | ⟨h4, h5, h6⟩
    · rw [← hus y hy]; exact ho.acc _ h4 y hy
    · exact .inl (indF_none h4 h5 h6)
  acc y hy z hz := by
    rcases List.mem_cons.1 hz with rfl | hz
    · rw [h1, Nat.sub_self, ← uh_getD]; exact hacc y hy
    · obtain ⟨j, hj1, _⟩ := ho.of z hz
      have := ho.acc y (hsub y hy) z hz
      rwa [ut_getD, show z.i - (i + 1) + 1 = z.i - i from by omega] at this

theorem dx_out : ∀ (ops : List Oper) (us : List Nat) (i : Nat) (acc : List Ft) (s : St), dx P T all ops us i acc K s → ∃ l e, K e ∧ Out P T all ops us i acc s l e
  | [], us, i, acc, s, h => ⟨[], s, h, ⟨⟨fun _ => rfl, fun _ => rfl⟩, fun j o h => by simp at h, fun x h => (by cases h), Nat.le_refl _, fun x h => (by cases h), .nil, fun y _ x h => (by cases h)⟩⟩
  | o :: rest, us, i, acc, s, h => by
    have hexec : ∀ s1 : St, s1.nx = s.nx → Eqv s1 s → dxE P T o (uh us) i acc s1 (fun acc' s' => dx P T all rest (ut us) (i + 1) acc' K s') → (∀ x : Ent, x.o = o → Ex P T x s → Good P T all x s) →
        ∃ l e, K e ∧ Out P T all (o :: rest) us i acc s l e := fun s1 hn1 he h hgood => by
      obtain ⟨x, h1, h2, h3, h4, h5, h6, h7, h8⟩ := dxE_out h
      obtain ⟨l, e, h9, h10⟩ := dx_out rest (ut us) (i + 1) _ _ h8
      have hx : Ex P T x s := h4.of (fun t _ => he.1 t) (fun i _ => he.2 i)
      refine ⟨x :: l, e, h9, out_cons h1 h2 (hgood x h2 hx) (by omega) (by omega) h6 h10 he.app rfl (fun y hy => push_mem hy) ?_⟩
      rcases push_self (x := x.ft) (l := acc) with h | ⟨h, h'⟩
      · exact .inl h
      · exact .inr ⟨h, h7 h, h'⟩
    have hskip : ∀ s1 : St, s1.nx = s.nx → Eqv s1 s → dx P T all rest (ut us) (i + 1) acc K (s1.put o.dst .skip) → (∀ x : Ent, x.o = o → Sk x → Good P T all x s) → ∃ l e, K e ∧ Out P T all (o :: rest) us i acc s l e := fun s1 hn1 he h hgood => by
      obtain ⟨l, e, h9, h10⟩ := dx_out rest (ut us) (i + 1) _ _ h
      have hput : ∀ s : St, (s.put o.dst .skip).nx = s.nx := fun s => by cases o.dst <;> rfl
      exact ⟨⟨i, o, [], [], s.nx, (⟨[], [], s.nx⟩ : St).put o.dst .skip⟩ :: l, e, h9, out_cons rfl rfl (hgood _ rfl ⟨rfl, rfl⟩) rfl (by simp [hput]) (fun y hy => .inl (indF_none2 rfl rfl)) h10 ((put_eqv he).trans (put_mrg s o.dst)) (by simp [hput, hn1]) (fun y hy => hy) (.inr ⟨rfl, rfl, by simp [hput]⟩)⟩
    rw [dx] at h
    split at h
    · rename_i hg
      exact hexec s rfl ⟨fun _ => rfl, fun _ => rfl⟩ h fun x hx hE => by unfold Good; rw [hx, hg]; exact hE
    · rename_i j w hg
      unfold grd at h
      generalize hv : s.gd (gtmp all j) = v at h
      split at h
      · rename_i b
        have hrep : ∀ w', b = w' → Eqv (s.rep (gtmp all j) (.bool w')) s := fun w' hw => by
          subst hw
          cases ht : gtmp all j with
          | none => exact ⟨fun _ => rfl, fun _ => rfl⟩
          | some t =>
            refine ⟨fun u => ?_, fun _ => rfl⟩
            rw [ht] at hv
            simp only [St.rep, lk_upd]
            split
            · rename_i hc
              obtain ⟨y, hy⟩ := Option.isSome_iff_exists.1 hc.2
              have : s.get t = y := by simp [St.get, hy]
              rw [hc.1, hy, ← this]
              exact congrArg _ hv.symm
            · rfl
        have hrnx : ∀ d, (s.rep (gtmp all j) d).nx = s.nx := fun d => by cases gtmp all j <;> rfl
        by_cases hb : b = w
        · refine hexec _ (hrnx _) (hrep w hb) (h.1 hb) fun x hx hE => ?_
          unfold Good
          rw [hx, hg]
          simp only [hv]
          exact ⟨fun _ => hE, fun h => by rw [hb] at h; cases w <;> cases h⟩
        · have hb' : b = !w := by cases b <;> cases w <;> simp_all
          refine hskip _ (hrnx _) (hrep _ hb') (h.2 hb') fun x hx hS => ?_
          unfold Good
          rw [hx, hg]
          simp only [hv]
          exact ⟨fun h => absurd h hb, fun _ => hS⟩
      · refine hskip s rfl ⟨fun _ => rfl, fun _ => rfl⟩ h fun x hx hS => ?_
        unfold Good
        rw [hx, hg]
        simp only [hv]
        exact hS
      · cases h

/-- Those that an operation waits for, of itself or through others. -/
def ancM (As : List Nat) : List Edge → Nat
  | [] => 0
  | e :: l => match bnd e.ground with
    | true => ((1 <<< e.on) ||| As.getD e.on 0) ||| ancM As l
    | false => ancM As l
/-- What must be of a region's text: each waits but for earlier ones; those that do not wait have no temporaries in common. -/
def prsB (all : Array Oper) : Nat → List (Nat × Oper) → List Nat → List Oper → List Nat → Bool
  | _, _, _, [], _ => true
  | _, _, _, _ :: _, [] => false
  | i, pre, As, o :: rest, u :: us => Nat.beq u (ancM As o.after.toList) && (o.after.toList.all fun ed => !bnd ed.ground || Nat.blt ed.on i) && (pre.all fun p => bitN u p.1 || p.2.apart all o) && prsB all (i + 1) ((i, o) :: pre) (As ++ [u]) rest us
theorem bitN_or {a b i : Nat} (h : bitN (a ||| b) i = true) : bitN a i = true ∨ bitN b i = true := by
  have e : ∀ m, bitN m i = m.testBit i := fun m => by
    rw [Nat.testBit_eq_decide_div_mod_eq, bitN, Nat.shiftRight_eq_div_pow]
    by_cases h : m / 2 ^ i % 2 = 1 <;> simp [h]
  rw [e, Nat.testBit_or, Bool.or_eq_true] at h
  rw [e, e]
  exact h
theorem bitN_one {a i : Nat} (h : bitN (1 <<< a) i = true) : a = i := by
  unfold bitN at h
  split at h
  · rename_i h1
    rw [Nat.one_shiftLeft, Nat.shiftRight_eq_div_pow, ← decide_eq_true_eq (p := _ = 1), ← Nat.testBit_eq_decide_div_mod_eq, Nat.testBit_two_pow] at h1
    simpa using h1
  · cases h
theorem bitN_zero {i : Nat} : bitN 0 i = false := by simp [bitN]
theorem binds_bnd {ed : Edge} : Region.binds .any ed = bnd ed.ground := by
  obtain ⟨on, gr⟩ := ed
  cases gr <;> rfl
theorem ancM_spec {o : Oper} {i : Nat} (ho : all[i]? = some o) {As : List Nat} (hA : ∀ j p, bitN (As.getD j 0) p = true → Anc all p j) : ∀ {l : List Edge}, (∀ ed ∈ l, ed ∈ o.after) → ∀ p, bitN (ancM As l) p = true → Anc all p i
  | [], _, p, h => by rw [ancM, bitN_zero] at h; cases h
  | e :: l, hl, p, h => by
    rw [ancM] at h
    split at h
    · rename_i hb
      have hb' : Region.binds .any e = true := by rw [binds_bnd]; exact hb
      rcases bitN_or h with h | h
      · rcases bitN_or h with h | h
        · have := bitN_one h
          subst this
          exact .one ho (hl e (by simp)) hb'
        · exact .more ho (hl e (by simp)) hb' (hA _ _ h)
      · exact ancM_spec ho hA (fun ed hed => hl ed (by simp [hed])) p h
    · exact ancM_spec ho hA (fun ed hed => hl ed (by simp [hed])) p h
theorem prsB_spec : ∀ {ops : List Oper} {i : Nat} {pre : List (Nat × Oper)} {As us : List Nat}, prsB all i pre As ops us = true → As.length = i → (∀ j p, bitN (As.getD j 0) p = true → Anc all p j) → (∀ j : Nat, ops[j]? = all[i + j]?) →
    (∀ (j : Nat) (o : Oper), ops[j]? = some o → ∀ ed ∈ o.after, Region.binds .any ed = true → ed.on < i + j) ∧ (∀ p ∈ pre, ∀ (j : Nat) (o : Oper), ops[j]? = some o → bitN (us.getD j 0) p.1 = true ∨ p.2.apart all o = true) ∧
    (∀ (j k : Nat) (o o' : Oper), j < k → ops[j]? = some o → ops[k]? = some o' → bitN (us.getD k 0) (i + j) = true ∨ o.apart all o' = true) ∧ ∀ (j : Nat) (o : Oper), ops[j]? = some o → ∀ p, bitN (us.getD j 0) p = true → Anc all p (i + j)
  | [], _, _, _, _, _, _, _, _ => ⟨fun j o h => by simp at h, fun p _ j o h => by simp at h, fun j k o o' _ h => by simp at h, fun j o h => by simp at h⟩
  | o :: rest, i, pre, As, [], h, _, _, _ => by simp [prsB] at h
  | o :: rest, i, pre, As, u :: us, h, hl, hA, hops => by
    simp only [prsB, Bool.and_eq_true] at h
    obtain ⟨⟨⟨h0, h1⟩, h2⟩, h3⟩ := h
    have ho : all[i]? = some o := by rw [← Nat.add_zero i, ← hops 0]; rfl
    have hu : ∀ p, bitN u p = true → Anc all p i := fun p hp => ancM_spec ho hA (l := o.after.toList) (fun ed hed => by simpa using hed) p (by rw [← Nat.eq_of_beq_eq_true h0]; exact hp)
    have hA' : ∀ j p, bitN ((As ++ [u]).getD j 0) p = true → Anc all p j := fun j p hp => by
      rw [List.getD_eq_getElem?_getD, List.getElem?_append] at hp
      split at hp
      · exact hA j p (by rw [List.getD_eq_getElem?_getD]; exact hp)
      · rename_i hj
        by_cases hji : j = i
        · subst hji
          rw [← hl, Nat.sub_self] at hp
          rw [← hl]
          exact hl ▸ hu p (by simpa using hp)
        · rw [List.getElem?_eq_none (by simp; omega)] at hp
          simp [bitN_zero] at hp
    obtain ⟨h4, h5, h6, h7⟩ := prsB_spec h3 (by simp [hl]) hA' (fun j => by have := hops (j + 1); simpa [Nat.add_assoc, Nat.add_comm 1 j] using this)
    refine ⟨fun j o' hj ed hed hb => ?_, fun p hp j o' hj => ?_, fun j k o1 o2 hjk hj hk => ?_, fun j o' hj p hp => ?_⟩
    · cases j with
      | zero =>
        obtain rfl : o = o' := by simpa using hj
        have h7 := List.all_eq_true.1 h1 ed (by simpa using hed)
        rw [← binds_bnd, hb] at h7
        simp only [Bool.not_true, Bool.false_or, Nat.blt_eq] at h7
        omega
      | succ j =>
        have := h4 j o' (by simpa using hj) ed hed hb
        omega
    · cases j with
      | zero =>
        obtain rfl : o = o' := by simpa using hj
        have := List.all_eq_true.1 h2 p hp
        simpa using this
      | succ j => exact h5 p (by simp [hp]) j o' (by simpa using hj)
    · cases k with
      | zero => omega
      | succ k =>
        cases j with
        | zero =>
          obtain rfl : o = o1 := by simpa using hj
          exact h5 (i, o) (by simp) k o2 (by simpa using hk)
        | succ j =>
          have := h6 j k o1 o2 (by omega) (by simpa using hj) (by simpa using hk)
          rwa [show i + 1 + j = i + (j + 1) from by omega] at this
    · cases j with
      | zero => exact hu p (by simpa using hp)
      | succ j =>
        have := h7 j o' (by simpa using hj) p (by simpa using hp)
        rwa [show i + 1 + j = i + (j + 1) from by omega] at this

/-- A region whose order is drawn: carried out as it is written, if what does not wait touches nothing in common. -/
theorem ADraw.run (us : List Nat) (hT : TabOk P T) {i : Nat} {ops : Array Oper} {Q : Exit → St → Prop} (hm : P.follows .mixedOrders = true) (hB : prsB ops 0 [] [] ops.toList us = true) (hd : ops.toList.all (dstOk1 n) = true)
    (h : dx P T ops ops.toList us 0 [] (Q .normal) s) : ADraw P n N i ops Q s := by
  intro δ g a w hr hn
  obtain ⟨l, e, hK, ho⟩ := dx_out _ _ _ _ _ h
  obtain ⟨hp1, _, hp3, hp4⟩ := prsB_spec hB rfl (fun j p h => by simp [bitN_zero] at h) (fun j => by simp)
  have hof : ∀ x ∈ l, ops[x.i]? = some x.o := fun x hx => by
    obtain ⟨j, h1, h2⟩ := ho.of x hx
    have : x.i = j := by omega
    rw [this]
    simpa using h2
  have hC : Ext w { w with drawn := w.drawn + 1 } := ⟨Nat.le_refl _, fun _ _ => rfl, rfl, rfl, rfl, Nat.le_succ _⟩
  obtain ⟨h6, h7⟩ := hr.o.grow hC (I := g.I) (fun b hb => hb) (fun b _ hb => hb) (fun b hb => (hr.o.cel b hb).keep (hC.2.1 b (hr.o.imm b hb).1))
  have hr' : Rel δ (g.imm g.I) s a { w with drawn := w.drawn + 1 } := hr.of h6 h7.tm rfl
  have hlen : l.length = ops.size := by
    have hnd : (l.map (·.i)).Pairwise (· < ·) := (List.pairwise_map).2 (ho.two.imp fun h => h.1)
    have h1 : l.map (·.i) = List.range ops.size := by
      refine List.Perm.eq_of_pairwise (le := (· < ·)) (fun a b _ _ h h' => by omega) hnd List.pairwise_lt_range ?_
      refine (List.perm_ext_iff_of_nodup (hnd.imp fun h => Nat.ne_of_lt h) List.nodup_range).2 fun k => ?_
      rw [List.mem_map, List.mem_range]
      constructor
      · rintro ⟨x, hx, rfl⟩
        exact (Array.getElem?_eq_some_iff.1 (hof x hx)).1
      · intro hk
        obtain ⟨x, hx, hxi⟩ := ho.nums k ops[k] (by simp [hk])
        exact ⟨x, hx, by omega⟩
    have h2 := congrArg List.length h1
    simpa using h2
  refine wp_region_any hm (drawn_sound (e := e) hT.toS hd (fun i o hi ed hed hb => ?_) ops.size _ l _ s a _ hlen (by simp) (fun i o hi => ?_) (fun i hi => ?_) hof ?_ (fun x hx => ⟨(ho.lo x hx).2.2, (ho.lo x hx).2.1⟩) ho.tr (hr'.toP.less fun id hid => ?_) hn fun g' a' w' h1 h2 h3 => ?_)
  · have := hp1 i o (by simpa using hi) ed hed hb
    omega
  · by_cases hsz : i < ops.size <;> simp [Array.getD, hsz] at hi
  · constructor
    · intro _
      obtain ⟨x, hx, hxi⟩ := ho.nums i ops[i] (by simp [hi])
      exact ⟨x, hx, by omega⟩
    · intro _
      simp [Array.getD, hi]
  · refine ho.two.imp_of_mem fun {y x} hy hx h => ⟨h.1, h.2.1, h.2.2.1, ?_⟩
    rw [Nat.sub_zero] at h
    by_cases hed : bitN (us.getD x.i 0) y.i = true
    · left
      have := hp4 x.i x.o (by simpa using hof x hx) y.i hed
      rwa [Nat.zero_add] at this
    · right
      have h8 := indF_spec (h.2.2.2.resolve_right hed)
      have h9 := hp3 y.i x.i y.o x.o h.1 (by simpa using hof y hy) (by simpa using hof x hx)
      rw [Nat.zero_add] at h9
      exact ⟨h9.resolve_left hed, h8.1, h8.2.1, h8.2.2, h.2.1, h.2.2.1⟩
  · rcases hid with ⟨x, hx, h1, h2⟩ | h1
    · have := ho.lo x hx; omega
    · have := ho.nx; omega
  · refine ⟨g', e, hK, h1.toR fun id hid => hid, h2, ?_⟩
    have h10 : Step g s w (g.imm g.I) s { w with drawn := w.drawn + 1 } := h7.tm
    exact (h10.trans h3).toN
end
end Dm
/-! The rules by which simp carries out a region whose order is drawn. -/
namespace Dm
open Go
section
variable {P : Program} {T : Tab} {all : Array Oper} {rest : List Oper} {s s' r : St} {K : St → Prop} {d : Option Nat} {ty : TypeId} {pos : String} {af : Array Edge} {gd : Option (Nat × Bool)} {i i' : Nat} {acc acc' : List Ft} {Tt W : List Nat}
attribute [go_sem] mem sub apt low inR allR outR ins uni midsL mob midsA mobO cont clo valsB obsB rosB rvP sameO gone wOf indF accB uh ut
@[go_sem] theorem mids_ref {a b : Nat} : mids (.ref a b) = [a] := by rw [mids]
@[go_sem] theorem mids_eref {a b c e f : Nat} : mids (.eref a b c e f) = [a] := by rw [mids]
@[go_sem] theorem mids_vec {a b : Nat} : mids (.vec a b) = [a] := by rw [mids]
@[go_sem] theorem mids_view {a b c e f : Nat} : mids (.view a b c e f) = [a] := by rw [mids]
@[go_sem] theorem mids_mp {a : Nat} : mids (.mp a) = [a] := by rw [mids]
@[go_sem] theorem mids_nilm : mids .nilm = [] := by simp [mids]
@[go_sem] theorem midsL_ints {v : IntKind} {l : List (Nat × Int)} : midsL (l.map fun x => D.int v x.2) = [] := by
  induction l with
  | nil => rfl
  | cons x l ih => rw [List.map_cons, midsL, ih]; simp [mids]
@[go_sem] theorem mids_fn {f : Fn} {l m : List D} : mids (.fn f l m) = midsL l ++ midsL m := by rw [mids]
@[go_sem] theorem mids_agg {l : List D} : mids (.agg l) = midsL l := by rw [mids]
@[go_sem] theorem mids_tup {l : List D} : mids (.tup l) = midsL l := by rw [mids]
@[go_sem] theorem mids_c {x : C} : mids (.c x) = [] := by simp [mids]
@[go_sem] theorem mids_undef : mids .undef = [] := by simp [mids]
@[go_sem] theorem mids_skip : mids .skip = [] := by simp [mids]
@[go_sem] theorem mids_rp {l : List C} : mids (.rp l) = [] := by simp [mids]
@[go_sem] theorem mids_nilp : mids .nilp = [] := by simp [mids]
@[go_sem] theorem mids_nilf : mids .nilf = [] := by simp [mids]
@[go_sem] theorem mids_nil : mids .nil = [] := by simp [mids]
@[go_sem] theorem mids_csl {l : List (List C)} : mids (.csl l) = [] := by simp [mids]
def cns {α : Type} (k : Nat) (x : Option α) (r : List (Nat × α)) : List (Nat × α) := match x with
  | some x => (k, x) :: r
  | none => r
@[go_sem] theorem pickL_nil {α : Type} {l : List (Nat × α)} : pickL [] l = [] := rfl
@[go_sem] theorem pickL_cons {α : Type} {k : Nat} {ks : List Nat} {l : List (Nat × α)} : pickL (k :: ks) l = cns k (lk k l) (pickL ks l) := rfl
@[go_sem] theorem cns_some {α : Type} {k : Nat} {x : α} {r : List (Nat × α)} : cns k (some x) r = (k, x) :: r := rfl
@[go_sem] theorem cns_none {α : Type} {k : Nat} {r : List (Nat × α)} : cns k none r = r := rfl
@[go_sem] theorem loc_mk {rd : List Nat} {B : Nat} {tm : List (Nat × D)} {os : List (Nat × Ob)} {nx : Nat} : St.loc rd Tt B ⟨tm, os, nx⟩ = ⟨pickL rd tm, pickL Tt os, B⟩ := rfl
def wo {α : Type} (T : List Nat) : List (Nat × α) → List (Nat × α)
  | [] => []
  | (m, x) :: l => if mem m T = true then wo T l else (m, x) :: wo T l
theorem wo_eq {α : Type} {T : List Nat} : ∀ {l : List (Nat × α)}, (l.filter fun p => !T.contains p.1) = wo T l
  | [] => rfl
  | (m, x) :: l => by
    rw [wo, List.filter_cons, wo_eq]
    by_cases h : m ∈ T <;> simp [h, mem_iff]
attribute [go_sem] wo
@[go_sem] theorem mrg_mk {t : Nat} {tm tm' : List (Nat × D)} {os os' : List (Nat × Ob)} {nx nx' : Nat} : St.mrg ⟨tm, os, nx⟩ Tt (some t) ⟨tm', os', nx'⟩ = ⟨(t, (lk t tm').getD .undef) :: tm, os' ++ wo Tt os, nx'⟩ := by
  rw [← wo_eq]; rfl
@[go_sem] theorem mrg_no {tm tm' : List (Nat × D)} {os os' : List (Nat × Ob)} {nx nx' : Nat} : St.mrg ⟨tm, os, nx⟩ Tt none ⟨tm', os', nx'⟩ = ⟨tm, os' ++ wo Tt os, nx'⟩ := by
  rw [← wo_eq]; rfl
/-! ### Temporaries -/
def tO : List Operand → List Nat
  | [] => []
  | .tmp t :: l => t :: tO l
  | .const _ :: l => tO l
  | .global _ :: l => tO l
  | .func _ :: l => tO l
attribute [go_sem] tO
theorem tO_eq : ∀ l : List Operand, (l.filterMap fun | .tmp t => some t | _ => none) = tO l
  | [] => rfl
  | .tmp t :: l => congrArg (t :: ·) (tO_eq l)
  | .const _ :: l => tO_eq l
  | .global _ :: l => tO_eq l
  | .func _ :: l => tO_eq l
theorem opT_eq {o : Oper} : opT o = tO o.op.operands.toList := tO_eq _
def opo : Option Operand → List Operand
  | some x => [x]
  | none => []
attribute [go_sem] opo
@[go_sem] theorem T_move {x : Operand} : opT ⟨d, .move x, ty, pos, af, gd⟩ = tO [x] := opT_eq
@[go_sem] theorem T_assign {x : Operand} : opT ⟨d, .assign x, ty, pos, af, gd⟩ = tO [x] := opT_eq
@[go_sem] theorem T_pick {c x y : Operand} : opT ⟨d, .pick c x y, ty, pos, af, gd⟩ = tO [c, x, y] := opT_eq
@[go_sem] theorem T_alloc {t : TypeId} : opT ⟨d, .alloc t, ty, pos, af, gd⟩ = [] := opT_eq
@[go_sem] theorem T_box {t : TypeId} {x : Operand} : opT ⟨d, .box t x, ty, pos, af, gd⟩ = tO [x] := opT_eq
@[go_sem] theorem T_build {t : TypeId} {ps : List (Nat × Operand)} : opT ⟨d, .build t ps.toArray, ty, pos, af, gd⟩ = tO (ps.map (·.2)) := by rw [opT_eq]; simp [Op.operands]
@[go_sem] theorem T_buildSlice {t : TypeId} {m : Nat} {ps : List (Nat × Operand)} : opT ⟨d, .buildSlice t m ps.toArray, ty, pos, af, gd⟩ = tO (ps.map (·.2)) := by rw [opT_eq]; simp [Op.operands]
@[go_sem] theorem T_load {t : TypeId} {x : Operand} : opT ⟨d, .load t x, ty, pos, af, gd⟩ = tO [x] := opT_eq
@[go_sem] theorem T_store {t : TypeId} {p x : Operand} : opT ⟨d, .store t p x, ty, pos, af, gd⟩ = tO [p, x] := opT_eq
@[go_sem] theorem T_nilCheck {x : Operand} : opT ⟨d, .nilCheck x, ty, pos, af, gd⟩ = tO [x] := opT_eq
@[go_sem] theorem T_binOp {op : BinOp} {t t' : TypeId} {x y : Operand} : opT ⟨d, .binOp op t x y t', ty, pos, af, gd⟩ = tO [x, y] := opT_eq
@[go_sem] theorem T_unOp {op : UnOp} {t : TypeId} {x : Operand} : opT ⟨d, .unOp op t x, ty, pos, af, gd⟩ = tO [x] := opT_eq
@[go_sem] theorem T_convert {t u : TypeId} {x : Operand} : opT ⟨d, .convert t u x, ty, pos, af, gd⟩ = tO [x] := opT_eq
@[go_sem] theorem T_makeFunc {f : Fn} {fi ca : List Operand} : opT ⟨d, .makeFunc f fi.toArray ca.toArray, ty, pos, af, gd⟩ = tO (fi ++ ca) := by rw [opT_eq]; simp [Op.operands]
@[go_sem] theorem T_makeSlice {t : TypeId} {l c : Operand} : opT ⟨d, .makeSlice t l c, ty, pos, af, gd⟩ = tO [l, c] := opT_eq
@[go_sem] theorem T_slice {t : TypeId} {x : Operand} {lo hi mx : Option Operand} : opT ⟨d, .slice t x lo hi mx, ty, pos, af, gd⟩ = tO (x :: (opo lo ++ (opo hi ++ opo mx))) := by
  rw [opT_eq]; cases lo <;> cases hi <;> cases mx <;> rfl
@[go_sem] theorem T_fieldAddr {t : TypeId} {x : Operand} {f : Nat} : opT ⟨d, .fieldAddr t x f, ty, pos, af, gd⟩ = tO [x] := opT_eq
@[go_sem] theorem T_field {t : TypeId} {x : Operand} {f : Nat} : opT ⟨d, .field t x f, ty, pos, af, gd⟩ = tO [x] := opT_eq
@[go_sem] theorem T_indexAddr {t : TypeId} {x j : Operand} : opT ⟨d, .indexAddr t x j, ty, pos, af, gd⟩ = tO [x, j] := opT_eq
@[go_sem] theorem T_index {t : TypeId} {x j : Operand} : opT ⟨d, .index t x j, ty, pos, af, gd⟩ = tO [x, j] := opT_eq
@[go_sem] theorem T_makeMap0 {t : TypeId} : opT ⟨d, .makeMap t none, ty, pos, af, gd⟩ = tO [] := opT_eq
@[go_sem] theorem T_makeMap1 {t : TypeId} {r : Operand} : opT ⟨d, .makeMap t (some r), ty, pos, af, gd⟩ = tO [r] := opT_eq
@[go_sem] theorem T_lookup {t : TypeId} {x i : Operand} {ok : Bool} : opT ⟨d, .lookup t x i ok, ty, pos, af, gd⟩ = tO [x, i] := opT_eq
@[go_sem] theorem T_mapUpdate {t : TypeId} {m k x : Operand} : opT ⟨d, .mapUpdate t m k x, ty, pos, af, gd⟩ = tO [m, k, x] := opT_eq
@[go_sem] theorem T_insert {t : TypeId} {m k x : Operand} : opT ⟨d, .insert t m k x, ty, pos, af, gd⟩ = tO [m, k, x] := opT_eq
@[go_sem] theorem T_range {t : TypeId} {x : Operand} : opT ⟨d, .range t x, ty, pos, af, gd⟩ = tO [x] := opT_eq
@[go_sem] theorem T_entry {x : Operand} : opT ⟨d, .entry x, ty, pos, af, gd⟩ = tO [x] := opT_eq
@[go_sem] theorem T_extract {x : Operand} {j : Nat} : opT ⟨d, .extract x j, ty, pos, af, gd⟩ = tO [x] := opT_eq
@[go_sem] theorem T_builtin {b : Builtin} {xs : List Operand} {ts : Array TypeId} : opT ⟨d, .call ⟨.builtin b, xs.toArray, ts⟩, ty, pos, af, gd⟩ = tO xs := by rw [opT_eq]; simp [Op.operands, Call.operands]
@[go_sem] theorem T_call {f : Operand} {xs : List Operand} {ts : Array TypeId} : opT ⟨d, .call ⟨.value f, xs.toArray, ts⟩, ty, pos, af, gd⟩ = tO (f :: xs) := by rw [opT_eq]; simp [Op.operands, Call.operands]
/-! ### Which operations write -/
@[go_sem] theorem st_move {x : Operand} : stOp (.move x) = false := rfl
@[go_sem] theorem st_assign {x : Operand} : stOp (.assign x) = false := rfl
@[go_sem] theorem st_pick {c x y : Operand} : stOp (.pick c x y) = false := rfl
@[go_sem] theorem st_alloc {t : TypeId} : stOp (.alloc t) = false := rfl
@[go_sem] theorem st_box {t : TypeId} {x : Operand} : stOp (.box t x) = false := rfl
@[go_sem] theorem st_build {t : TypeId} {ps : Array (Nat × Operand)} : stOp (.build t ps) = false := rfl
@[go_sem] theorem st_buildSlice {t : TypeId} {m : Nat} {ps : Array (Nat × Operand)} : stOp (.buildSlice t m ps) = false := rfl
@[go_sem] theorem st_load {t : TypeId} {x : Operand} : stOp (.load t x) = false := rfl
@[go_sem] theorem st_store {t : TypeId} {p x : Operand} : stOp (.store t p x) = true := rfl
@[go_sem] theorem st_nilCheck {x : Operand} : stOp (.nilCheck x) = false := rfl
@[go_sem] theorem st_binOp {op : BinOp} {t t' : TypeId} {x y : Operand} : stOp (.binOp op t x y t') = false := rfl
@[go_sem] theorem st_unOp {op : UnOp} {t : TypeId} {x : Operand} : stOp (.unOp op t x) = false := rfl
@[go_sem] theorem st_convert {t u : TypeId} {x : Operand} : stOp (.convert t u x) = false := rfl
@[go_sem] theorem st_makeFunc {f : Fn} {fi ca : Array Operand} : stOp (.makeFunc f fi ca) = false := rfl
@[go_sem] theorem st_makeSlice {t : TypeId} {l c : Operand} : stOp (.makeSlice t l c) = false := rfl
@[go_sem] theorem st_slice {t : TypeId} {x : Operand} {lo hi mx : Option Operand} : stOp (.slice t x lo hi mx) = false := rfl
@[go_sem] theorem st_fieldAddr {t : TypeId} {x : Operand} {f : Nat} : stOp (.fieldAddr t x f) = false := rfl
@[go_sem] theorem st_field {t : TypeId} {x : Operand} {f : Nat} : stOp (.field t x f) = false := rfl
@[go_sem] theorem st_indexAddr {t : TypeId} {x j : Operand} : stOp (.indexAddr t x j) = false := rfl
@[go_sem] theorem st_index {t : TypeId} {x j : Operand} : stOp (.index t x j) = false := rfl
@[go_sem] theorem st_makeMap {t : TypeId} {r : Option Operand} : stOp (.makeMap t r) = false := rfl
@[go_sem] theorem st_lookup {t : TypeId} {x i : Operand} {ok : Bool} : stOp (.lookup t x i ok) = false := rfl
@[go_sem] theorem st_mapUpdate {t : TypeId} {m k x : Operand} : stOp (.mapUpdate t m k x) = true := rfl
@[go_sem] theorem st_insert {t : TypeId} {m k x : Operand} : stOp (.insert t m k x) = true := rfl
@[go_sem] theorem st_range {t : TypeId} {x : Operand} : stOp (.range t x) = false := rfl
@[go_sem] theorem st_entry {x : Operand} : stOp (.entry x) = false := rfl
@[go_sem] theorem st_extract {x : Operand} {j : Nat} : stOp (.extract x j) = false := rfl
@[go_sem] theorem st_len {xs ts} : stOp (.call ⟨.builtin .len, xs, ts⟩) = false := rfl
@[go_sem] theorem st_min {xs ts} : stOp (.call ⟨.builtin .min, xs, ts⟩) = false := rfl
@[go_sem] theorem st_max {xs ts} : stOp (.call ⟨.builtin .max, xs, ts⟩) = false := rfl
@[go_sem] theorem st_append {xs ts} : stOp (.call ⟨.builtin .append, xs, ts⟩) = true := rfl
@[go_sem] theorem st_copy {xs ts} : stOp (.call ⟨.builtin .copy, xs, ts⟩) = true := rfl
@[go_sem] theorem st_cap {xs ts} : stOp (.call ⟨.builtin .cap, xs, ts⟩) = false := rfl
@[go_sem] theorem st_call {f : Operand} {xs ts} : stOp (.call ⟨.value f, xs, ts⟩) = false := rfl
/-! ### Operations -/
@[congr] theorem aopX_congr {o : Oper} (h : s = s') : aopX P T o s K = aopX P T o s' K := by rw [h]
@[congr] theorem okX_congr {x x' : Option (Prop × D)} (h : x = x') (h' : s = s') : okX x d s K = okX x' d s' K := by rw [h, h']
@[congr] theorem aclX_congr {f f' : D} {args args' : List D} (h : f = f') (h1 : args = args') (h' : s = s') : aclX T f args d s K = aclX T f' args' d s' K := by rw [h, h1, h']
@[go_sem] theorem okX_some {p : Prop} {v : D} : okX (some (p, v)) d s K = K (s.put d v) := rfl
@[go_sem] theorem X_move {x : Operand} : aopX P T ⟨d, .move x, ty, pos, af, gd⟩ s K = aop P T ⟨d, .move x, ty, pos, af, gd⟩ s K := rfl
@[go_sem] theorem X_assign {x : Operand} : aopX P T ⟨d, .assign x, ty, pos, af, gd⟩ s K = aop P T ⟨d, .assign x, ty, pos, af, gd⟩ s K := rfl
@[go_sem] theorem X_pick {c x y : Operand} : aopX P T ⟨d, .pick c x y, ty, pos, af, gd⟩ s K = aop P T ⟨d, .pick c x y, ty, pos, af, gd⟩ s K := rfl
@[go_sem] theorem X_alloc {t : TypeId} : aopX P T ⟨d, .alloc t, ty, pos, af, gd⟩ s K = aop P T ⟨d, .alloc t, ty, pos, af, gd⟩ s K := rfl
@[go_sem] theorem X_box {t : TypeId} {x : Operand} : aopX P T ⟨d, .box t x, ty, pos, af, gd⟩ s K = aop P T ⟨d, .box t x, ty, pos, af, gd⟩ s K := rfl
@[go_sem] theorem X_build {t : TypeId} {ps : Array (Nat × Operand)} : aopX P T ⟨d, .build t ps, ty, pos, af, gd⟩ s K = aop P T ⟨d, .build t ps, ty, pos, af, gd⟩ s K := rfl
@[go_sem] theorem X_buildSlice {t : TypeId} {m : Nat} {ps : Array (Nat × Operand)} : aopX P T ⟨d, .buildSlice t m ps, ty, pos, af, gd⟩ s K = aop P T ⟨d, .buildSlice t m ps, ty, pos, af, gd⟩ s K := rfl
@[go_sem] theorem X_load {t : TypeId} {x : Operand} : aopX P T ⟨d, .load t x, ty, pos, af, gd⟩ s K = aop P T ⟨d, .load t x, ty, pos, af, gd⟩ s K := rfl
@[go_sem] theorem X_store {t : TypeId} {p x : Operand} : aopX P T ⟨d, .store t p x, ty, pos, af, gd⟩ s K = aop P T ⟨d, .store t p x, ty, pos, af, gd⟩ s K := rfl
@[go_sem] theorem X_nilCheck {x : Operand} : aopX P T ⟨d, .nilCheck x, ty, pos, af, gd⟩ s K = aop P T ⟨d, .nilCheck x, ty, pos, af, gd⟩ s K := rfl
@[go_sem] theorem X_binOp {op : BinOp} {t t' : TypeId} {x y : Operand} : aopX P T ⟨d, .binOp op t x y t', ty, pos, af, gd⟩ s K = (nilq P op t (s.ev x) (s.ev y) = none ∧ faD op (s.ev x) (s.ev y) = none ∧ okP (binD P op t (s.ev x) (s.ev y)) d s K) := rfl
@[go_sem] theorem X_unOp {op : UnOp} {t : TypeId} {x : Operand} : aopX P T ⟨d, .unOp op t x, ty, pos, af, gd⟩ s K = aop P T ⟨d, .unOp op t x, ty, pos, af, gd⟩ s K := rfl
@[go_sem] theorem X_convert {t u : TypeId} {x : Operand} : aopX P T ⟨d, .convert t u x, ty, pos, af, gd⟩ s K = aop P T ⟨d, .convert t u x, ty, pos, af, gd⟩ s K := rfl
@[go_sem] theorem X_makeFunc {f : Fn} {fi ca : Array Operand} : aopX P T ⟨d, .makeFunc f fi ca, ty, pos, af, gd⟩ s K = aop P T ⟨d, .makeFunc f fi ca, ty, pos, af, gd⟩ s K := rfl
@[go_sem] theorem X_makeSlice {t : TypeId} {l c : Operand} : aopX P T ⟨d, .makeSlice t l c, ty, pos, af, gd⟩ s K = aop P T ⟨d, .makeSlice t l c, ty, pos, af, gd⟩ s K := rfl
@[go_sem] theorem X_slice {t : TypeId} {x : Operand} {lo hi mx : Option Operand} : aopX P T ⟨d, .slice t x lo hi mx, ty, pos, af, gd⟩ s K = aop P T ⟨d, .slice t x lo hi mx, ty, pos, af, gd⟩ s K := rfl
@[go_sem] theorem X_fieldAddr {t : TypeId} {x : Operand} {f : Nat} : aopX P T ⟨d, .fieldAddr t x f, ty, pos, af, gd⟩ s K = aop P T ⟨d, .fieldAddr t x f, ty, pos, af, gd⟩ s K := rfl
@[go_sem] theorem X_field {t : TypeId} {x : Operand} {f : Nat} : aopX P T ⟨d, .field t x f, ty, pos, af, gd⟩ s K = aop P T ⟨d, .field t x f, ty, pos, af, gd⟩ s K := rfl
@[go_sem] theorem X_indexAddr {t : TypeId} {x j : Operand} : aopX P T ⟨d, .indexAddr t x j, ty, pos, af, gd⟩ s K = aop P T ⟨d, .indexAddr t x j, ty, pos, af, gd⟩ s K := rfl
@[go_sem] theorem X_index {t : TypeId} {x j : Operand} : aopX P T ⟨d, .index t x j, ty, pos, af, gd⟩ s K = aop P T ⟨d, .index t x j, ty, pos, af, gd⟩ s K := rfl
@[go_sem] theorem X_makeMap {t : TypeId} {r : Option Operand} : aopX P T ⟨d, .makeMap t r, ty, pos, af, gd⟩ s K = aop P T ⟨d, .makeMap t r, ty, pos, af, gd⟩ s K := rfl
@[go_sem] theorem X_lookup {t : TypeId} {x i : Operand} {ok : Bool} : aopX P T ⟨d, .lookup t x i ok, ty, pos, af, gd⟩ s K = aop P T ⟨d, .lookup t x i ok, ty, pos, af, gd⟩ s K := rfl
@[go_sem] theorem X_mapUpdate {t : TypeId} {m k x : Operand} : aopX P T ⟨d, .mapUpdate t m k x, ty, pos, af, gd⟩ s K = aop P T ⟨d, .mapUpdate t m k x, ty, pos, af, gd⟩ s K := rfl
@[go_sem] theorem X_insert {t : TypeId} {m k x : Operand} : aopX P T ⟨d, .insert t m k x, ty, pos, af, gd⟩ s K = aop P T ⟨d, .insert t m k x, ty, pos, af, gd⟩ s K := rfl
@[go_sem] theorem X_range {t : TypeId} {x : Operand} : aopX P T ⟨d, .range t x, ty, pos, af, gd⟩ s K = aop P T ⟨d, .range t x, ty, pos, af, gd⟩ s K := rfl
@[go_sem] theorem X_entry {x : Operand} : aopX P T ⟨d, .entry x, ty, pos, af, gd⟩ s K = aop P T ⟨d, .entry x, ty, pos, af, gd⟩ s K := rfl
@[go_sem] theorem X_extract {x : Operand} {j : Nat} : aopX P T ⟨d, .extract x j, ty, pos, af, gd⟩ s K = aop P T ⟨d, .extract x j, ty, pos, af, gd⟩ s K := rfl
@[go_sem] theorem X_len {x : Operand} {t : TypeId} : aopX P T ⟨d, .call ⟨.builtin .len, #[x], #[t]⟩, ty, pos, af, gd⟩ s K = ((elOf P t).isSome = true ∧ okX (lenD (s.ev x)) d s K) := rfl
@[go_sem] theorem X_min {xs : Array Operand} {ts : Array TypeId} : aopX P T ⟨d, .call ⟨.builtin .min, xs, ts⟩, ty, pos, af, gd⟩ s K = aop P T ⟨d, .call ⟨.builtin .min, xs, ts⟩, ty, pos, af, gd⟩ s K := rfl
@[go_sem] theorem X_max {xs : Array Operand} {ts : Array TypeId} : aopX P T ⟨d, .call ⟨.builtin .max, xs, ts⟩, ty, pos, af, gd⟩ s K = aop P T ⟨d, .call ⟨.builtin .max, xs, ts⟩, ty, pos, af, gd⟩ s K := rfl
@[go_sem] theorem X_append {x y : Operand} {t u : TypeId} : aopX P T ⟨d, .call ⟨.builtin .append, #[x, y], #[t, u]⟩, ty, pos, af, gd⟩ s K = (appM P s t u (s.ev x) (s.ev y) = none ∧ t = u ∧ okT (appD P s t d (s.ev x) (s.ev y)) K) := rfl
@[go_sem] theorem X_copy {xs : Array Operand} {ts : Array TypeId} : aopX P T ⟨d, .call ⟨.builtin .copy, xs, ts⟩, ty, pos, af, gd⟩ s K = aop P T ⟨d, .call ⟨.builtin .copy, xs, ts⟩, ty, pos, af, gd⟩ s K := rfl
@[go_sem] theorem X_cap {xs : Array Operand} {ts : Array TypeId} : aopX P T ⟨d, .call ⟨.builtin .cap, xs, ts⟩, ty, pos, af, gd⟩ s K = aop P T ⟨d, .call ⟨.builtin .cap, xs, ts⟩, ty, pos, af, gd⟩ s K := rfl
@[go_sem] theorem X_call {f : Operand} {xs : List Operand} {ts : Array TypeId} : aopX P T ⟨d, .call ⟨.value f, xs.toArray, ts⟩, ty, pos, af, gd⟩ s K = aclX T (s.ev f) (xs.map s.ev) d s K := rfl
def xcX (x : Option (Prop × D × List (Nat × Ob) × Nat)) (tm : List (Nat × D)) (d : Option Nat) (K : St → Prop) : Prop := match x with
  | some (p, r, os', nx') => p ∧ K (St.put ⟨tm, os', nx'⟩ d r)
  | none => False
@[congr] theorem xcX_congr {x x' : Option (Prop × D × List (Nat × Ob) × Nat)} {tm tm' : List (Nat × D)} (h : x = x') (h' : tm = tm') : xcX x tm d K = xcX x' tm' d K := by rw [h, h']
@[go_sem] theorem aclX_fn {f : FuncId} {fi ca args : List D} {tm : List (Nat × D)} {os : List (Nat × Ob)} {nx : Nat} : aclX T (.fn (.func f) fi ca) args d ⟨tm, os, nx⟩ K = (ovm T f = false ∧ xcX (look T os nx f (fi ++ args ++ ca)) tm d K) := rfl
@[go_sem] theorem xcX_some {p : Prop} {v : D} {tm : List (Nat × D)} {os : List (Nat × Ob)} {nx : Nat} : xcX (some (p, v, os, nx)) tm d K = (p ∧ K (St.put ⟨tm, os, nx⟩ d v)) := rfl
/-! ### In whatever order -/
@[go_sem] theorem push_c {j n : Nat} {T W : List Nat} {B nx : Nat} : push ⟨j, n :: T, W, B, nx⟩ acc = ⟨j, n :: T, W, B, nx⟩ :: acc := rfl
@[go_sem] theorem push_n {j : Nat} {W : List Nat} {B nx : Nat} : push ⟨j, [], W, B, nx⟩ acc = if nx = B then acc else ⟨j, [], W, B, nx⟩ :: acc := rfl
def kdx (P : Program) (T : Tab) (all : Array Oper) (rest : List Oper) (us : List Nat) (i : Nat) (K : St → Prop) : List Ft → St → Prop := fun acc s => dx P T all rest us i acc K s
def kdxE (P : Program) (T : Tab) (o : Oper) (u i : Nat) (acc : List Ft) (k : List Ft → St → Prop) : St → Prop := fun s => dxE P T o u i acc s k
def kdxS (P : Program) (T : Tab) (all : Array Oper) (d : Option Nat) (rest : List Oper) (us : List Nat) (i : Nat) (acc : List Ft) (K : St → Prop) : St → Prop := fun s => dx P T all rest us i acc K (s.put d .skip)
variable {us us' : List Nat} {u u' : Nat}
@[congr] theorem dx_congr {l : List Oper} (hu : us = us') (hi : i = i') (ha : acc = acc') (h : s = s') : dx P T all l us i acc K s = dx P T all l us' i' acc' K s' := by rw [hu, hi, ha, h]
@[congr] theorem kdx_congr {l : List Oper} (hu : us = us') (hi : i = i') (ha : acc = acc') (h : s = s') : kdx P T all l us i K acc s = kdx P T all l us' i' K acc' s' := by rw [hu, hi, ha, h]
@[congr] theorem kdxE_congr {o : Oper} {k : List Ft → St → Prop} (hu : u = u') (hi : i = i') (ha : acc = acc') (h : s = s') : kdxE P T o u i acc k s = kdxE P T o u' i' acc' k s' := by rw [hu, hi, ha, h]
@[congr] theorem kdxS_congr {l : List Oper} (hu : us = us') (hi : i = i') (ha : acc = acc') (h : s = s') : kdxS P T all d l us i acc K s = kdxS P T all d l us' i' acc' K s' := by rw [hu, hi, ha, h]
@[congr] theorem dxE_congr {o : Oper} {k : List Ft → St → Prop} (hu : u = u') (hi : i = i') (ha : acc = acc') (h : s = s') : dxE P T o u i acc s k = dxE P T o u' i' acc' s' k := by rw [hu, hi, ha, h]
@[congr] theorem dxL_congr {o : Oper} {k : List Ft → St → Prop} {Tt Tt' : List Nat} (hu : u = u') (hi : i = i') (ha : acc = acc') (h : s = s') (ht : Tt = Tt') : dxL P T o u i acc s k Tt = dxL P T o u' i' acc' s' k Tt' := by rw [hu, hi, ha, h, ht]
@[congr] theorem dxR_congr {o : Oper} {k : List Ft → St → Prop} {r r' : St} (h : r = r') : dxR P o u i acc s Tt k r = dxR P o u i acc s Tt k r' := by rw [h]
@[congr] theorem dxW_congr {o : Oper} {k : List Ft → St → Prop} {W W' : List Nat} {r r' : St} (hr : r = r') (h : W = W') : dxW P o u i acc s Tt r k W = dxW P o u i acc s Tt r' k W' := by rw [hr, h]
@[go_sem] theorem DX_nil : dx P T all [] us i acc K s = K s := rfl
@[go_sem] theorem DX_none {op : Op} : dx P T all (⟨d, op, ty, pos, af, none⟩ :: rest) us i acc K s = dxE P T ⟨d, op, ty, pos, af, none⟩ (uh us) i acc s (kdx P T all rest (ut us) (i + 1) K) := rfl
@[go_sem] theorem DX_guard {op : Op} {j : Nat} {w : Bool} : dx P T all (⟨d, op, ty, pos, af, some (j, w)⟩ :: rest) us i acc K s =
    grd (gtmp all j) (s.gd (gtmp all j)) w (kdxE P T ⟨d, op, ty, pos, af, some (j, w)⟩ (uh us) i acc (kdx P T all rest (ut us) (i + 1) K)) (kdxS P T all d rest (ut us) (i + 1) acc K) s := rfl
@[go_sem] theorem DX_appc {o : Oper} {l r : List Oper} : dx P T all (List.append (o :: l) r) us i acc K s = dx P T all (o :: List.append l r) us i acc K s := rfl
@[go_sem] theorem DX_appn {r : List Oper} : dx P T all (List.append [] r) us i acc K s = dx P T all r us i acc K s := rfl
@[go_sem] theorem DX_appa {l r q : List Oper} : dx P T all (List.append (List.append l r) q) us i acc K s = dx P T all (List.append l (List.append r q)) us i acc K s := by
  rw [List.append_eq, List.append_eq, List.append_eq, List.append_eq, List.append_assoc]
@[go_sem] theorem kdx_app {l : List Oper} : kdx P T all l us i K acc s = dx P T all l us i acc K s := rfl
@[go_sem] theorem kdxE_app {o : Oper} {k : List Ft → St → Prop} : kdxE P T o u i acc k s = dxE P T o u i acc s k := rfl
@[go_sem] theorem kdxS_app : kdxS P T all d rest us i acc K s = dx P T all rest us i acc K (s.put d .skip) := rfl
@[go_sem] theorem dxE_eq {o : Oper} {k : List Ft → St → Prop} {tm : List (Nat × D)} {os : List (Nat × Ob)} {nx : Nat} : dxE P T o u i acc ⟨tm, os, nx⟩ k = dxL P T o u i acc ⟨tm, os, nx⟩ k (clo os (uni (midsA (pickL (opT o) tm)) [])) := rfl
@[go_sem] theorem dxL_eq {o : Oper} {k : List Ft → St → Prop} {tm : List (Nat × D)} {os : List (Nat × Ob)} {nx : Nat} : dxL P T o u i acc ⟨tm, os, nx⟩ k Tt = aopX P T o (St.loc (opT o) Tt nx ⟨tm, os, nx⟩) (dxR P o u i acc ⟨tm, os, nx⟩ Tt k) := rfl
@[go_sem] theorem dxR_eq {op : Op} {k : List Ft → St → Prop} {tm : List (Nat × D)} {os : List (Nat × Ob)} {nx : Nat} : dxR P ⟨d, op, ty, pos, af, gd⟩ u i acc s Tt k ⟨tm, os, nx⟩ = dxW P ⟨d, op, ty, pos, af, gd⟩ u i acc s Tt ⟨tm, os, nx⟩ k (wOf (stOp op) Tt os) := rfl
@[go_sem] theorem dxW_eq {op : Op} {k : List Ft → St → Prop} {tm tm' : List (Nat × D)} {os os' : List (Nat × Ob)} {nx nx' : Nat} : dxW P ⟨d, op, ty, pos, af, gd⟩ u i acc ⟨tm, os, nx⟩ Tt ⟨tm', os', nx'⟩ k W =
    (low nx Tt = true ∧ valsB Tt (pickL (opT ⟨d, op, ty, pos, af, gd⟩) tm) = true ∧ obsB Tt (pickL Tt os) = true ∧ nx ≤ nx' ∧ rosB Tt nx nx' os' = true ∧ rvP Tt nx nx' tm' d ∧ sameO W os' os Tt ∧
    accB u ⟨i, Tt, W, nx, nx'⟩ acc ∧ k (push ⟨i, Tt, W, nx, nx'⟩ acc) (St.mrg ⟨tm, os, nx⟩ Tt d ⟨tm', os', nx'⟩)) := rfl
end
end Dm
/-! A function's own scope of labels, out of which no 'goto' leads. -/
namespace Dm
open Go
attribute [go_sem] Bool.false_and Bool.and_false Bool.true_and Bool.and_true Bool.or_false Bool.false_or Bool.true_or Bool.or_true Bool.not_true Bool.not_false
section
variable {P : Program} {T : Tab} {n N : Nat} {lv : Nat → Option (List Nat)} {s s' : St} {Q : Exit → St → Prop}
def ng (Q : Exit → St → Prop) : Exit → St → Prop
  | .goto _, _ => False
  | e, s => Q e s
theorem SWp.scope {c : Code} (h : SWp P n N c (ng Q) s) : SWp P n N (.scope c) Q s := by
  intro δ g a w hr hn
  refine wp_scope_straight (wp_mono (h δ g a w hr hn) fun e a' w' ⟨g', s', h1, h2⟩ => ?_)
  cases e with
  | goto l => exact h1.elim
  | _ => exact ⟨g', s', h1, h2⟩
/-- nil is a slice without elements. -/
theorem SWp.nilsl {c : Code} {Q : Exit → St → Prop} (t : Nat) (ht : lk t s.tm = some .nil) (h : SWp P n N c Q (s.rep (some t) (.c (.sl [])))) : SWp P n N c Q s := by
  intro δ g a w hr hn
  obtain ⟨v, hv, hvr⟩ := hr.tm t _ ht
  have hr2 : Rel δ g (s.rep (some t) (.c (.sl []))) a w := by
    refine ⟨fun u d hu => ?_, hr.defers, hr.o.tm⟩
    simp only [St.rep, lk_upd] at hu
    split at hu
    · rename_i hc
      cases hu
      rw [hc.1]
      refine ⟨_, hv, ?_⟩
      cases hvr
      exact .c _ _ (.slnil _ _ (by decide))
    · exact hr.tm u d hu
  refine wp_mono (h δ g a w hr2 hn) fun e a' w' ⟨g2, s2, h1, h2, h3, h4⟩ => ⟨g2, s2, h1, h2, h3, ?_⟩
  exact ⟨h4.ρ, h4.κ, h4.I, h4.size, h4.same, h4.own, h4.imm, h4.env⟩
@[congr] theorem ng_congr {e : Exit} (h' : s = s') : ng Q e s = ng Q e s' := by rw [h']
@[go_sem] theorem ng_n : ng Q .normal s = Q .normal s := rfl
@[go_sem] theorem ng_r : ng Q .ret s = Q .ret s := rfl
@[go_sem] theorem ng_e {i : Nat} : ng Q (.exit i) s = Q (.exit i) s := rfl
@[go_sem] theorem okD_ite {p : Prop} [Decidable p] {v : D} {d : Option Nat} {K : St → Prop} : okD (if p then some v else none) d s K = (p ∧ K (s.put d v)) := by
  by_cases h : p <;> simp [h, okD]
@[go_sem] theorem okS_ite {p : Prop} [Decidable p] {K : St → Prop} : okS (if p then some s else none) K = (p ∧ K s) := by
  by_cases h : p <;> simp [h, okS]
end
end Dm
/-! A slice of one's own, its room told; and the whole one again. -/
namespace Dm
open Go
section
variable {P : Program} {g g' : G} {w w' : World}

def opnD (id n c sz : Nat) : D → D
  | .vec i m => if i = id ∧ m = n then .view id c sz 0 n else .vec i m
  | d => d
def sealQ (Q : D → List (Nat × Ob) → Nat → Prop) (d : D) (os : List (Nat × Ob)) (nx : Nat) : Prop := match d with
  | .view id c sz lo n => match lk id os with
    | some (.vec hd sz' e els) => lo = 0 ∧ c = els.length ∧ sz = sz' ∧ Q (.vec nx n) ((nx, .vec hd sz' e (els.take n)) :: rmv os [id]) (nx + 1)
    | _ => False
  | d => Q d os nx
attribute [go_sem] opnD sealQ false_and and_false Int.zero_add Int.natCast_nonneg Nat.zero_add

theorem opn_rel {id sz : Nat} {hd : Bool} {e : TypeId} {els : List (List C)} {os : List (Nat × Ob)} {nx : Nat} (hr : RelO g ⟨[], os, nx⟩ w) (ho : lk id os = some (.vec hd sz e els)) :
    ∃ c g', els.length ≤ c ∧ c ≤ 9223372036854775807 ∧ RelO g' ⟨[], upd id (.vec hd sz e (fit c sz els)) os, nx⟩ w ∧ Step g ⟨[], os, nx⟩ w g' ⟨[], upd id (.vec hd sz e (fit c sz els)) os, nx⟩ w ∧
      ∀ v d, VRel g w v d → VRel g' w v (opnD id els.length c sz d) := by
  obtain ⟨a0, cap, h1, h2, h3, h4, h5⟩ := hr.ok id _ ho
  have hle : g.Le (g.vec id (a0, cap, cap)) := ⟨fun id b hb => hb, fun j x l c hj => by
    by_cases h : j = id
    · subst h
      rw [h1] at hj; cases hj
      exact ⟨a0, cap, cap, by simp [G.vec], h2, fun _ => ⟨rfl, rfl⟩⟩
    · exact ⟨x, l, c, by simp [G.vec, h, hj], Nat.le_refl _, fun _ => ⟨rfl, rfl⟩⟩, fun b hb => hb⟩
  obtain ⟨h6, h7⟩ := hr.replace ho (.vec hd sz e (fit cap sz els)) [] hle (fun b hb => hb) (fun i hi => rfl) (fun i hi => by simp [G.vec, hi]) (w' := w) (Nat.le_refl _) (fun _ _ _ => rfl)
    (by
      refine ⟨a0, cap, by rw [fit_length]; simp [G.vec], by rw [fit_length]; exact Nat.le_refl _, h3, fit_wide h4, ?_⟩
      rcases h5 with h5 | ⟨b, off, cells, vs, rfl, h8, h9, h10, h11⟩
      · exact .inl h5
      · obtain ⟨vs2, h12⟩ := ok_fit (I := g.I) (w := w) (c := cap) (els := els) h9 h10.2 (fun i j x y _ hx hy => ⟨_, (h11 i j x y hx hy).1, (h11 i j x y hx hy).2⟩)
        exact .inr ⟨b, off, cells, vs2, rfl, h8, h9, h10, h12⟩)
    (fun b hb => .inl (by
      simp only [G.blk, G.vec, if_true] at hb
      simp only [G.blk, h1]
      cases a0 <;> exact hb))
  refine ⟨cap, _, h2, h3, h6, h7, fun v d hv => ?_⟩
  have hm := hv.mono (fun _ _ => rfl) hle
  unfold opnD
  split
  · rename_i i m
    split
    · rename_i hc
      obtain ⟨rfl, rfl⟩ := hc
      cases hv with
      | vec a' cap' _ _ a1 len cap1 hk hn hm' ha hvv =>
        rw [h1] at hk; cases hk
        obtain ⟨rfl, rfl⟩ := hvv rfl
        refine .view a' cap' i cap' sz 0 els.length a' cap' cap' (by simp [G.vec]) (Nat.le_refl _) (Nat.zero_le _) h2 h3 fun _ => ⟨rfl, rfl, fun h => h, fun b o hb => ⟨fun _ => by rw [Nat.zero_mul]; exact hb, o, hb⟩⟩
    · exact hm
  · exact hm

/-- A function that is called with a slice of one's own may be told its room. -/
theorem ACall.opn {f : FuncId} {ds : List D} {os : List (Nat × Ob)} {nx : Nat} {Q : D → List (Nat × Ob) → Nat → Prop} (id : Nat) {hd : Bool} {sz : Nat} {e : TypeId} {els : List (List C)} (ho : lk id os = some (.vec hd sz e els)) (hl : els.length ≤ 9223372036854775807)
    (h : ∀ c, els.length ≤ c → c ≤ 9223372036854775807 → ACall P f (ds.map (opnD id els.length c sz)) (upd id (.vec hd sz e (fit c sz els)) os) nx Q) : ACall P f ds os nx Q := by
  refine ⟨(h _ (Nat.le_refl _) hl).1, fun g w vs hr hsz hv => ?_⟩
  obtain ⟨c, g', h1, h2, h3, h4, h5⟩ := opn_rel hr ho
  refine ((h c h1 h2).2 g' w vs h3 (by rw [List.length_map]; exact hsz) (fun i v d hvv hd => ?_)).mono fun e w' ⟨v, d, g2, os', nx', he, hq, hro, hvr, hst⟩ => ⟨v, d, g2, os', nx', he, hq, hro, hvr, h4.trans hst⟩
  rw [List.getElem?_map, Option.map_eq_some_iff] at hd
  obtain ⟨d0, hd0, rfl⟩ := hd
  exact h5 v d0 (hv i v d0 hvv hd0)

theorem seal_rel {id c sz n : Nat} {hd : Bool} {e : TypeId} {els : List (List C)} {os : List (Nat × Ob)} {nx : Nat} (ho : RelO g ⟨[], os, nx⟩ w) (hlk : lk id os = some (.vec hd sz e els)) (hc : c = els.length) {v : Value} (hv : VRel g w v (.view id c sz 0 n)) :
    ∃ g', RelO g' ⟨[], (nx, .vec hd sz e (els.take n)) :: rmv os [id], nx + 1⟩ w ∧ VRel g' w v (.vec nx n) ∧ Step g ⟨[], os, nx⟩ w g' ⟨[], (nx, .vec hd sz e (els.take n)) :: rmv os [id], nx + 1⟩ w := by
  obtain ⟨a1, cap1, h1, h2, h3, h4, h5⟩ := ho.ok id _ hlk
  cases hv with
  | view a' cap' _ _ _ _ _ a0 len cap hk hle hl hh hm hvv =>
  rw [hk] at h1; cases h1
  obtain ⟨rfl, rfl, h6, h7⟩ := hvv hc
  subst hc
  have haa : a' = a1 := by
    rcases h5 with ⟨rfl, _⟩ | ⟨b, off, _, _, rfl, _⟩
    · exact h6 rfl
    · have := (h7 b off rfl).1 (.inr rfl)
      rw [this, Nat.zero_mul, Nat.add_zero]
  subst haa
  have hfr := ho.fresh nx (Nat.le_refl _)
  have hdl : (els.take n).length = n := by rw [List.length_take]; omega
  have hne : ∀ i o, lk i os = some o → i ≠ nx := fun i o ho' hi => by
    subst hi
    have := ho.ok _ o ho'
    cases o with
    | box cs => obtain ⟨b, _, _, h, _⟩ := this; rw [hfr.1] at h; cases h
    | map _ _ => obtain ⟨b, _, h, _⟩ := this; rw [hfr.1] at h; cases h
    | it _ _ => obtain ⟨b, h, _⟩ := this; rw [hfr.1] at h; cases h
    | vec _ _ _ _ => obtain ⟨b, _, h, _⟩ := this; rw [hfr.2] at h; cases h
  have hidne := hne id _ hlk
  have hκ : ∀ i, i ≠ nx → (g.vec nx (a', n, els.length)).κ i = g.κ i := fun i hi => if_neg hi
  have hκ0 : (g.vec nx (a', n, els.length)).κ nx = some (a', n, els.length) := if_pos rfl
  have hgle : g.Le (g.vec nx (a', n, els.length)) := ⟨fun _ _ h => h, fun i x y z h => ⟨x, y, z, by
    have : i ≠ nx := fun hi => by rw [hi, hfr.2] at h; cases h
    rw [hκ i this]; exact h, Nat.le_refl _, fun _ => ⟨rfl, rfl⟩⟩, fun _ h => h⟩
  have hin : ∀ i o, lk i ((nx, Ob.vec hd sz e (els.take n)) :: rmv os [id]) = some o → (i = nx ∧ o = .vec hd sz e (els.take n)) ∨ (i ≠ nx ∧ i ≠ id ∧ lk i os = some o) := fun i o h => by
    simp only [lk_cons, lk_rmv] at h
    split at h
    · rename_i hi; cases h; exact .inl ⟨hi, rfl⟩
    · rename_i hi
      split at h
      · cases h
      · rename_i hi2; exact .inr ⟨hi, by simpa using hi2, h⟩
  have hblk : ∀ i o, i ≠ nx → (g.vec nx (a', n, els.length)).blk i o = g.blk i o := fun i o hi => by
    cases o with
    | box cs => rfl
    | map _ _ => rfl
    | it _ _ => rfl
    | vec _ _ _ _ => simp only [G.blk, hκ i hi]
  have hblk0 : ∀ b, (g.vec nx (a', n, els.length)).blk nx (.vec hd sz e (els.take n)) = some b → g.blk id (.vec hd sz e els) = some b := fun b hb => by
    simp only [G.blk, hκ0] at hb
    simp only [G.blk, hk]
    cases a' <;> exact hb
  have hown : ∀ b, Own (g.vec nx (a', n, els.length)) ⟨[], (nx, .vec hd sz e (els.take n)) :: rmv os [id], nx + 1⟩ b → Own g ⟨[], os, nx⟩ b := fun b ⟨i, o, h6, h7⟩ => by
    rcases hin i o h6 with ⟨rfl, rfl⟩ | ⟨h8, _, h9⟩
    · exact ⟨id, _, hlk, hblk0 b h7⟩
    · rw [hblk i o h8] at h7; exact ⟨i, o, h9, h7⟩
  have hst : Step g ⟨[], os, nx⟩ w (g.vec nx (a', n, els.length)) ⟨[], (nx, .vec hd sz e (els.take n)) :: rmv os [id], nx + 1⟩ w :=
    ⟨hgle, Nat.le_refl _, fun _ _ _ => rfl, fun b _ hno h => hno (hown b h), fun _ _ _ h => h, .refl w⟩
  refine ⟨g.vec nx (a', n, els.length), ⟨fun i o hi => ?_, fun i o i' o' b h6 h7 h8 h9 => ?_, fun i hi => ?_, fun b hb => ⟨(ho.imm b hb).1, fun h => (ho.imm b hb).2 (hown b h)⟩, ho.cel⟩, ?_, hst⟩
  · rcases hin i o hi with ⟨rfl, rfl⟩ | ⟨h8, _, h9⟩
    · refine ⟨_, _, hκ0.trans (by rw [hdl]), by rw [hdl]; omega, by omega, fun x hx => h4 x (List.mem_of_mem_take hx), ?_⟩
      rcases h5 with ⟨rfl, hc⟩ | ⟨b, off, cells, vs, rfl, h10, h11, h12, h13⟩
      · exact .inl ⟨rfl, hc⟩
      · refine .inr ⟨b, off, cells, vs, rfl, h10, h11, h12, fun i j x y hx hy => ?_⟩
        rw [List.getElem?_take] at hx
        split at hx
        · exact h13 i j x y hx hy
        · cases hx
    · exact (ho.ok i o h9).mono (fun _ _ => rfl) hgle (fun _ _ => rfl) (hκ i h8)
  · rcases hin i o h6 with ⟨rfl, rfl⟩ | ⟨h10, h11, h12⟩ <;> rcases hin i' o' h7 with ⟨rfl, rfl⟩ | ⟨h13, h14, h15⟩
    · rfl
    · rw [hblk i' o' h13] at h9
      exact absurd (ho.apart id _ i' o' b hlk h15 (hblk0 b h8) h9) (fun h => h14 h.symm)
    · rw [hblk i o h10] at h8
      exact absurd (ho.apart i o id _ b h12 hlk h8 (hblk0 b h9)) h11
    · rw [hblk i o h10] at h8
      rw [hblk i' o' h13] at h9
      exact ho.apart i o i' o' b h12 h15 h8 h9
  · have hi' : nx + 1 ≤ i := hi
    rw [hκ i (by omega)]
    exact ho.fresh i (Nat.le_of_succ_le hi')
  · refine .vec a' _ nx n a' n els.length hκ0 (Nat.le_refl _) (by omega) ?_ fun _ => ⟨rfl, rfl⟩
    rcases h5 with ⟨_, hc⟩ | ⟨b, off, _, _, rfl, _⟩
    · exact .inl (by omega)
    · exact .inr ⟨b, off, rfl⟩

/-- A result that is a view becomes a slice of one's own again. -/
theorem ACall.sld {f : FuncId} {ds : List D} {os : List (Nat × Ob)} {nx : Nat} {Q : D → List (Nat × Ob) → Nat → Prop} (h : ACall P f ds os nx (sealQ Q)) : ACall P f ds os nx Q := by
  refine ⟨h.1, fun g w vs hr hsz hv => (h.2 g w vs hr hsz hv).mono fun e w' ⟨v, d, g2, os', nx', he, hq, hro, hvr, hst⟩ => ?_⟩
  unfold sealQ at hq
  split at hq
  · split at hq
    · rename_i hlk
      obtain ⟨rfl, h1, rfl, h2⟩ := hq
      obtain ⟨g3, h3, h4, h5⟩ := seal_rel hro hlk h1 hvr
      exact ⟨v, _, g3, _, _, he, h2, h3, h4, hst.trans h5⟩
    · cases hq
  · exact ⟨v, d, g2, os', nx', he, hq, hro, hvr, hst⟩
end
end Dm
/-! What 'slices.Insert' makes of one element more. -/
namespace Dm
open Go
theorem fit_take {c sz n : Nat} {E : List (List C)} (h : n ≤ E.length) (h' : n ≤ c) : (fit c sz E).take n = E.take n := by
  rw [fit, List.take_take, Nat.min_eq_left h', List.take_append_of_le_length h]
theorem lay_length {E X : List (List C)} {i : Nat} (h : i + X.length ≤ E.length) : (lay E i X).length = E.length := setAt_length _ _ _ h
theorem lay_get {E X : List (List C)} {i p : Nat} (h : i + X.length ≤ E.length) : (lay E i X)[p]? = if i ≤ p ∧ p < i + X.length then X[p - i]? else E[p]? := setAt_get h
theorem ins_get {E : List (List C)} {x : List C} {i k : Nat} (h : i ≤ E.length) : (E.take i ++ x :: E.drop i)[k]? = if k < i then E[k]? else if k = i then some x else E[k - 1]? := by
  have h1 : (E.take i).length = i := by rw [List.length_take]; omega
  by_cases hk : k < i
  · rw [if_pos hk, List.getElem?_append_left (by omega), List.getElem?_take_of_lt hk]
  · rw [if_neg hk, List.getElem?_append_right (by omega), h1]
    by_cases hk2 : k = i
    · rw [if_pos hk2, hk2, Nat.sub_self]; rfl
    · rw [if_neg hk2, show k - i = (k - i - 1) + 1 by omega, List.getElem?_cons_succ, List.getElem?_drop]
      congr 1
      omega
theorem ins_lay {sz c i n : Nat} {E A : List (List C)} {x : List C} (hn : n = E.length) (hi : i < n) (h2 : n + 1 ≤ c) (hA : (lay A i [x]).length = c) (hA0 : ∀ k, k < i → A[k]? = E[k]?) (hAl : A.length = c) :
    (fit c sz (lay (fit c sz (lay A i [x])) (i + 1) (E.drop i))).take (n + 1) = E.take i ++ x :: E.drop i := by
  subst hn
  have hd : (E.drop i).length = E.length - i := List.length_drop
  rw [fit_eq hA, fit_eq (by rw [lay_length (by omega)]; exact hA)]
  apply List.ext_getElem?
  intro k
  rw [ins_get (by omega), List.getElem?_take]
  by_cases hk : k < E.length + 1
  · rw [if_pos hk, lay_get (by omega), lay_get (by simp only [List.length_singleton]; omega), hd]
    simp only [List.length_singleton]
    by_cases h3 : k < i
    · rw [if_neg (by omega), if_neg (by omega), if_pos h3, hA0 k h3]
    · rw [if_neg h3]
      by_cases h4 : k = i
      · rw [if_neg (by omega), if_pos (by omega), if_pos h4, h4, Nat.sub_self]; rfl
      · rw [if_pos (by omega), if_neg h4, List.getElem?_drop]
        congr 1
        omega
  · rw [if_neg hk, if_neg (by omega), if_neg (by omega), List.getElem?_eq_none (by omega)]
/-- Into a new row. -/
theorem ins_new {sz c c1 i : Nat} {E : List (List C)} {x z : List C} (hi : i < E.length) (hc : E.length ≤ c) (h2 : E.length + 1 ≤ c1) :
    (fit c1 sz (lay (fit c1 sz (lay (fit c1 sz ((fit c sz E).take i ++ List.replicate (E.length + 1 - i) z)) i ([x].take (E.length + 1 - i)))) (i + 1) ((((fit c sz E).take E.length).drop i).take (E.length + 1 - (i + 1))))).take (E.length + 1) = E.take i ++ x :: E.drop i := by
  rw [fit_take (c := c) (sz := sz) (E := E) (n := E.length) (Nat.le_refl _) hc, List.take_length, List.take_of_length_le (l := E.drop i) (by rw [List.length_drop]; omega), List.take_of_length_le (l := [x]) (by simp only [List.length_singleton]; omega), fit_take (c := c) (sz := sz) (E := E) (n := i) (by omega) (by omega)]
  refine ins_lay rfl hi h2 ?_ (fun k hk => ?_) (fit_length _ _ _)
  · rw [lay_length (by rw [fit_length]; simp only [List.length_singleton]; omega), fit_length]
  · rw [fit_get, if_pos (by omega), if_pos (by simp only [List.length_append, List.length_take, List.length_replicate]; omega), List.getElem?_append_left (by rw [List.length_take]; omega), List.getElem?_take_of_lt hk]
/-- In place. -/
theorem ins_old {sz c i : Nat} {E : List (List C)} {x : List C} (hi : i < E.length) (hc : E.length + 1 ≤ c) :
    (fit c sz (lay (fit c sz (lay (fit c sz E) (i + 1) ((((fit c sz E).take (E.length + 1)).drop i).take (E.length + 1 - (i + 1))))) i ([x].take (E.length + 1 - i)))).take (E.length + 1) = E.take i ++ x :: E.drop i := by
  have e1 : (((fit c sz E).take (E.length + 1)).drop i).take (E.length + 1 - (i + 1)) = E.drop i := by
    apply List.ext_getElem?
    intro k
    rw [List.getElem?_take, List.getElem?_drop, List.getElem?_drop, List.getElem?_take, fit_get]
    by_cases h : k < E.length + 1 - (i + 1)
    · rw [if_pos h, if_pos (by omega), if_pos (by omega), if_pos (by omega)]
    · rw [if_neg h, List.getElem?_eq_none (by omega)]
  have hd : (E.drop i).length = E.length - i := List.length_drop
  have hl : (lay (fit c sz E) (i + 1) (E.drop i)).length = c := by rw [lay_length (by rw [fit_length, hd]; omega), fit_length]
  rw [e1, List.take_of_length_le (l := [x]) (by simp only [List.length_singleton]; omega), fit_eq hl, fit_eq (by rw [lay_length (by rw [hl]; simp only [List.length_singleton]; omega), hl])]
  apply List.ext_getElem?
  intro k
  rw [ins_get (by omega), List.getElem?_take]
  by_cases hk : k < E.length + 1
  · rw [if_pos hk, lay_get (by rw [hl]; simp only [List.length_singleton]; omega), lay_get (by rw [fit_length, hd]; omega), hd]
    simp only [List.length_singleton]
    by_cases h3 : k < i
    · rw [if_neg (by omega), if_neg (by omega), if_pos h3, fit_get, if_pos (by omega), if_pos (by omega)]
    · rw [if_neg h3]
      by_cases h4 : k = i
      · rw [if_pos (by omega), if_pos h4, h4, Nat.sub_self]; rfl
      · rw [if_neg (by omega), if_pos (by omega), if_neg h4, List.getElem?_drop]
        congr 1
        omega
  · rw [if_neg hk, if_neg (by omega), if_neg (by omega), List.getElem?_eq_none (by omega)]
end Dm
/-! How floats lie in order: a key for each. -/
namespace Dm
open Go Ieee
/-- The key of what is no number, of what is below all, and above all. -/
def kInf : Int := 2 ^ 2200
def kNan : Int := -2 ^ 2300
theorem kInf_pos : 0 < kInf := by unfold kInf; exact Int.pow_pos (by decide)
theorem kNan_lt : kNan < -kInf := by
  unfold kNan kInf
  have : (2 : Int) ^ 2200 < 2 ^ 2300 := Int.pow_lt_pow_of_lt (by decide) (by decide)
  omega
theorem kNan_0 : ¬ (0 : Int) = kNan := by
  have := kNan_lt
  have := kInf_pos
  omega
def dkey : Datum → Int
  | .number s m i => signed s m (i + 1074).toNat
  | .infinity s => if s = true then -kInf else kInf
  | .nan _ _ => kNan
/-- A datum that a double may be. -/
def Dbl : Datum → Prop
  | .number _ m i => -1074 ≤ i ∧ i ≤ 1000 ∧ m < 2 ^ 53
  | _ => True
theorem read_dbl (n : Nat) : Dbl (FloatKind.f64.format.read n) := by
  unfold Format.read
  have e1 : FloatKind.f64.format.signWeight = 2 ^ 63 := rfl
  have e2 : FloatKind.f64.format.binade = 4503599627370496 := rfl
  have e3 : FloatKind.f64.format.infRung = 9218868437227405312 := rfl
  have e4 : FloatKind.f64.format.leastPlace = -1074 := rfl
  simp only [e1, e2, e3, e4]
  split
  · exact ⟨by omega, by omega, by omega⟩
  · split
    · exact ⟨by omega, by omega, by omega⟩
    · split <;> trivial
theorem signed_eq (s : Bool) (m k : Nat) : signed s m k = (if s = true then -(m : Int) else m) * 2 ^ k := by
  unfold signed
  rw [Nat.shiftLeft_eq]
  cases s <;> simp [Int.neg_mul]
theorem pow2_le {a b : Nat} (h : a ≤ b) : (2 : Int) ^ a ≤ 2 ^ b := by
  have := Nat.pow_le_pow_right (n := 2) (by decide) h
  have h5 : ((2 ^ a : Nat) : Int) ≤ ((2 ^ b : Nat) : Int) := Int.ofNat_le.2 this
  rwa [Int.natCast_pow, Int.natCast_pow] at h5
theorem signed_lt {s : Bool} {m k : Nat} (hm : m < 2 ^ 53) (hk : k ≤ 2100) : -kInf < signed s m k ∧ signed s m k < kInf := by
  have h1 : (m : Int) * 2 ^ k < kInf := by
    have h3 : ((m : Int)) < 2 ^ 53 := by
      have : ((m : Nat) : Int) < ((2 ^ 53 : Nat) : Int) := Int.ofNat_lt.2 hm
      simpa using this
    have h4 : (2 : Int) ^ k ≤ 2 ^ 2100 := pow2_le hk
    have h0 : (0 : Int) < 2 ^ k := Int.pow_pos (by decide)
    have q1 := Int.mul_lt_mul_of_pos_right h3 h0
    have q2 : (2 : Int) ^ 53 * 2 ^ k ≤ 2 ^ 53 * 2 ^ 2100 := Int.mul_le_mul_of_nonneg_left h4 (by decide)
    have q3 : (2 : Int) ^ 53 * 2 ^ 2100 = 2 ^ (53 + 2100) := (Int.pow_add ..).symm
    rw [q3] at q2
    exact Int.lt_of_lt_of_le q1 (Int.le_trans q2 (Int.le_of_lt (Int.pow_lt_pow_of_lt (by decide) (by decide))))
  have h0 : (0 : Int) ≤ (m : Int) * 2 ^ k := Int.mul_nonneg (Int.natCast_nonneg _) (Int.le_of_lt (Int.pow_pos (by decide)))
  have hp := kInf_pos
  rw [signed_eq]
  cases s
  · simp only [Bool.false_eq_true, if_false]; omega
  · simp only [if_true, Int.neg_mul]; omega
theorem dkey_lt {d : Datum} (h : Dbl d) : (∀ s m i, d = .number s m i → -kInf < dkey d ∧ dkey d < kInf) := by
  rintro s m i rfl
  exact signed_lt h.2.2 (by have := h.1; have := h.2.1; omega)
def ordI (a b : Int) : Ordering := if a < b then .lt else if b < a then .gt else .eq
theorem compare_int (a b : Int) : compare a b = ordI a b := by
  unfold ordI
  show compareOfLessAndEq a b = _
  unfold compareOfLessAndEq
  split
  · rfl
  · split
    · rw [if_neg (by omega)]
    · rw [if_pos (by omega)]
theorem ordI_mul {a b c : Int} (hc : 0 < c) : ordI (a * c) (b * c) = ordI a b := by
  unfold ordI
  simp only [Int.mul_lt_mul_right hc]
theorem order_key {d e : Datum} (hd : Dbl d) (he : Dbl e) (h1 : d.isNaN = false) (h2 : e.isNaN = false) : d.order e = some (ordI (dkey d) (dkey e)) := by
  have hp := kInf_pos
  cases d with
  | nan s t => cases h1
  | infinity s => cases e with
    | nan s t => cases h2
    | infinity t =>
      cases s <;> cases t
      · simp [Datum.order, dkey, ordI]
      · simp only [Datum.order, dkey, ordI, Bool.false_eq_true, if_false, if_true]; rw [if_neg (by omega), if_pos (by omega)]; rfl
      · simp only [Datum.order, dkey, ordI, Bool.false_eq_true, if_false, if_true]; rw [if_pos (by omega)]; rfl
      · simp [Datum.order, dkey, ordI]
    | number t n j =>
      have := dkey_lt he t n j rfl
      cases s
      · simp only [Datum.order, Bool.false_eq_true, if_false, Option.some.injEq]
        unfold ordI
        rw [if_neg (by simp only [dkey, Bool.false_eq_true, if_false] at *; omega), if_pos (by simp only [dkey, Bool.false_eq_true, if_false] at *; omega)]
      · simp only [Datum.order, if_true, Option.some.injEq]
        unfold ordI
        rw [if_pos (by simp only [dkey, if_true] at *; omega)]
  | number s m i => cases e with
    | nan s t => cases h2
    | infinity t =>
      have := dkey_lt hd s m i rfl
      cases t
      · simp only [Datum.order, Bool.false_eq_true, if_false, Option.some.injEq]
        unfold ordI
        rw [if_pos (by simp only [dkey, Bool.false_eq_true, if_false] at *; omega)]
      · simp only [Datum.order, if_true, Option.some.injEq]
        unfold ordI
        rw [if_neg (by simp only [dkey, if_true] at *; omega), if_pos (by simp only [dkey, if_true] at *; omega)]
    | number t n j =>
      simp only [Datum.order, dkey, Option.some.injEq, compare_int]
      have hb : -1074 ≤ min i j := by have := hd.1; have := he.1; omega
      have e1 : (i + 1074).toNat = (i - min i j).toNat + (min i j + 1074).toNat := by omega
      have e2 : (j + 1074).toNat = (j - min i j).toNat + (min i j + 1074).toNat := by omega
      rw [signed_eq, signed_eq, signed_eq, signed_eq, e1, e2, Int.pow_add, Int.pow_add, ← Int.mul_assoc, ← Int.mul_assoc, ordI_mul (Int.pow_pos (by decide))]
/-- The key of a float. -/
def fkey : Option Nat → Int
  | some n => dkey (FloatKind.f64.format.read n)
  | none => kNan
theorem dkey_nan {d : Datum} (h : Dbl d) : dkey d = kNan ↔ d.isNaN = true := by
  have := kNan_lt
  have hp := kInf_pos
  cases d with
  | nan s t => exact ⟨fun _ => rfl, fun _ => rfl⟩
  | infinity s =>
    refine ⟨fun h => ?_, fun h => by cases h⟩
    cases s <;> simp only [dkey, Bool.false_eq_true, if_false, if_true] at h <;> omega
  | number s m i =>
    have := dkey_lt h s m i rfl
    exact ⟨fun h => by omega, fun h => by cases h⟩
theorem dkey_ge {d : Datum} (h : Dbl d) : kNan ≤ dkey d := by
  have := kNan_lt
  have hp := kInf_pos
  cases d with
  | nan s t => exact Int.le_refl _
  | infinity s => cases s <;> simp only [dkey, Bool.false_eq_true, if_false, if_true] <;> omega
  | number s m i => have := dkey_lt h s m i rfl; omega
theorem fkey_ge (x : Option Nat) : kNan ≤ fkey x := by
  cases x with
  | none => exact Int.le_refl _
  | some n => exact dkey_ge (read_dbl n)
/-- What is no number. -/
def fnan (x : Option Nat) : Bool := ford x x != some .eq
theorem order_nan {d e : Datum} (h : d.isNaN = true ∨ e.isNaN = true) : d.order e = none := by
  rcases h with h | h
  · obtain ⟨s, t, rfl⟩ := isNaN_iff h; rfl
  · obtain ⟨s, t, rfl⟩ := isNaN_iff h; cases d <;> rfl
theorem ford_key (x y : Option Nat) : ford x y = if fkey x = kNan ∨ fkey y = kNan then none else some (ordI (fkey x) (fkey y)) := by
  cases x with
  | none => simp [ford, fkey]
  | some a => cases y with
    | none => simp [ford, fkey]
    | some b =>
      simp only [ford, fkey, Format.order, dkey_nan (read_dbl a), dkey_nan (read_dbl b)]
      split
      · rename_i h; exact order_nan h
      · rename_i h
        simp only [not_or, Bool.not_eq_true] at h
        exact order_key (read_dbl a) (read_dbl b) h.1 h.2
theorem fnan_key (x : Option Nat) : fnan x = decide (fkey x = kNan) := by
  unfold fnan
  rw [ford_key]
  by_cases h : fkey x = kNan
  · simp [h]
  · simp [h, ordI]
theorem ford_lt (x y : Option Nat) : (ford x y == some .lt) = (decide (fkey x ≠ kNan) && decide (fkey x < fkey y)) := by
  rw [ford_key]
  have h1 := fkey_ge x
  have h2 := fkey_ge y
  by_cases hx : fkey x = kNan
  · simp [hx]
  · by_cases hy : fkey y = kNan
    · have : ¬ fkey x < kNan := by omega
      simp [hx, hy, this]
    · simp only [hx, hy, or_self, if_false, ne_eq, not_false_eq_true, decide_true, Bool.true_and, ordI]
      by_cases h : fkey x < fkey y
      · simp [h]
      · by_cases h' : fkey y < fkey x <;> simp [h, h']
theorem ford_gt (x y : Option Nat) : (ford x y == some .gt) = (decide (fkey y ≠ kNan) && decide (fkey y < fkey x)) := by
  rw [ford_key]
  have h1 := fkey_ge x
  have h2 := fkey_ge y
  by_cases hx : fkey x = kNan
  · have : ¬ fkey y < kNan := by omega
    simp [hx, this]
  · by_cases hy : fkey y = kNan
    · simp [hy]
    · simp only [hx, hy, or_self, if_false, ne_eq, not_false_eq_true, decide_true, Bool.true_and, ordI]
      by_cases h : fkey x < fkey y
      · have : ¬ fkey y < fkey x := by omega
        simp [h, this]
      · by_cases h' : fkey y < fkey x <;> simp [h, h']
theorem ford_eqk (x y : Option Nat) : (ford x y == some .eq) = (decide (fkey y ≠ kNan) && decide (fkey x = fkey y)) := by
  rw [ford_key]
  by_cases hx : fkey x = kNan
  · by_cases hy : fkey y = kNan
    · simp [hy]
    · have : ¬ kNan = fkey y := fun e => hy e.symm
      simp [hx, this]
  · by_cases hy : fkey y = kNan
    · simp [hy]
    · simp only [hx, hy, or_self, if_false, ne_eq, not_false_eq_true, decide_true, Bool.true_and, ordI]
      by_cases h : fkey x < fkey y
      · have : ¬ fkey x = fkey y := by omega
        simp [h, this]
      · by_cases h' : fkey y < fkey x
        · have : ¬ fkey x = fkey y := by omega
          simp [h, h', this]
        · have : fkey x = fkey y := by omega
          simp [h, h', this]
/-! ### Signs -/
theorem read_neg (n : Nat) : FloatKind.f64.format.read (Op.negFloat .f64 n) = (FloatKind.f64.format.read n).opposite := by
  have e1 : FloatKind.f64.format.signWeight = 2 ^ 63 := rfl
  have hm : (Op.negFloat .f64 n) % 2 ^ 63 = n % 2 ^ 63 := by
    show (n ^^^ 2 ^ 63) % 2 ^ 63 = n % 2 ^ 63
    rw [Nat.xor_mod_two_pow]; simp
  have hd : ((Op.negFloat .f64 n) / 2 ^ 63 % 2 == 1) = !(n / 2 ^ 63 % 2 == 1) := by
    show ((n ^^^ 2 ^ 63) / 2 ^ 63 % 2 == 1) = _
    have e : (n ^^^ 2 ^ 63) / 2 ^ 63 = (n / 2 ^ 63) ^^^ 1 := by rw [Nat.xor_div_two_pow]
    rw [e]
    have e2 : ((n / 2 ^ 63) ^^^ 1) % 2 = (n / 2 ^ 63 % 2) ^^^ 1 := by
      have := Nat.xor_mod_two_pow (a := n / 2 ^ 63) (b := 1) (n := 1)
      simpa using this
    rw [e2]
    have : n / 2 ^ 63 % 2 = 0 ∨ n / 2 ^ 63 % 2 = 1 := by omega
    rcases this with h | h <;> rw [h] <;> rfl
  unfold Format.read
  simp only [e1, hm, hd]
  split
  · rfl
  · split
    · rfl
    · split <;> rfl
theorem isNaN_opp (d : Datum) : d.opposite.isNaN = d.isNaN := by cases d <;> rfl
theorem dkey_opp {d : Datum} (h : d.isNaN = false) : dkey d.opposite = -dkey d := by
  cases d with
  | nan s t => cases h
  | infinity s => cases s <;> simp [Datum.opposite, dkey]
  | number s m i =>
    simp only [Datum.opposite, dkey, signed_eq]
    cases s <;> simp [Int.neg_mul]
theorem flo_key (n : Nat) : fkey (flo .f64 n) = dkey (FloatKind.f64.format.read n) := by
  by_cases h : (FloatKind.f64.format.read n).isNaN = true
  · rw [flo_nan h, fkey, (dkey_nan (read_dbl n)).2 h]
  · rw [flo_num h]; rfl
theorem fneg_key (x : Option Nat) : fkey (fneg x) = if fkey x = kNan then kNan else -fkey x := by
  cases x with
  | none => simp [fneg, fkey]
  | some n =>
    show fkey (flo .f64 (Op.negFloat .f64 n)) = _
    rw [flo_key, read_neg]
    have e : fkey (some n) = dkey (FloatKind.f64.format.read n) := rfl
    rw [e]
    by_cases h : (FloatKind.f64.format.read n).isNaN = true
    · rw [if_pos ((dkey_nan (read_dbl n)).2 h)]
      obtain ⟨s, t, hs⟩ := isNaN_iff h
      rw [hs]; rfl
    · rw [if_neg (fun h' => h ((dkey_nan (read_dbl n)).1 h')), dkey_opp (by simpa using h)]
theorem read_word (s : Bool) {r : Nat} (hr : r < 2 ^ 63) : FloatKind.f64.format.read (FloatKind.f64.format.word (!s) r) = (FloatKind.f64.format.read (FloatKind.f64.format.word s r)).opposite := by
  have e1 : FloatKind.f64.format.signWeight = 2 ^ 63 := rfl
  have hm : ∀ s : Bool, FloatKind.f64.format.word s r % 2 ^ 63 = r := fun s => by
    unfold Format.word
    rw [e1]
    cases s
    · simp only [Bool.false_eq_true, if_false]; omega
    · simp only [if_true]; omega
  have hd : ∀ s : Bool, (FloatKind.f64.format.word s r / 2 ^ 63 % 2 == 1) = s := fun s => by
    unfold Format.word
    rw [e1]
    cases s
    · simp only [Bool.false_eq_true, if_false]
      have : r / 2 ^ 63 = 0 := by omega
      rw [this]; rfl
    · simp only [if_true]
      have : (2 ^ 63 + r) / 2 ^ 63 = 1 := by omega
      rw [this]; rfl
  unfold Format.read
  simp only [e1, hm, hd]
  split
  · rfl
  · split
    · rfl
    · split <;> rfl
theorem write_opp {d : Datum} (h : d.isNaN = false) : FloatKind.f64.format.read (FloatKind.f64.format.write d.opposite) = (FloatKind.f64.format.read (FloatKind.f64.format.write d)).opposite := by
  cases d with
  | nan s t => cases h
  | infinity s => exact read_word s (by decide)
  | number s m i =>
    show FloatKind.f64.format.read (FloatKind.f64.format.nearest (!s) m i) = (FloatKind.f64.format.read (FloatKind.f64.format.nearest s m i)).opposite
    unfold Format.nearest
    split
    · exact read_word s (by decide)
    · have hc : ∀ s s' n k, Toward.even.cut s n k = Toward.even.cut s' n k := fun s s' n k => rfl
      simp only [hc (!s) s]
      exact read_word s (Nat.lt_of_le_of_lt (Nat.min_le_right _ _) (by decide))
theorem isNaN_keep {d e r : Datum} (h : d.product e = some r) : r.isNaN = false ∧ d.isNaN = false ∧ e.isNaN = false := by
  cases d <;> cases e <;> simp only [Datum.product, reduceCtorEq] at h
  · cases h; exact ⟨rfl, rfl, rfl⟩
  · split at h <;> cases h; exact ⟨rfl, rfl, rfl⟩
  · split at h <;> cases h; exact ⟨rfl, rfl, rfl⟩
  · cases h; exact ⟨rfl, rfl, rfl⟩
theorem product_opp (d e : Datum) : d.opposite.product e = (d.product e).map Datum.opposite := by
  cases d <;> cases e <;> simp only [Datum.product, Datum.opposite, Option.map_none, Option.map_some]
  · simp
  · split
    · rfl
    · simp [Datum.opposite]
  · split
    · rfl
    · simp [Datum.opposite]
  · simp
/-- Of the opposite it is the opposite. -/
theorem mul_neg_key (w p : Option Nat) : fkey (far .mul (fneg w) p) = fkey (fneg (far .mul w p)) := by
  have hn : ∀ a b, (FloatKind.f64.format.read a).isNaN = true → FloatKind.f64.format.mul a b = none := fun a b h => by
    obtain ⟨s, t, hs⟩ := isNaN_iff h
    simp only [Format.mul, hs]
    cases FloatKind.f64.format.read b <;> rfl
  cases w with
  | none => simp [fneg, far]
  | some a =>
    cases p with
    | none => cases fneg (some a) <;> simp [far, fneg]
    | some b =>
      show fkey (far .mul (flo .f64 (Op.negFloat .f64 a)) (some b)) = _
      by_cases h : (FloatKind.f64.format.read a).isNaN = true
      · rw [flo_nan (by rw [read_neg, isNaN_opp]; exact h)]
        simp [far, hn a b h, fneg]
      · rw [flo_num (by rw [read_neg, isNaN_opp]; exact h)]
        simp only [far, Format.mul, read_neg, product_opp]
        cases hp : (FloatKind.f64.format.read a).product (FloatKind.f64.format.read b) with
        | none => rfl
        | some r =>
          simp only [Option.map_some, Option.bind_some]
          have h1 := (isNaN_keep hp).1
          rw [fneg_key, flo_key, flo_key]
          have hw : ∀ d : Datum, d.isNaN = false → (FloatKind.f64.format.read (FloatKind.f64.format.write d)).isNaN = false := fun d hd => by
            have key : ∀ (s : Bool) (k : Nat), k ≤ FloatKind.f64.format.infRung → (FloatKind.f64.format.read (FloatKind.f64.format.word s k)).isNaN = false := fun s k hk => by
              have e1 : FloatKind.f64.format.signWeight = 2 ^ 63 := rfl
              have e2 : FloatKind.f64.format.infRung = 9218868437227405312 := rfl
              have e3 : FloatKind.f64.format.binade = 4503599627370496 := rfl
              rw [Bool.eq_false_iff]
              intro hnn
              have := nan_read hnn
              rw [e1, e2] at this
              rw [e2] at hk
              unfold Format.word at this
              rw [e1] at this
              cases s
              · simp only [Bool.false_eq_true, if_false] at this; omega
              · simp only [if_true] at this; omega
            cases d with
            | nan s t => cases hd
            | infinity s => exact key s _ (Nat.le_refl _)
            | number s m i =>
              show (FloatKind.f64.format.read (FloatKind.f64.format.nearest s m i)).isNaN = false
              unfold Format.nearest
              split
              · exact key s 0 (by decide)
              · exact key s _ (Nat.min_le_right _ _)
          rw [write_opp h1, if_neg (fun h' => by rw [dkey_nan (read_dbl _), hw r h1] at h'; cases h'), dkey_opp (hw r h1)]
theorem fneg_fneg_key (x : Option Nat) : fkey (fneg (fneg x)) = fkey x := by
  have := kNan_lt
  have hp := kInf_pos
  rw [fneg_key, fneg_key]
  by_cases h : fkey x = kNan
  · simp [h]
  · rw [if_neg h]
    have hb : -kInf ≤ fkey x ∧ fkey x ≤ kInf := by
      cases x with
      | none => exact absurd rfl h
      | some n =>
        have hd := read_dbl n
        change ¬ dkey (FloatKind.f64.format.read n) = kNan at h
        show -kInf ≤ dkey (FloatKind.f64.format.read n) ∧ dkey (FloatKind.f64.format.read n) ≤ kInf
        cases hr : FloatKind.f64.format.read n with
        | nan s t => rw [hr] at h; exact absurd rfl h
        | infinity s => cases s <;> simp only [dkey, Bool.false_eq_true, if_false, if_true] <;> omega
        | number s m i => rw [hr] at hd; have := dkey_lt hd s m i rfl; omega
    rw [if_neg (by omega)]; omega
/-- Nothing times whatever it may be is a nought, or no number. -/
theorem zero_mul_key (p : Option Nat) : fkey (far .mul (some 0) p) = kNan ∨ fkey (far .mul (some 0) p) = 0 := by
  cases p with
  | none => exact .inl rfl
  | some b =>
    have h0 : FloatKind.f64.format.read 0 = .number false 0 (-1074) := by decide
    simp only [far, Format.mul, h0]
    cases FloatKind.f64.format.read b with
    | nan s t => exact .inl rfl
    | infinity s => exact .inl rfl
    | number s m i =>
      refine .inr ?_
      simp only [Datum.product, Option.map_some, Option.bind_some, flo_key, Nat.zero_mul]
      have : ∀ (s : Bool) (i : Int), FloatKind.f64.format.write (.number s 0 i) = FloatKind.f64.format.word s 0 := fun s i => by
        show FloatKind.f64.format.nearest s 0 i = _
        unfold Format.nearest
        rw [if_pos rfl]
      rw [this]
      cases s <;> decide
theorem fkey_0 : fkey (some 0) = 0 := by decide
theorem fnan_ne (x : Option Nat) : fnan x = false ↔ fkey x ≠ kNan := by rw [fnan_key]; simp
end Dm
namespace Dm
open Go Go.IntWalk
/-- Temporary t is never read. -/
abbrev fg (t : Nat) : Nat × (List D → Option (Prop × D × Fr)) := (1000000000 + t, fun _ => none)
abbrev ovk (f : Nat) : Nat × (List D → Option (Prop × D × Fr)) := (2000000000 + f, fun _ => none)
theorem fg_ok {P : Program} (t : Nat) : ∀ rs p r fr, (fun _ => none : List D → Option (Prop × D × Fr)) rs = some (p, r, fr) → p → FnOk P (1000000000 + t) rs r fr := fun rs p r fr h => by cases h
theorem ov_ok {P : Program} (t : Nat) : ∀ rs p r fr, (fun _ => none : List D → Option (Prop × D × Fr)) rs = some (p, r, fr) → p → FnOk P (2000000000 + t) rs r fr := fun rs p r fr h => by cases h
theorem lend_ok {P : Program} (t : Nat) : ∀ rs p r fr, (fun _ => none : List D → Option (Prop × D × Fr)) rs = some (p, r, fr) → p → FnOk P (3000000000 + t) rs r fr := fun rs p r fr h => by cases h
theorem TabOk.append {P : Program} {T T' : Tab} (h : TabOk P T) (h' : TabOk P T') : TabOk P (T ++ T') := by
  intro f sp rs p r fr hl hs hp
  rw [lk_app] at hl
  cases hk : lk f T with
  | none => rw [hk] at hl; exact h' f sp rs p r fr hl hs hp
  | some x => rw [hk] at hl; exact h f sp rs p r fr (by rw [hk]; exact hl) hs hp
@[go_sem] theorem u64_nn (x : Int) : 0 ≤ IntKind.u64.wrap x := by
  simp only [IntKind.wrap, IntKind.signed, IntKind.bits]
  exact Int.emod_nonneg _ (by decide)
theorem u64_lt (x : Int) : IntKind.u64.wrap x < 18446744073709551616 := by
  simp only [IntKind.wrap, IntKind.signed, IntKind.bits]
  exact Int.emod_lt_of_pos _ (by decide)
theorem u64_i64 (x : Int) : IntKind.u64.wrap (IntKind.i64.wrap x) = IntKind.u64.wrap x := by
  simp only [IntKind.wrap, IntKind.signed, IntKind.bits, IntKind.min]
  simp
  omega
/-- The middle of two places. -/
theorem mid_eq {i j n : Nat} (h : i ≤ j) (hj : j ≤ n) (hn : (n : Int) ≤ 9223372036854775807) : IntKind.i64.wrap ((IntKind.u64.wrap (IntKind.i64.wrap (i + j))).fdiv (2 ^ min 1 64)) = (((i + j) / 2 : Nat) : Int) := by
  rw [u64_i64, u64_in _ (by omega), show (2 ^ min 1 64 : Int) = 2 from rfl, Int.fdiv_eq_ediv_of_nonneg _ (by decide), i64_in _ (by omega)]
  omega
attribute [go_sem] Int.natCast_nonneg Int.toNat_natCast
/-- Numbers. -/
def u64s (l : List Nat) : List (List C) := l.map fun k : Nat => [.int .u64 (k : Int)]
def u8s (l : List Nat) : List (List C) := l.map fun k : Nat => [.int .u8 (k : Int)]
def i64s (l : List Int) : List (List C) := l.map fun k => [.int .i64 k]
def du64s (l : List (List C)) : List Nat := l.map fun | [.int _ k] => k.toNat | _ => 0
def du8s (l : List (List C)) : List Nat := l.map fun | [.int _ k] => k.toNat | _ => 0
def di64s (l : List (List C)) : List Int := l.map fun | [.int _ k] => k | _ => 0
@[simp, go_sem] theorem u64s_length (l : List Nat) : (u64s l).length = l.length := by simp [u64s]
@[simp, go_sem] theorem u8s_length (l : List Nat) : (u8s l).length = l.length := by simp [u8s]
@[simp, go_sem] theorem i64s_length (l : List Int) : (i64s l).length = l.length := by simp [i64s]
@[go_sem] theorem u64s_get (l : List Nat) (i : Nat) : (u64s l).getD i [.int .u64 0] = [.int .u64 (l.getD i default : Nat)] := by
  simp only [u64s, List.getD_eq_getElem?_getD, List.getElem?_map]
  cases l[i]? <;> rfl
@[go_sem] theorem u8s_get (l : List Nat) (i : Nat) : (u8s l).getD i [.int .u8 0] = [.int .u8 (l.getD i default : Nat)] := by
  simp only [u8s, List.getD_eq_getElem?_getD, List.getElem?_map]
  cases l[i]? <;> rfl
@[go_sem] theorem i64s_get (l : List Int) (i : Nat) : (i64s l).getD i [.int .i64 0] = [.int .i64 (l.getD i default)] := by
  simp only [i64s, List.getD_eq_getElem?_getD, List.getElem?_map]
  cases l[i]? <;> rfl
@[go_sem] theorem u64s_wide (l : List Nat) : Wide 1 (u64s l) = True := by simp [Wide, u64s]
@[go_sem] theorem u8s_wide (l : List Nat) : Wide 1 (u8s l) = True := by simp [Wide, u8s]
@[go_sem] theorem i64s_wide (l : List Int) : Wide 1 (i64s l) = True := by simp [Wide, i64s]
@[go_sem] theorem du64s_u64s (l : List Nat) : du64s (u64s l) = l := by
  simp only [du64s, u64s, List.map_map]
  exact List.map_id'' (fun e => by simp) l
@[go_sem] theorem du8s_u8s (l : List Nat) : du8s (u8s l) = l := by
  simp only [du8s, u8s, List.map_map]
  exact List.map_id'' (fun e => by simp) l
@[go_sem] theorem di64s_i64s (l : List Int) : di64s (i64s l) = l := by
  simp only [di64s, i64s, List.map_map]
  exact List.map_id'' (fun e => by simp) l
@[go_sem] theorem u64s_app (a b : List Nat) : u64s a ++ u64s b = u64s (a ++ b) := by simp [u64s]
@[go_sem] theorem u8s_app (a b : List Nat) : u8s a ++ u8s b = u8s (a ++ b) := by simp [u8s]
@[go_sem] theorem u64s_drop (l : List Nat) (k : Nat) : (u64s l).drop k = u64s (l.drop k) := by simp [u64s]
@[go_sem] theorem u8s_drop (l : List Nat) (k : Nat) : (u8s l).drop k = u8s (l.drop k) := by simp [u8s]
@[go_sem] theorem u64s_take (l : List Nat) (k : Nat) : (u64s l).take k = u64s (l.take k) := by simp [u64s]
@[go_sem] theorem u8s_take (l : List Nat) (k : Nat) : (u8s l).take k = u8s (l.take k) := by simp [u8s]
@[go_sem] theorem u64s_one (z : Int) (h : 0 ≤ z) : [[C.int .u64 z]] = u64s [z.toNat] := by simp [u64s, Int.toNat_of_nonneg h]
@[go_sem] theorem u64s_cons (z : Int) (l : List Nat) (h : 0 ≤ z) : [C.int .u64 z] :: u64s l = u64s (z.toNat :: l) := by simp [u64s, Int.toNat_of_nonneg h]
@[go_sem] theorem u64s_set (l : List Nat) (i : Nat) (z : Int) (h : 0 ≤ z) : (u64s l).set i [C.int .u64 z] = u64s (l.set i z.toNat) := by simp [u64s, List.map_set, Int.toNat_of_nonneg h]
@[go_sem] theorem i64s_one (z : Int) : [[C.int .i64 z]] = i64s [z] := rfl
@[go_sem] theorem i64s_cons (z : Int) (l : List Int) : [C.int .i64 z] :: i64s l = i64s (z :: l) := rfl
@[go_sem] theorem i64s_set (l : List Int) (i : Nat) (z : Int) : (i64s l).set i [C.int .i64 z] = i64s (l.set i z) := by simp [i64s, List.map_set]
@[go_sem] theorem u8s_one (z : Int) (h : 0 ≤ z) : [[C.int .u8 z]] = u8s [z.toNat] := by simp [u8s, Int.toNat_of_nonneg h]
@[go_sem] theorem u8s_cons (z : Int) (l : List Nat) (h : 0 ≤ z) : [C.int .u8 z] :: u8s l = u8s (z.toNat :: l) := by simp [u8s, Int.toNat_of_nonneg h]
@[go_sem] theorem u8s_set (l : List Nat) (i : Nat) (z : Int) (h : 0 ≤ z) : (u8s l).set i [C.int .u8 z] = u8s (l.set i z.toNat) := by simp [u8s, List.map_set, Int.toNat_of_nonneg h]
def f64s (l : List (Option Nat)) : List (List C) := l.map fun k => [.flt .f64 k]
def df64s (l : List (List C)) : List (Option Nat) := l.map fun | [.flt _ k] => k | _ => none
@[simp, go_sem] theorem f64s_length (l : List (Option Nat)) : (f64s l).length = l.length := by simp [f64s]
theorem f64s_getD {l : List (Option Nat)} {i : Nat} (h : i < l.length) {z : List C} : (f64s l).getD i z = [.flt .f64 (l.getD i default)] := by
  simp only [f64s, List.getD_eq_getElem?_getD, List.getElem?_map, List.getElem?_eq_getElem h]
  rfl
@[go_sem] theorem f64s_get (l : List (Option Nat)) (i : Nat) : (f64s l).getD i [.flt .f64 (some 0)] = [.flt .f64 (l.getD i (some 0))] := by
  simp only [f64s, List.getD_eq_getElem?_getD, List.getElem?_map]
  cases l[i]? <;> rfl
@[go_sem] theorem f64s_wide (l : List (Option Nat)) : Wide 1 (f64s l) = True := by simp [Wide, f64s]
@[go_sem] theorem df64s_f64s (l : List (Option Nat)) : df64s (f64s l) = l := by
  simp only [df64s, f64s, List.map_map]
  exact List.map_id'' (fun e => by simp) l
@[go_sem] theorem f64s_app (a b : List (Option Nat)) : f64s a ++ f64s b = f64s (a ++ b) := by simp [f64s]
@[go_sem] theorem f64s_drop (l : List (Option Nat)) (k : Nat) : (f64s l).drop k = f64s (l.drop k) := by simp [f64s]
@[go_sem] theorem f64s_take (l : List (Option Nat)) (k : Nat) : (f64s l).take k = f64s (l.take k) := by simp [f64s]
@[go_sem] theorem f64s_one (z : Option Nat) : [[C.flt .f64 z]] = f64s [z] := rfl
@[go_sem] theorem f64s_cons (z : Option Nat) (l : List (Option Nat)) : [C.flt .f64 z] :: f64s l = f64s (z :: l) := rfl
@[go_sem] theorem f64s_set (l : List (Option Nat)) (i : Nat) (z : Option Nat) : (f64s l).set i [C.flt .f64 z] = f64s (l.set i z) := by simp [f64s, List.map_set]
/-- Constants. -/
@[go_sem] theorem flo_0 : flo .f64 0 = some 0 := by decide
@[go_sem] theorem flo_1 : flo .f64 4607182418800017408 = some 4607182418800017408 := by decide
@[go_sem] theorem flo_nan1 : flo .f64 9221120237041090561 = none := by decide
/-- A map, read. -/
def dkvF (l : List (List C × List C)) : List (Nat × Int) := l.map fun | ([.int _ k], [.int _ v]) => (k.toNat, v) | _ => (0, 0)
@[go_sem] theorem dkvF_kvF {k v : IntKind} (l : List (Nat × Int)) : dkvF (kvF k v l) = l := by
  simp only [dkvF, kvF, List.map_map]
  exact List.map_id'' (fun e => by simp) l
def cmpS (x y : Int) : Int := if x < y then -1 else if y < x then 1 else 0
theorem cmpS_neg {x y : Int} : cmpS x y < 0 ↔ x < y := by
  unfold cmpS
  split
  · simp; assumption
  · split <;> simp <;> omega
theorem cmpS_0 {x y : Int} : cmpS x y = 0 ↔ x = y := by
  unfold cmpS
  split
  · simp; omega
  · split <;> simp <;> omega
theorem take_succ_iff {α : Type} [DecidableEq α] [Inhabited α] {a b : List α} {i : Nat} (h1 : i < a.length) (h2 : i < b.length) (h : a.take i = b.take i) :
    a.take (i + 1) = b.take (i + 1) ↔ a.getD i default = b.getD i default := by
  have e1 : a.take (i + 1) = a.take i ++ [a[i]] := by simp
  have e2 : b.take (i + 1) = b.take i ++ [b[i]] := by simp
  rw [e1, e2, h, List.append_cancel_left_eq]
  simp [List.getD, List.getElem?_eq_getElem h1, List.getElem?_eq_getElem h2]
theorem getD_lt {α : Type} [Inhabited α] {l : List α} {i : Nat} (h : i < l.length) : l.getD i default = l[i] := by
  rw [List.getD_eq_getElem?_getD, List.getElem?_eq_getElem h]; rfl
theorem take_succ {α : Type} [Inhabited α] {l : List α} {i : Nat} (h : i < l.length) : l.take (i + 1) = l.take i ++ [l.getD i default] := by
  rw [getD_lt h]; simp
theorem mem_getD {α : Type} [Inhabited α] {l : List α} {x : α} : x ∈ l ↔ ∃ i, i < l.length ∧ l.getD i default = x := by
  constructor
  · intro h
    obtain ⟨i, hi, rfl⟩ := List.getElem_of_mem h
    exact ⟨i, hi, getD_lt hi⟩
  · rintro ⟨i, hi, rfl⟩
    rw [getD_lt hi]
    exact List.getElem_mem hi
/-! Entries of a map -/
theorem nd_inj {m : List (Nat × Int)} (h : (m.map (·.1)).Nodup) {x y : Nat × Int} (hx : x ∈ m) (hy : y ∈ m) (he : x.1 = y.1) : x = y := by
  induction m with
  | nil => cases hx
  | cons z m ih =>
    simp only [List.map_cons, List.nodup_cons, List.mem_map] at h
    rcases List.mem_cons.1 hx with rfl | hx' <;> rcases List.mem_cons.1 hy with rfl | hy'
    · rfl
    · exact absurd ⟨y, hy', he.symm⟩ h.1
    · exact absurd ⟨x, hx', he⟩ h.1
    · exact ih h.2 hx' hy'
theorem nd_key {m sn : List (Nat × Int)} (h : (m.map (·.1)).Nodup) (hs : ∀ x ∈ sn, x ∈ m) {x : Nat × Int} (hx : x ∈ m) (hn : x ∉ sn) : x.1 ∉ sn.map (·.1) := fun hm => by
  obtain ⟨y, hy, he⟩ := List.mem_map.1 hm
  exact hn (nd_inj h hx (hs y hy) he.symm ▸ hy)
theorem nset_new {a : Nat} {b : Int} : ∀ {l : List (Nat × Int)}, a ∉ l.map (·.1) → nset a b l = l ++ [(a, b)]
  | [], _ => rfl
  | (x, y) :: l, h => by
    simp only [List.map_cons, List.mem_cons, not_or] at h
    rw [nset, if_neg (fun e => h.1 e.symm), nset_new h.2]; rfl
theorem nset_keys {a : Nat} {b : Int} : ∀ {l : List (Nat × Int)}, (nset a b l).map (·.1) = if a ∈ l.map (·.1) then l.map (·.1) else l.map (·.1) ++ [a]
  | [] => by simp [nset]
  | (x, y) :: l => by
    rw [nset]
    by_cases h : x = a
    · subst h; simp
    · rw [if_neg h, List.map_cons, nset_keys, List.map_cons]
      have h' : ¬ a = x := fun e => h e.symm
      by_cases h2 : a ∈ l.map (·.1)
      · simp [h2]
      · simp [h2, h']
theorem nset_nd {a : Nat} {b : Int} {l : List (Nat × Int)} (h : (l.map (·.1)).Nodup) : ((nset a b l).map (·.1)).Nodup := by
  rw [nset_keys]
  split
  · exact h
  · rename_i hn
    rw [List.nodup_append]
    exact ⟨h, by simp, fun x hx y hy => by simp at hy; subst hy; rintro rfl; exact hn hx⟩
theorem nlk_nset {a k : Nat} {b : Int} : ∀ {l : List (Nat × Int)}, nlk k (nset a b l) = if k = a then some b else nlk k l
  | [] => by
    by_cases h : a = k
    · subst h; simp [nset, nlk]
    · have : ¬ k = a := fun e => h e.symm
      simp [nset, nlk, h, this]
  | (x, y) :: l => by
    rw [nset]
    by_cases h : x = a
    · subst h
      by_cases h2 : x = k
      · subst h2; simp [nlk]
      · have : ¬ k = x := fun e => h2 e.symm
        simp [nlk, h2, this]
    · rw [if_neg h, nlk, nlk, nlk_nset]
      by_cases h2 : x = k
      · subst h2; simp [h]
      · simp [h2]
theorem nlk_some {k : Nat} {b : Int} : ∀ {l : List (Nat × Int)}, (l.map (·.1)).Nodup → (nlk k l = some b ↔ (k, b) ∈ l)
  | [], _ => by simp [nlk]
  | (x, y) :: l, h => by
    simp only [List.map_cons, List.nodup_cons] at h
    rw [nlk]
    by_cases h2 : x = k
    · subst h2
      rw [if_pos rfl]
      simp only [Option.some.injEq, List.mem_cons, Prod.mk.injEq, true_and]
      refine ⟨fun e => .inl e.symm, fun e => ?_⟩
      rcases e with e | e
      · exact e.symm
      · exact absurd (List.mem_map.2 ⟨_, e, rfl⟩) h.1
    · rw [if_neg h2, nlk_some h.2, List.mem_cons]
      refine ⟨.inr, fun e => ?_⟩
      rcases e with e | e
      · simp only [Prod.mk.injEq] at e; exact absurd e.1.symm h2
      · exact e
theorem nlk_none {k : Nat} : ∀ {l : List (Nat × Int)}, (nlk k l = none ↔ k ∉ l.map (·.1))
  | [] => by simp [nlk]
  | (x, y) :: l => by
    rw [nlk]
    by_cases h2 : x = k
    · subst h2; simp
    · have : ¬ k = x := fun e => h2 e.symm
      rw [if_neg h2, nlk_none]; simp [this]
theorem nd_of_keys {l : List (Nat × Int)} (h : (l.map (·.1)).Nodup) : l.Nodup := by
  induction l with
  | nil => exact List.nodup_nil
  | cons x l ih =>
    simp only [List.map_cons, List.nodup_cons] at h
    exact List.nodup_cons.2 ⟨fun hm => h.1 (List.mem_map.2 ⟨x, hm, rfl⟩), ih h.2⟩
theorem nd_add {sn : List (Nat × Int)} {x : Nat × Int} (h : sn.Nodup) (hx : x ∉ sn) : (sn ++ [x]).Nodup := by
  rw [List.nodup_append]
  exact ⟨h, by simp, fun a ha b hb => by simp at hb; subst hb; rintro rfl; exact hx ha⟩
theorem kvF_perm {k v : IntKind} {a b : List (Nat × Int)} (h : a.Perm b) : (kvF k v a).Perm (kvF k v b) := h.map _
end Dm
/-! Lists that rise by a key. -/
namespace Dm
namespace Srt
structure Tot {κ : Type} (lt : κ → κ → Prop) : Prop where
  irr : ∀ a, ¬ lt a a
  tr : ∀ {a b c}, lt a b → lt b c → lt a c
  tot : ∀ a b, lt a b ∨ a = b ∨ lt b a
theorem totNat : Tot (fun a b : Nat => a < b) := ⟨fun a => by omega, fun h h' => by omega, fun a b => by omega⟩
theorem totInt : Tot (fun a b : Int => a < b) := ⟨fun a => by omega, fun h h' => by omega, fun a b => by omega⟩
section
variable {α κ : Type} [Inhabited α] [DecidableEq κ] (key : α → κ) (lt : κ → κ → Prop) [DecidableRel lt]
def Up (l : List α) : Prop := l.Pairwise fun a b => lt (key a) (key b)
def pos (l : List α) (k : κ) : Nat := l.findIdx fun x => decide (¬ lt (key x) k)
def thr (l : List α) (k : κ) : Bool := decide (pos key lt l k < l.length ∧ key (l.getD (pos key lt l k) default) = k)
def ins (l : List α) (i : Nat) (x : α) : List α := l.take i ++ x :: l.drop i
def fnd (l : List α) (k : κ) : Option α := l.find? fun x => decide (key x = k)
def put (l : List α) (x : α) : List α := if thr key lt l (key x) = true then l.set (pos key lt l (key x)) x else ins l (pos key lt l (key x)) x
/-- Each is below the next one. -/
def Chn (l : List α) : Prop := ∀ j, j < l.length → 0 < j → lt (key (l.getD (j - 1) default)) (key (l.getD j default))
instance (l : List α) : Decidable (Chn key lt l) := by unfold Chn; infer_instance
variable {key lt} {l : List α} {k : κ} {x : α} {i : Nat} (T : Tot lt)
theorem pos_le : pos key lt l k ≤ l.length := List.findIdx_le_length
theorem pos_lo (h : i < pos key lt l k) : lt (key (l.getD i default)) k := by
  have h2 : i < l.length := Nat.lt_of_lt_of_le h pos_le
  have := List.not_of_lt_findIdx h
  rw [getD_lt h2]
  simpa using this
theorem pos_eq (hi : i ≤ l.length) (h1 : ∀ j, j < i → lt (key (l.getD j default)) k) (h2 : i < l.length → ¬ lt (key (l.getD i default)) k) : pos key lt l k = i := by
  unfold pos
  rcases Nat.lt_or_ge i l.length with h | h
  · rw [List.findIdx_eq h]
    have h3 := h2 h
    rw [getD_lt h] at h3
    refine ⟨by simpa using h3, fun j hj => ?_⟩
    have := h1 j hj
    rw [getD_lt (Nat.lt_trans hj h)] at this
    simpa using this
  · have : i = l.length := by omega
    subst this
    refine Nat.le_antisymm List.findIdx_le_length (Nat.le_of_not_lt fun hlt => ?_)
    have h3 := List.findIdx_getElem (w := hlt)
    have h4 := h1 _ hlt
    rw [getD_lt hlt] at h4
    simp only [decide_eq_true_eq] at h3
    exact h3 h4
theorem up_get : Up key lt l ↔ ∀ a b, a < b → b < l.length → lt (key (l.getD a default)) (key (l.getD b default)) := by
  unfold Up
  rw [List.pairwise_iff_getElem]
  refine ⟨fun h a b hab hb => ?_, fun h a b ha hb hab => ?_⟩
  · rw [getD_lt hb, getD_lt (by omega)]; exact h a b (by omega) hb hab
  · have := h a b hab hb
    rwa [getD_lt hb, getD_lt ha] at this
theorem at_pos (h : pos key lt l k < l.length) : ¬ lt (key (l.getD (pos key lt l k) default)) k := by
  have h3 := List.findIdx_getElem (w := h)
  rw [getD_lt h]
  exact of_decide_eq_true h3
include T
theorem chn_up : Chn key lt l ↔ Up key lt l := by
  rw [up_get]
  refine ⟨fun h a b hab => ?_, fun h j hj h0 => h (j - 1) j (by omega) hj⟩
  induction b with
  | zero => omega
  | succ b ih =>
    intro hb
    have h1 := h (b + 1) hb (by omega)
    rw [Nat.add_sub_cancel] at h1
    by_cases hab' : a = b
    · rw [hab']; exact h1
    · exact T.tr (ih (by omega) (by omega)) h1
theorem pos_hi (hu : Up key lt l) (h : pos key lt l k ≤ i) (hi : i < l.length) : ¬ lt (key (l.getD i default)) k := by
  have h1 := at_pos (key := key) (lt := lt) (l := l) (k := k) (by omega)
  by_cases he : pos key lt l k = i
  · rw [← he]; exact h1
  · intro h2
    exact h1 (T.tr (up_get.1 hu _ _ (by omega) hi) h2)
theorem thr_iff (hu : Up key lt l) : thr key lt l k = true ↔ ∃ x ∈ l, key x = k := by
  simp only [thr, decide_eq_true_eq]
  refine ⟨fun ⟨h1, h2⟩ => ⟨_, mem_getD.2 ⟨_, h1, rfl⟩, h2⟩, fun ⟨x, hx, he⟩ => ?_⟩
  obtain ⟨i, hi, rfl⟩ := mem_getD.1 hx
  have h1 : pos key lt l k = i := by
    refine pos_eq (by omega) (fun j hj => ?_) fun _ => ?_
    · rw [← he]; exact up_get.1 hu j i hj hi
    · rw [he]; exact T.irr _
  rw [h1]; exact ⟨hi, he⟩
theorem up_inj (hu : Up key lt l) {a b : α} (ha : a ∈ l) (hb : b ∈ l) (h : key a = key b) : a = b := by
  obtain ⟨i, hi, rfl⟩ := mem_getD.1 ha
  obtain ⟨j, hj, rfl⟩ := mem_getD.1 hb
  rcases Nat.lt_trichotomy i j with h1 | h1 | h1
  · have := up_get.1 hu i j h1 hj; rw [h] at this; exact absurd this (T.irr _)
  · rw [h1]
  · have := up_get.1 hu j i h1 hi; rw [h] at this; exact absurd this (T.irr _)
theorem fnd_some (hu : Up key lt l) : fnd key l k = some x ↔ x ∈ l ∧ key x = k := by
  refine ⟨fun h => ⟨List.mem_of_find?_eq_some h, by simpa using List.find?_some h⟩, fun ⟨h1, h2⟩ => ?_⟩
  cases hf : fnd key l k with
  | none => rw [fnd, List.find?_eq_none] at hf; exact absurd h2 (by simpa using hf x h1)
  | some y =>
    have h3 := List.mem_of_find?_eq_some hf
    have h4 : key y = k := by simpa using List.find?_some hf
    rw [up_inj T hu h3 h1 (h4.trans h2.symm)]
omit T in
theorem fnd_none : fnd key l k = none ↔ ∀ x ∈ l, key x ≠ k := by
  rw [fnd, List.find?_eq_none]; simp
theorem fnd_thr (hu : Up key lt l) : fnd key l k = if thr key lt l k = true then some (l.getD (pos key lt l k) default) else none := by
  split
  · rename_i h
    have h' := h
    simp only [thr, decide_eq_true_eq] at h'
    exact (fnd_some T hu).2 ⟨mem_getD.2 ⟨_, h'.1, rfl⟩, h'.2⟩
  · rename_i h
    rw [fnd_none]
    exact fun x hx he => h ((thr_iff T hu).2 ⟨x, hx, he⟩)
theorem ext {a b : List α} (ha : Up key lt a) (hb : Up key lt b) (h : ∀ x, x ∈ a ↔ x ∈ b) : a = b := by
  induction a generalizing b with
  | nil =>
    cases b with
    | nil => rfl
    | cons y b => exact absurd ((h y).2 (by simp)) (by simp)
  | cons x a ih =>
    cases b with
    | nil => exact absurd ((h x).1 (by simp)) (by simp)
    | cons y b =>
      simp only [Up, List.pairwise_cons] at ha hb
      have hxy : x = y := by
        rcases List.mem_cons.1 ((h x).1 (by simp)) with h1 | h1
        · exact h1
        · rcases List.mem_cons.1 ((h y).2 (by simp)) with h2 | h2
          · exact h2.symm
          · exact absurd (T.tr (ha.1 y h2) (hb.1 x h1)) (T.irr _)
      subst hxy
      congr 1
      refine ih ha.2 hb.2 fun z => ?_
      have hz := h z
      simp only [List.mem_cons] at hz
      refine ⟨fun h1 => ?_, fun h1 => ?_⟩
      · rcases hz.1 (.inr h1) with h2 | h2
        · subst h2; exact absurd (ha.1 z h1) (T.irr _)
        · exact h2
      · rcases hz.2 (.inr h1) with h2 | h2
        · subst h2; exact absurd (hb.1 z h1) (T.irr _)
        · exact h2
theorem ext_fnd {a b : List α} (ha : Up key lt a) (hb : Up key lt b) (h : ∀ k, fnd key a k = fnd key b k) : a = b :=
  ext T ha hb fun x => by
    rw [show x ∈ a ↔ fnd key a (key x) = some x from ⟨fun h => (fnd_some T ha).2 ⟨h, rfl⟩, fun h => ((fnd_some T ha).1 h).1⟩, h, fnd_some T hb]
    exact ⟨fun h => h.1, fun h => ⟨h, rfl⟩⟩
omit T in
theorem ins_perm : List.Perm (ins l i x) (x :: l) := by
  have := List.perm_middle (a := x) (l₁ := l.take i) (l₂ := l.drop i)
  rwa [List.take_append_drop] at this
theorem ins_up (hu : Up key lt l) (ht : ¬ thr key lt l (key x) = true) : Up key lt (ins l (pos key lt l (key x)) x) := by
  have hn : ∀ e ∈ l, ¬ key e = key x := fun e he h => ht ((thr_iff T hu).2 ⟨e, he, h⟩)
  have hlo : ∀ e ∈ l.take (pos key lt l (key x)), lt (key e) (key x) := fun e he => by
    obtain ⟨i, hi, rfl⟩ := List.getElem_of_mem he
    rw [List.length_take] at hi
    have := pos_lo (key := key) (lt := lt) (l := l) (k := key x) (i := i) (by omega)
    rw [getD_lt (by omega)] at this
    simpa using this
  have hhi : ∀ e ∈ l.drop (pos key lt l (key x)), lt (key x) (key e) := fun e he => by
    obtain ⟨i, hi, rfl⟩ := List.getElem_of_mem he
    rw [List.length_drop] at hi
    have h3 := pos_hi T hu (k := key x) (i := pos key lt l (key x) + i) (by omega) (by omega)
    have h4 := hn _ (List.mem_of_mem_drop he)
    rw [getD_lt (by omega)] at h3
    simp only [List.getElem_drop] at h4 ⊢
    rcases T.tot (key l[pos key lt l (key x) + i]) (key x) with h | h | h
    · exact absurd h h3
    · exact absurd h h4
    · exact h
  unfold Up at *
  rw [← List.take_append_drop (pos key lt l (key x)) l, List.pairwise_append] at hu
  rw [ins, List.pairwise_append]
  refine ⟨hu.1, List.pairwise_cons.2 ⟨hhi, hu.2.1⟩, fun a ha b hb => ?_⟩
  rcases List.mem_cons.1 hb with rfl | hb
  · exact hlo a ha
  · exact hu.2.2 a ha b hb
omit T in
theorem set_getD {p : Nat} (hp : p < l.length) (q : Nat) : (l.set p x).getD q default = if q = p then x else l.getD q default := by
  rw [List.getD_eq_getElem?_getD, List.getElem?_set]
  by_cases h : p = q
  · subst h; simp [hp]
  · have : ¬ q = p := fun e => h e.symm
    simp [h, this]
omit T in
theorem set_up {p : Nat} (hu : Up key lt l) (hp : p < l.length) (hk : key x = key (l.getD p default)) : Up key lt (l.set p x) := by
  rw [up_get] at *
  intro a b hab hb
  rw [List.length_set] at hb
  have : ∀ q, key ((l.set p x).getD q default) = key (l.getD q default) := fun q => by
    rw [set_getD hp]
    split
    · rename_i h; rw [h, hk]
    · rfl
  rw [this, this]
  exact hu a b hab hb
theorem put_up (hu : Up key lt l) : Up key lt (put key lt l x) := by
  unfold put
  split
  · rename_i h
    simp only [thr, decide_eq_true_eq] at h
    exact set_up hu h.1 h.2.symm
  · rename_i h; exact ins_up T hu h
theorem mem_put (hu : Up key lt l) {y : α} : y ∈ put key lt l x ↔ y = x ∨ (y ∈ l ∧ key y ≠ key x) := by
  unfold put
  split
  · rename_i h
    simp only [thr, decide_eq_true_eq] at h
    obtain ⟨h1, h2⟩ := h
    refine ⟨fun hy => ?_, fun hy => ?_⟩
    · obtain ⟨i, hi, rfl⟩ := mem_getD.1 hy
      rw [List.length_set] at hi
      rw [set_getD h1]
      split
      · exact .inl rfl
      · rename_i hne
        refine .inr ⟨mem_getD.2 ⟨i, hi, rfl⟩, fun he => ?_⟩
        have := up_inj T hu (mem_getD.2 ⟨i, hi, rfl⟩) (mem_getD.2 ⟨_, h1, rfl⟩) (he.trans h2.symm)
        rcases Nat.lt_trichotomy i (pos key lt l (key x)) with h | h | h
        · have h3 := up_get.1 hu _ _ h h1; rw [this] at h3; exact T.irr _ h3
        · exact hne h
        · have h3 := up_get.1 hu _ _ h hi; rw [this] at h3; exact T.irr _ h3
    · rcases hy with rfl | ⟨hy, hne⟩
      · exact mem_getD.2 ⟨pos key lt l (key y), by rw [List.length_set]; exact h1, by rw [set_getD h1, if_pos rfl]⟩
      · obtain ⟨i, hi, rfl⟩ := mem_getD.1 hy
        refine mem_getD.2 ⟨i, by rw [List.length_set]; exact hi, ?_⟩
        rw [set_getD h1, if_neg]
        rintro rfl
        exact hne h2
  · rename_i h
    rw [ins_perm.mem_iff, List.mem_cons]
    refine ⟨fun hy => hy.imp id fun hy => ⟨hy, fun he => h ((thr_iff T hu).2 ⟨y, hy, he⟩)⟩, fun hy => hy.imp id fun hy => hy.1⟩
theorem fnd_put (hu : Up key lt l) : fnd key (put key lt l x) k = if k = key x then some x else fnd key l k := by
  split
  · rename_i h; subst h
    exact (fnd_some T (put_up T hu)).2 ⟨(mem_put T hu).2 (.inl rfl), rfl⟩
  · rename_i h
    cases hf : fnd key l k with
    | none =>
      rw [fnd_none] at hf ⊢
      intro y hy
      rcases (mem_put T hu).1 hy with rfl | ⟨hy, _⟩
      · exact fun e => h e.symm
      · exact hf y hy
    | some y =>
      obtain ⟨h1, h2⟩ := (fnd_some T hu).1 hf
      exact (fnd_some T (put_up T hu)).2 ⟨(mem_put T hu).2 (.inr ⟨h1, by rw [h2]; exact h⟩), h2⟩
omit T in
theorem ins_len : (ins l i x).length = l.length + 1 := ins_perm.length_eq
omit T in
theorem put_len : (put key lt l x).length = if thr key lt l (key x) = true then l.length else l.length + 1 := by
  unfold put
  split
  · exact List.length_set
  · exact ins_len
omit T in
theorem ins_getD {p : Nat} (hp : p ≤ l.length) : (ins l p x).getD p default = x := by
  have h : (l.take p).length = p := by rw [List.length_take]; omega
  rw [ins, List.getD_eq_getElem?_getD, List.getElem?_append_right (by omega), h]
  simp
omit T in
theorem ins_set {p : Nat} {y : α} (hp : p ≤ l.length) : (ins l p x).set p y = ins l p y := by
  have h : (l.take p).length = p := by rw [List.length_take]; omega
  rw [ins, List.set_append_right _ _ (by omega), h]
  simp [ins]
/-- As it is put by two sieves. -/
theorem put_filter (hu : Up key lt l) : l.filter (fun e => decide (lt (key e) (key x))) ++ x :: l.filter (fun e => decide (lt (key x) (key e))) = put key lt l x := by
  refine ext T (key := key) (lt := lt) ?_ (put_up T hu) fun y => ?_
  · unfold Up at *
    rw [List.pairwise_append]
    refine ⟨hu.filter _, List.pairwise_cons.2 ⟨fun b hb => by simpa using (List.mem_filter.1 hb).2, hu.filter _⟩, fun a ha b hb => ?_⟩
    have h1 : lt (key a) (key x) := by simpa using (List.mem_filter.1 ha).2
    rcases List.mem_cons.1 hb with rfl | hb
    · exact h1
    · exact T.tr h1 (by simpa using (List.mem_filter.1 hb).2)
  · rw [mem_put T hu]
    simp only [List.mem_append, List.mem_cons, List.mem_filter, decide_eq_true_eq]
    refine ⟨fun h => ?_, fun h => ?_⟩
    · rcases h with ⟨h1, h2⟩ | h1 | ⟨h1, h2⟩
      · exact .inr ⟨h1, fun e => T.irr _ (e ▸ h2)⟩
      · exact .inl h1
      · exact .inr ⟨h1, fun e => T.irr _ (e ▸ h2)⟩
    · rcases h with h1 | ⟨h1, h2⟩
      · exact .inr (.inl h1)
      · rcases T.tot (key y) (key x) with h | h | h
        · exact .inl ⟨h1, h⟩
        · exact absurd h h2
        · exact .inr (.inr ⟨h1, h⟩)
end
end Srt
end Dm
/-! What the program's tables say of the types that its functions use. Printed by gen.py. -/
namespace Dm
open Go
@[go_sem] theorem arOf_9 : arOf Go.Proofs.Try.prog 9 = none := by kernel_rfl
@[go_sem] theorem arOf_22 : arOf Go.Proofs.Try.prog 22 = none := by kernel_rfl
@[go_sem] theorem arOf_23 : arOf Go.Proofs.Try.prog 23 = none := by kernel_rfl
@[go_sem] theorem arOf_27 : arOf Go.Proofs.Try.prog 27 = none := by kernel_rfl
@[go_sem] theorem arOf_31 : arOf Go.Proofs.Try.prog 31 = none := by kernel_rfl
@[go_sem] theorem arOf_56 : arOf Go.Proofs.Try.prog 56 = none := by kernel_rfl
@[go_sem] theorem arOf_69 : arOf Go.Proofs.Try.prog 69 = none := by kernel_rfl
@[go_sem] theorem arOf_86 : arOf Go.Proofs.Try.prog 86 = none := by kernel_rfl
@[go_sem] theorem bldOf_33 : bldOf Go.Proofs.Try.prog 33 = some [D.c (C.int IntKind.u64 0), D.c (C.int IntKind.u64 0), D.c (C.int IntKind.u64 0), D.c (C.int IntKind.u64 0), D.c (C.int IntKind.u64 0), D.nil, D.c (C.bool false)] := by kernel_rfl
@[go_sem] theorem bldOf_60 : bldOf Go.Proofs.Try.prog 60 = some [D.c (C.int IntKind.u64 0), D.c (C.flt FloatKind.f64 (some 0))] := by kernel_rfl
@[go_sem] theorem bldOf_90 : bldOf Go.Proofs.Try.prog 90 = some [D.c (C.int IntKind.u64 0), D.c (C.int IntKind.u64 0)] := by kernel_rfl
@[go_sem] theorem elOf_3 : elOf Go.Proofs.Try.prog 3 = none := by kernel_rfl
@[go_sem] theorem elOf_5 : elOf Go.Proofs.Try.prog 5 = none := by kernel_rfl
@[go_sem] theorem elOf_9 : elOf Go.Proofs.Try.prog 9 = none := by kernel_rfl
@[go_sem] theorem elOf_22 : elOf Go.Proofs.Try.prog 22 = some (33, 7, 72) := by kernel_rfl
@[go_sem] theorem elOf_23 : elOf Go.Proofs.Try.prog 23 = some (38, 2, 16) := by kernel_rfl
@[go_sem] theorem elOf_24 : elOf Go.Proofs.Try.prog 24 = none := by kernel_rfl
@[go_sem] theorem elOf_27 : elOf Go.Proofs.Try.prog 27 = some (24, 1, 8) := by kernel_rfl
@[go_sem] theorem elOf_31 : elOf Go.Proofs.Try.prog 31 = some (90, 2, 16) := by kernel_rfl
@[go_sem] theorem elOf_36 : elOf Go.Proofs.Try.prog 36 = none := by kernel_rfl
@[go_sem] theorem elOf_56 : elOf Go.Proofs.Try.prog 56 = some (60, 2, 16) := by kernel_rfl
@[go_sem] theorem elOf_69 : elOf Go.Proofs.Try.prog 69 = some (36, 1, 8) := by kernel_rfl
@[go_sem] theorem elOf_85 : elOf Go.Proofs.Try.prog 85 = none := by kernel_rfl
@[go_sem] theorem elOf_86 : elOf Go.Proofs.Try.prog 86 = some (3, 1, 8) := by kernel_rfl
@[go_sem] theorem elOf_113 : elOf Go.Proofs.Try.prog 113 = none := by kernel_rfl
@[go_sem] theorem elOf_119 : elOf Go.Proofs.Try.prog 119 = none := by kernel_rfl
@[go_sem] theorem fldOf_33_0 : fldOf Go.Proofs.Try.prog 33 0 = some 0 := by kernel_rfl
@[go_sem] theorem fldOf_33_1 : fldOf Go.Proofs.Try.prog 33 1 = some 1 := by kernel_rfl
@[go_sem] theorem fldOf_33_2 : fldOf Go.Proofs.Try.prog 33 2 = some 2 := by kernel_rfl
@[go_sem] theorem fldOf_33_3 : fldOf Go.Proofs.Try.prog 33 3 = some 3 := by kernel_rfl
@[go_sem] theorem fldOf_33_4 : fldOf Go.Proofs.Try.prog 33 4 = some 4 := by kernel_rfl
@[go_sem] theorem fldOf_33_5 : fldOf Go.Proofs.Try.prog 33 5 = some 5 := by kernel_rfl
@[go_sem] theorem fldOf_33_6 : fldOf Go.Proofs.Try.prog 33 6 = some 6 := by kernel_rfl
@[go_sem] theorem fldOf_38_0 : fldOf Go.Proofs.Try.prog 38 0 = some 0 := by kernel_rfl
@[go_sem] theorem fldOf_38_1 : fldOf Go.Proofs.Try.prog 38 1 = some 1 := by kernel_rfl
@[go_sem] theorem fldOf_60_0 : fldOf Go.Proofs.Try.prog 60 0 = some 0 := by kernel_rfl
@[go_sem] theorem fldOf_60_1 : fldOf Go.Proofs.Try.prog 60 1 = some 1 := by kernel_rfl
@[go_sem] theorem fldOf_90_0 : fldOf Go.Proofs.Try.prog 90 0 = some 0 := by kernel_rfl
@[go_sem] theorem fldOf_90_1 : fldOf Go.Proofs.Try.prog 90 1 = some 1 := by kernel_rfl
@[go_sem] theorem inOf_3 : inOf Go.Proofs.Try.prog 3 = some IntKind.i64 := by kernel_rfl
@[go_sem] theorem inOf_5 : inOf Go.Proofs.Try.prog 5 = some IntKind.u8 := by kernel_rfl
@[go_sem] theorem inOf_36 : inOf Go.Proofs.Try.prog 36 = none := by kernel_rfl
@[go_sem] theorem inOf_85 : inOf Go.Proofs.Try.prog 85 = some IntKind.u64 := by kernel_rfl
@[go_sem] theorem inOf_113 : inOf Go.Proofs.Try.prog 113 = some IntKind.u32 := by kernel_rfl
@[go_sem] theorem inOf_119 : inOf Go.Proofs.Try.prog 119 = some IntKind.u64 := by kernel_rfl
@[go_sem] theorem kdOf_3 : kdOf Go.Proofs.Try.prog 3 = some (TypeDesc.int IntKind.i64) := by kernel_rfl
@[go_sem] theorem kdOf_4 : kdOf Go.Proofs.Try.prog 4 = some TypeDesc.bool := by kernel_rfl
@[go_sem] theorem kdOf_5 : kdOf Go.Proofs.Try.prog 5 = some (TypeDesc.int IntKind.u8) := by kernel_rfl
@[go_sem] theorem kdOf_22 : kdOf Go.Proofs.Try.prog 22 = some (TypeDesc.slice 33) := by kernel_rfl
@[go_sem] theorem kdOf_24 : kdOf Go.Proofs.Try.prog 24 = some (TypeDesc.int IntKind.u64) := by kernel_rfl
@[go_sem] theorem kdOf_28 : kdOf Go.Proofs.Try.prog 28 = some (TypeDesc.int IntKind.i64) := by kernel_rfl
@[go_sem] theorem kdOf_31 : kdOf Go.Proofs.Try.prog 31 = some (TypeDesc.slice 90) := by kernel_rfl
@[go_sem] theorem kdOf_36 : kdOf Go.Proofs.Try.prog 36 = some (TypeDesc.float FloatKind.f64) := by kernel_rfl
@[go_sem] theorem kdOf_85 : kdOf Go.Proofs.Try.prog 85 = some (TypeDesc.int IntKind.u64) := by kernel_rfl
@[go_sem] theorem kdOf_106 : kdOf Go.Proofs.Try.prog 106 = some (TypeDesc.int IntKind.i64) := by kernel_rfl
@[go_sem] theorem kdOf_113 : kdOf Go.Proofs.Try.prog 113 = some (TypeDesc.int IntKind.u32) := by kernel_rfl
@[go_sem] theorem kdOf_119 : kdOf Go.Proofs.Try.prog 119 = some (TypeDesc.int IntKind.u64) := by kernel_rfl
@[go_sem] theorem mapOf_72 : mapOf Go.Proofs.Try.prog 72 = some ([KK.int IntKind.u64], D.c (C.int IntKind.i64 0)) := by kernel_rfl
@[go_sem] theorem plcOf_33_0 : plcOf Go.Proofs.Try.prog 33 0 = some (0, 1) := by kernel_rfl
@[go_sem] theorem plcOf_33_1 : plcOf Go.Proofs.Try.prog 33 1 = some (1, 1) := by kernel_rfl
@[go_sem] theorem plcOf_33_4 : plcOf Go.Proofs.Try.prog 33 4 = some (4, 1) := by kernel_rfl
@[go_sem] theorem plcOf_33_6 : plcOf Go.Proofs.Try.prog 33 6 = some (6, 1) := by kernel_rfl
@[go_sem] theorem plcOf_60_0 : plcOf Go.Proofs.Try.prog 60 0 = some (0, 1) := by kernel_rfl
@[go_sem] theorem plcOf_60_1 : plcOf Go.Proofs.Try.prog 60 1 = some (1, 1) := by kernel_rfl
@[go_sem] theorem plcOf_90_0 : plcOf Go.Proofs.Try.prog 90 0 = some (0, 1) := by kernel_rfl
@[go_sem] theorem plcOf_90_1 : plcOf Go.Proofs.Try.prog 90 1 = some (1, 1) := by kernel_rfl
@[go_sem] theorem tyOf_3 : tyOf Go.Proofs.Try.prog 3 = some (false, 1) := by kernel_rfl
@[go_sem] theorem tyOf_4 : tyOf Go.Proofs.Try.prog 4 = some (false, 1) := by kernel_rfl
@[go_sem] theorem tyOf_22 : tyOf Go.Proofs.Try.prog 22 = some (false, 1) := by kernel_rfl
@[go_sem] theorem tyOf_24 : tyOf Go.Proofs.Try.prog 24 = some (false, 1) := by kernel_rfl
@[go_sem] theorem tyOf_31 : tyOf Go.Proofs.Try.prog 31 = some (false, 1) := by kernel_rfl
@[go_sem] theorem tyOf_33 : tyOf Go.Proofs.Try.prog 33 = some (true, 7) := by kernel_rfl
@[go_sem] theorem tyOf_36 : tyOf Go.Proofs.Try.prog 36 = some (false, 1) := by kernel_rfl
@[go_sem] theorem tyOf_38 : tyOf Go.Proofs.Try.prog 38 = some (true, 2) := by kernel_rfl
@[go_sem] theorem tyOf_60 : tyOf Go.Proofs.Try.prog 60 = some (true, 2) := by kernel_rfl
@[go_sem] theorem tyOf_90 : tyOf Go.Proofs.Try.prog 90 = some (true, 2) := by kernel_rfl
@[go_sem] theorem tyOf_119 : tyOf Go.Proofs.Try.prog 119 = some (false, 1) := by kernel_rfl
@[go_sem] theorem zOf_3 : zOf Go.Proofs.Try.prog 3 = some (D.c (C.int IntKind.i64 0)) := by kernel_rfl
@[go_sem] theorem zOf_33 : zOf Go.Proofs.Try.prog 33 = some (D.agg [D.c (C.int IntKind.u64 0), D.c (C.int IntKind.u64 0), D.c (C.int IntKind.u64 0), D.c (C.int IntKind.u64 0), D.c (C.int IntKind.u64 0), D.nil, D.c (C.bool false)]) := by kernel_rfl
@[go_sem] theorem zOf_38 : zOf Go.Proofs.Try.prog 38 = some (D.agg [D.c (C.int IntKind.u64 0), D.c (C.flt FloatKind.f64 (some 0))]) := by kernel_rfl
@[go_sem] theorem zOf_60 : zOf Go.Proofs.Try.prog 60 = some (D.agg [D.c (C.int IntKind.u64 0), D.c (C.flt FloatKind.f64 (some 0))]) := by kernel_rfl
@[go_sem] theorem zOf_90 : zOf Go.Proofs.Try.prog 90 = some (D.agg [D.c (C.int IntKind.u64 0), D.c (C.int IntKind.u64 0)]) := by kernel_rfl
@[go_sem] theorem zOf_119 : zOf Go.Proofs.Try.prog 119 = some (D.c (C.int IntKind.u64 0)) := by kernel_rfl
@[go_sem] theorem zc0_3 : zc0 Go.Proofs.Try.prog 3 = [C.int IntKind.i64 0] := by kernel_rfl
@[go_sem] theorem zc0_24 : zc0 Go.Proofs.Try.prog 24 = [C.int IntKind.u64 0] := by kernel_rfl
@[go_sem] theorem zc0_33 : zc0 Go.Proofs.Try.prog 33 = [C.int IntKind.u64 0, C.int IntKind.u64 0, C.int IntKind.u64 0, C.int IntKind.u64 0, C.int IntKind.u64 0, C.sl [], C.bool false] := by kernel_rfl
@[go_sem] theorem zc0_36 : zc0 Go.Proofs.Try.prog 36 = [C.flt FloatKind.f64 (some 0)] := by kernel_rfl
@[go_sem] theorem zc0_38 : zc0 Go.Proofs.Try.prog 38 = [C.int IntKind.u64 0, C.flt FloatKind.f64 (some 0)] := by kernel_rfl
@[go_sem] theorem zc0_60 : zc0 Go.Proofs.Try.prog 60 = [C.int IntKind.u64 0, C.flt FloatKind.f64 (some 0)] := by kernel_rfl
@[go_sem] theorem zc0_90 : zc0 Go.Proofs.Try.prog 90 = [C.int IntKind.u64 0, C.int IntKind.u64 0] := by kernel_rfl
@[go_sem] theorem zcOf_3 : zcOf Go.Proofs.Try.prog 3 = some [C.int IntKind.i64 0] := by kernel_rfl
@[go_sem] theorem zcOf_24 : zcOf Go.Proofs.Try.prog 24 = some [C.int IntKind.u64 0] := by kernel_rfl
@[go_sem] theorem zcOf_33 : zcOf Go.Proofs.Try.prog 33 = some [C.int IntKind.u64 0, C.int IntKind.u64 0, C.int IntKind.u64 0, C.int IntKind.u64 0, C.int IntKind.u64 0, C.sl [], C.bool false] := by kernel_rfl
@[go_sem] theorem zcOf_36 : zcOf Go.Proofs.Try.prog 36 = some [C.flt FloatKind.f64 (some 0)] := by kernel_rfl
@[go_sem] theorem zcOf_38 : zcOf Go.Proofs.Try.prog 38 = some [C.int IntKind.u64 0, C.flt FloatKind.f64 (some 0)] := by kernel_rfl
@[go_sem] theorem zcOf_60 : zcOf Go.Proofs.Try.prog 60 = some [C.int IntKind.u64 0, C.flt FloatKind.f64 (some 0)] := by kernel_rfl
@[go_sem] theorem zcOf_90 : zcOf Go.Proofs.Try.prog 90 = some [C.int IntKind.u64 0, C.int IntKind.u64 0] := by kernel_rfl
end Dm
/-! The temporaries that are read behind each region. Printed by gen.py. -/
namespace Dm
set_option maxRecDepth 20000
def lvL (l : List (Nat × List Nat)) (i : Nat) : Option (List Nat) := lk i l
@[go_sem] theorem lvL_eq (l : List (Nat × List Nat)) (i : Nat) : lvL l i = lk i l := rfl
/-- damson/damsonlaw11.ScoreAlone -/
abbrev lv3 : Nat → Option (List Nat) := lvL [(0, [0, 1, 2, 3]), (1, [0, 1, 2, 3, 25]), (2, [8]), (3, [0, 1, 2, 3, 33]), (4, [8]), (5, [0, 1, 2, 3, 9, 10]), (6, [0, 1, 2, 3, 9, 42]), (7, [8]), (8, [0, 1, 2, 3, 9, 11]), (9, [0, 1, 2, 3, 9, 11, 12]), (10, [1, 2, 3, 9, 11, 12, 46, 47, 48]), (11, [1, 2, 3, 9, 11, 12, 46, 47, 48, 49]), (12, [1, 2, 3, 9, 11, 12, 14, 46, 47, 48]), (13, [1, 2, 3, 9, 11, 12, 14, 15, 16, 46, 47, 48]), (14, [1, 2, 3, 9, 11, 12, 14, 15, 46, 47, 48, 58]), (15, [8]), (16, [1, 2, 3, 9, 11, 12, 14, 46, 47, 48, 71]), (17, [1, 2, 3, 9, 11, 12, 46, 47, 48]), (18, [1, 2, 3, 9, 11, 12, 46, 47, 48]), (19, [1, 2, 3, 9, 11, 12, 46, 47, 48]), (20, [1, 2, 3, 9, 11, 12, 17, 18]), (21, [1, 2, 3, 9, 11, 12, 17, 18, 19]), (22, [2, 3, 9, 11, 12, 17, 18, 19, 84, 85, 86]), (23, [2, 3, 9, 11, 12, 17, 18, 19, 84, 85, 86, 87]), (24, [2, 3, 9, 11, 12, 17, 18, 19, 21, 84, 85, 86]), (25, [2, 3, 9, 11, 12, 17, 18, 19, 21, 84, 85, 86, 97]), (26, [2, 3, 9, 11, 12, 17, 18, 19, 84, 85, 86]), (27, [2, 3, 9, 11, 12, 17, 18, 19, 84, 85, 86]), (28, [9, 17, 18, 22, 23]), (29, [8])]
theorem ac3 {T : Tab} (hT : TabOk Go.Proofs.Try.prog T) {ds : List D} {os : List (Nat × Ob)} {nx : Nat} {Q : D → List (Nat × Ob) → Nat → Prop} (hl : ds.length ≤ 126) (h : awp Go.Proofs.Try.prog T 126 nx lv3 (Go.Proofs.Try.f3.body.getD .skip) (fin Go.Proofs.Try.prog [.tmp 8] Q) ⟨prm 0 ds, os, nx⟩) : ACall Go.Proofs.Try.prog 3 ds os nx Q :=
  acall_intro hT.toS (fn := Go.Proofs.Try.f3) lv3 (by kernel_rfl) rfl rfl (by kernel_rfl) rfl hl rfl h
/-- damson/damsonlaw11.ScoreDoes -/
abbrev lv4 : Nat → Option (List Nat) := lvL [(0, [0, 1, 2, 3, 4, 5, 13]), (1, [0, 1, 2, 3, 4, 5, 13, 28]), (2, [14]), (3, [0, 1, 2, 3, 4, 5, 13, 42]), (4, [14]), (5, [0, 1, 2, 3, 4, 5, 13, 15, 16]), (6, [0, 1, 2, 3, 4, 5, 15, 16, 17, 18]), (7, [0, 1, 2, 3, 4, 5, 15, 16, 17, 18, 19, 20]), (8, [0, 1, 2, 3, 4, 5, 15, 16, 17, 18, 19, 20, 21, 22]), (9, [0, 1, 2, 3, 4, 5, 15, 16, 17, 18, 19, 20, 21, 22, 23, 24]), (10, [1, 3, 4, 5, 15, 16, 17, 18, 19, 20, 21, 22, 23, 24, 25, 26]), (11, [14])]
theorem ac4 {T : Tab} (hT : TabOk Go.Proofs.Try.prog T) {ds : List D} {os : List (Nat × Ob)} {nx : Nat} {Q : D → List (Nat × Ob) → Nat → Prop} (hl : ds.length ≤ 131) (h : awp Go.Proofs.Try.prog T 131 nx lv4 (Go.Proofs.Try.f4.body.getD .skip) (fin Go.Proofs.Try.prog [.tmp 14] Q) ⟨prm 0 ds, os, nx⟩) : ACall Go.Proofs.Try.prog 4 ds os nx Q :=
  acall_intro hT.toS (fn := Go.Proofs.Try.f4) lv4 (by kernel_rfl) rfl rfl (by kernel_rfl) rfl hl rfl h
/-- damson/damsonlaw11.ScoreLess -/
abbrev lv5 : Nat → Option (List Nat) := lvL [(0, [0, 1, 2]), (1, [0, 1, 2, 9]), (2, [6]), (3, [0, 1, 2, 7]), (4, [0, 1, 2, 7, 37]), (5, [6]), (6, [0, 1, 7, 63]), (7, [6]), (8, [0, 1, 7, 66]), (9, [6]), (10, [6])]
theorem ac5 {T : Tab} (hT : TabOk Go.Proofs.Try.prog T) {ds : List D} {os : List (Nat × Ob)} {nx : Nat} {Q : D → List (Nat × Ob) → Nat → Prop} (hl : ds.length ≤ 97) (h : awp Go.Proofs.Try.prog T 97 nx lv5 (Go.Proofs.Try.f5.body.getD .skip) (fin Go.Proofs.Try.prog [.tmp 6] Q) ⟨prm 0 ds, os, nx⟩) : ACall Go.Proofs.Try.prog 5 ds os nx Q :=
  acall_intro hT.toS (fn := Go.Proofs.Try.f5) lv5 (by kernel_rfl) rfl rfl (by kernel_rfl) rfl hl rfl h
/-- damson/damsonlaw11.ScoreScales -/
abbrev lv6 : Nat → Option (List Nat) := lvL [(0, [1, 2, 3]), (1, [1, 2, 3, 14]), (2, [6]), (3, [1, 2, 3, 18]), (4, [6]), (5, [1, 2, 3, 7, 8]), (6, [2, 3, 7, 8, 9, 10]), (7, [7, 8, 9, 10, 11, 12]), (8, [7, 8, 9, 11, 47]), (9, [6]), (10, [7, 9, 11, 49]), (11, [6]), (12, [7, 9, 70]), (13, [6]), (14, [6])]
theorem ac6 {T : Tab} (hT : TabOk Go.Proofs.Try.prog T) {ds : List D} {os : List (Nat × Ob)} {nx : Nat} {Q : D → List (Nat × Ob) → Nat → Prop} (hl : ds.length ≤ 93) (h : awp Go.Proofs.Try.prog T 93 nx lv6 (Go.Proofs.Try.f6.body.getD .skip) (fin Go.Proofs.Try.prog [.tmp 6] Q) ⟨prm 0 ds, os, nx⟩) : ACall Go.Proofs.Try.prog 6 ds os nx Q :=
  acall_intro hT.toS (fn := Go.Proofs.Try.f6) lv6 (by kernel_rfl) rfl rfl (by kernel_rfl) rfl hl rfl h
/-- damson/damsonlaw11.ScoreOrder -/
abbrev lv7 : Nat → Option (List Nat) := lvL [(0, [0, 1, 2]), (1, [0, 1, 2, 24]), (2, [6]), (3, [0, 1, 2, 32]), (4, [6]), (5, [0, 1, 2, 7, 8]), (6, [0, 1, 2, 7, 8, 41]), (7, [6]), (8, [0, 1, 2, 7, 9]), (9, [0, 1, 2, 7, 9, 51, 52, 53]), (10, [0, 1, 2, 7, 9, 51, 52, 53, 54]), (11, [0, 1, 2, 7, 9, 11, 51, 52, 53]), (12, [0, 1, 2, 7, 9, 12, 13, 51, 52, 53]), (13, [0, 1, 2, 7, 9, 12, 51, 52, 53, 63]), (14, [6]), (15, [0, 1, 2, 7, 9, 51, 52, 53, 70]), (16, [0, 1, 2, 7, 9, 51, 52, 53]), (17, [0, 1, 2, 7, 9, 51, 52, 53]), (18, [0, 1, 2, 7, 9, 14]), (19, [0, 1, 2, 7, 9, 14, 74, 75, 76]), (20, [0, 1, 2, 7, 9, 14, 74, 75, 76, 77]), (21, [0, 1, 2, 7, 9, 14, 15, 16, 74, 75, 76]), (22, [0, 1, 2, 7, 9, 14, 15, 16, 17, 18, 74, 75, 76]), (23, [0, 1, 2, 7, 9, 14, 15, 16, 17, 18, 19, 20, 74, 75, 76]), (24, [0, 1, 2, 7, 9, 14, 15, 16, 17, 18, 19, 20, 21, 22, 74, 75, 76]), (25, [0, 1, 2, 7, 9, 14, 15, 16, 21, 74, 75, 76, 125]), (26, [6]), (27, [0, 1, 2, 7, 9, 21, 74, 75, 76, 147]), (28, [6]), (29, [0, 1, 2, 7, 9, 14, 74, 75, 76]), (30, [0, 1, 2, 7, 9, 14, 74, 75, 76]), (31, [6])]
@[go_sem] def us7_24 : List Nat := [0, 0, 0, 6, 0, 16, 63, 127, 255, 255, 511, 2047]
theorem ac7 {T : Tab} (hT : TabOk Go.Proofs.Try.prog T) {ds : List D} {os : List (Nat × Ob)} {nx : Nat} {Q : D → List (Nat × Ob) → Nat → Prop} (hl : ds.length ≤ 154) (h : awp Go.Proofs.Try.prog T 154 nx lv7 (Go.Proofs.Try.f7.body.getD .skip) (fin Go.Proofs.Try.prog [.tmp 6] Q) ⟨prm 0 ds, os, nx⟩) : ACall Go.Proofs.Try.prog 7 ds os nx Q :=
  acall_intro hT.toS (fn := Go.Proofs.Try.f7) lv7 (by kernel_rfl) rfl rfl (by kernel_rfl) rfl hl rfl h
/-- damson/damsonlaw11.ScoreHolds -/
abbrev lv8 : Nat → Option (List Nat) := lvL [(0, [0, 1, 2, 3]), (1, [0, 1, 2, 3, 18]), (2, [8]), (3, [0, 1, 2, 3, 30]), (4, [8]), (5, [0, 2, 3, 9, 10]), (6, [0, 2, 3, 9, 10, 39]), (7, [8]), (8, [0, 3, 9, 11, 12]), (9, [0, 3, 9, 11, 12, 61]), (10, [14]), (11, [8]), (12, [9, 12, 15, 16]), (13, [8])]
theorem ac8 {T : Tab} (hT : TabOk Go.Proofs.Try.prog T) {ds : List D} {os : List (Nat × Ob)} {nx : Nat} {Q : D → List (Nat × Ob) → Nat → Prop} (hl : ds.length ≤ 87) (h : awp Go.Proofs.Try.prog T 87 nx lv8 (Go.Proofs.Try.f8.body.getD .skip) (fin Go.Proofs.Try.prog [.tmp 8] Q) ⟨prm 0 ds, os, nx⟩) : ACall Go.Proofs.Try.prog 8 ds os nx Q :=
  acall_intro hT.toS (fn := Go.Proofs.Try.f8) lv8 (by kernel_rfl) rfl rfl (by kernel_rfl) rfl hl rfl h
/-- damson/damsonlaw11.live -/
abbrev lv9 : Nat → Option (List Nat) := lvL [(0, []), (1, [1]), (2, [2, 3]), (3, [0])]
theorem ac9 {T : Tab} (hT : TabOk Go.Proofs.Try.prog T) {ds : List D} {os : List (Nat × Ob)} {nx : Nat} {Q : D → List (Nat × Ob) → Nat → Prop} (hl : ds.length ≤ 22) (h : awp Go.Proofs.Try.prog T 22 nx lv9 (Go.Proofs.Try.f9.body.getD .skip) (fin Go.Proofs.Try.prog [.tmp 0] Q) ⟨prm 0 ds, os, nx⟩) : ACall Go.Proofs.Try.prog 9 ds os nx Q :=
  acall_intro hT.toS (fn := Go.Proofs.Try.f9) lv9 (by kernel_rfl) rfl rfl (by kernel_rfl) rfl hl rfl h
/-- damson/damsonref10.Few -/
abbrev lv10 : Nat → Option (List Nat) := lvL [(0, [0]), (1, [0, 5, 6, 7]), (2, [0, 5, 6, 7, 8]), (3, [0, 4, 5, 6, 7]), (4, [0, 5, 6, 7, 14]), (5, [2]), (6, [0, 5, 6, 7]), (7, [2])]
theorem ac10 {T : Tab} (hT : TabOk Go.Proofs.Try.prog T) {ds : List D} {os : List (Nat × Ob)} {nx : Nat} {Q : D → List (Nat × Ob) → Nat → Prop} (hl : ds.length ≤ 19) (h : awp Go.Proofs.Try.prog T 19 nx lv10 (Go.Proofs.Try.f10.body.getD .skip) (fin Go.Proofs.Try.prog [.tmp 2] Q) ⟨prm 0 ds, os, nx⟩) : ACall Go.Proofs.Try.prog 10 ds os nx Q :=
  acall_intro hT.toS (fn := Go.Proofs.Try.f10) lv10 (by kernel_rfl) rfl rfl (by kernel_rfl) rfl hl rfl h
/-- damson/score.Order -/
abbrev lv11 : Nat → Option (List Nat) := lvL [(0, [0, 1, 2]), (1, [0, 1, 2, 8]), (2, [0, 1, 2, 8, 21]), (3, [6, 7]), (4, [0, 1, 2, 9]), (5, [1, 2, 9, 23, 24, 25]), (6, [1, 2, 9, 23, 24, 25, 26]), (7, [1, 2, 9, 11, 23, 24, 25]), (8, [1, 2, 9, 11, 12, 13, 23, 24, 25]), (9, [1, 2, 9, 11, 23, 24, 25, 46]), (10, [1, 2, 9, 11, 13, 14, 23, 24, 25]), (11, [1, 2, 9, 11, 13, 14, 23, 24, 25, 59]), (12, [6, 7]), (13, [1, 2, 9, 11, 14, 23, 24, 25, 62]), (14, [1, 2, 9, 11, 14, 23, 24, 25]), (15, [1, 2, 9, 23, 24, 25]), (16, [1, 2, 9, 23, 24, 25]), (17, [9]), (18, [9, 15]), (19, [15, 77, 78, 79]), (20, [15, 77, 78, 79, 80]), (21, [15, 16, 17, 77, 78, 79]), (22, [15, 77, 78, 79]), (23, [15, 77, 78, 79]), (24, [6, 7])]
@[go_sem] def us11_10 : List Nat := [0, 0, 0, 4, 14, 0, 32, 127, 255, 511, 511, 1023, 4095]
theorem ac11 {T : Tab} (hT : TabOk Go.Proofs.Try.prog T) {ds : List D} {os : List (Nat × Ob)} {nx : Nat} {Q : D → List (Nat × Ob) → Nat → Prop} (hl : ds.length ≤ 91) (h : awp Go.Proofs.Try.prog T 91 nx lv11 (Go.Proofs.Try.f11.body.getD .skip) (fin Go.Proofs.Try.prog [.tmp 6, .tmp 7] Q) ⟨prm 0 ds, os, nx⟩) : ACall Go.Proofs.Try.prog 11 ds os nx Q :=
  acall_intro hT.toS (fn := Go.Proofs.Try.f11) lv11 (by kernel_rfl) rfl rfl (by kernel_rfl) rfl hl rfl h
/-- damson/channel.Room -/
abbrev lv12 : Nat → Option (List Nat) := lvL [(0, [1]), (1, [1, 4, 6]), (2, [1, 4, 6, 26]), (3, [2, 3]), (4, [1, 4, 6, 7]), (5, [1, 4, 6, 7, 37]), (6, [2, 3]), (7, [2, 3])]
theorem ac12 {T : Tab} (hT : TabOk Go.Proofs.Try.prog T) {ds : List D} {os : List (Nat × Ob)} {nx : Nat} {Q : D → List (Nat × Ob) → Nat → Prop} (hl : ds.length ≤ 45) (h : awp Go.Proofs.Try.prog T 45 nx lv12 (Go.Proofs.Try.f12.body.getD .skip) (fin Go.Proofs.Try.prog [.tmp 2, .tmp 3] Q) ⟨prm 0 ds, os, nx⟩) : ACall Go.Proofs.Try.prog 12 ds os nx Q :=
  acall_intro hT.toS (fn := Go.Proofs.Try.f12) lv12 (by kernel_rfl) rfl rfl (by kernel_rfl) rfl hl rfl h
/-- damson/damsonref01.SameNumbers -/
abbrev lv13 : Nat → Option (List Nat) := lvL [(0, [0, 1]), (1, [0, 1, 10]), (2, [4]), (3, [0, 1, 12, 13]), (4, [0, 1, 12, 13, 14]), (5, [0, 1, 5, 12, 13]), (6, [0, 1, 12, 13, 24]), (7, [4]), (8, [0, 1, 12, 13]), (9, [4])]
@[go_sem] def us13_6 : List Nat := [0, 0, 3, 7, 0, 0, 48, 112, 255]
theorem ac13 {T : Tab} (hT : TabOk Go.Proofs.Try.prog T) {ds : List D} {os : List (Nat × Ob)} {nx : Nat} {Q : D → List (Nat × Ob) → Nat → Prop} (hl : ds.length ≤ 26) (h : awp Go.Proofs.Try.prog T 26 nx lv13 (Go.Proofs.Try.f13.body.getD .skip) (fin Go.Proofs.Try.prog [.tmp 4] Q) ⟨prm 0 ds, os, nx⟩) : ACall Go.Proofs.Try.prog 13 ds os nx Q :=
  acall_intro hT.toS (fn := Go.Proofs.Try.f13) lv13 (by kernel_rfl) rfl rfl (by kernel_rfl) rfl hl rfl h
/-- damson/score.One -/
abbrev lv14 : Nat → Option (List Nat) := lvL [(0, [1, 2, 3]), (1, [1, 2, 3, 8, 9]), (2, [1, 2, 3, 8, 9, 19]), (3, [6, 7]), (4, [1, 2, 8, 9, 10]), (5, [1, 2, 8, 9, 10, 27]), (6, [6, 7]), (7, [1, 10, 11]), (8, [1, 12]), (9, [6, 7])]
theorem ac14 {T : Tab} (hT : TabOk Go.Proofs.Try.prog T) {ds : List D} {os : List (Nat × Ob)} {nx : Nat} {Q : D → List (Nat × Ob) → Nat → Prop} (hl : ds.length ≤ 40) (h : awp Go.Proofs.Try.prog T 40 nx lv14 (Go.Proofs.Try.f14.body.getD .skip) (fin Go.Proofs.Try.prog [.tmp 6, .tmp 7] Q) ⟨prm 0 ds, os, nx⟩) : ACall Go.Proofs.Try.prog 14 ds os nx Q :=
  acall_intro hT.toS (fn := Go.Proofs.Try.f14) lv14 (by kernel_rfl) rfl rfl (by kernel_rfl) rfl hl rfl h
/-- damson/damsonref11.One -/
abbrev lv15 : Nat → Option (List Nat) := lvL [(0, [1, 2, 3]), (1, [1, 2, 3, 8, 9]), (2, [1, 2, 3, 8, 9, 20]), (3, [6, 7]), (4, [1, 2, 8, 10]), (5, [1, 10, 12]), (6, [1, 13]), (7, [6, 7])]
theorem ac15 {T : Tab} (hT : TabOk Go.Proofs.Try.prog T) {ds : List D} {os : List (Nat × Ob)} {nx : Nat} {Q : D → List (Nat × Ob) → Nat → Prop} (hl : ds.length ≤ 38) (h : awp Go.Proofs.Try.prog T 38 nx lv15 (Go.Proofs.Try.f15.body.getD .skip) (fin Go.Proofs.Try.prog [.tmp 6, .tmp 7] Q) ⟨prm 0 ds, os, nx⟩) : ACall Go.Proofs.Try.prog 15 ds os nx Q :=
  acall_intro hT.toS (fn := Go.Proofs.Try.f15) lv15 (by kernel_rfl) rfl rfl (by kernel_rfl) rfl hl rfl h
/-- damson/damsonref11.Order -/
abbrev lv16 : Nat → Option (List Nat) := lvL [(0, [0, 1, 2]), (1, [0, 1, 2, 19]), (2, [6, 7]), (3, [0, 1, 2, 8]), (4, [0, 1, 2, 8, 9]), (5, [1, 2, 8, 9, 20, 21, 22]), (6, [1, 2, 8, 9, 20, 21, 22, 23]), (7, [1, 2, 8, 9, 11, 20, 21, 22]), (8, [1, 2, 8, 9, 11, 12, 20, 21, 22]), (9, [1, 2, 8, 9, 11, 20, 21, 22, 42]), (10, [1, 2, 8, 9, 11, 14, 20, 21, 22]), (11, [1, 2, 8, 9, 11, 14, 16, 20, 21, 22]), (12, [1, 2, 8, 9, 11, 14, 16, 20, 21, 22, 66]), (13, [1, 2, 8, 9, 11, 14, 16, 20, 21, 22]), (14, [1, 2, 8, 9, 14, 16, 20, 21, 22]), (15, [1, 2, 8, 9, 20, 21, 22]), (16, [1, 2, 8, 9, 20, 21, 22]), (17, [6, 7])]
@[go_sem] def us16_10 : List Nat := [0, 0, 0, 4, 14, 0, 32, 127, 255, 511, 511, 1023, 4095]
@[go_sem] def us16_14 : List Nat := [0, 0, 3, 7, 0, 16, 48, 127, 0, 0, 768, 2047, 4095]
@[go_sem] def us16_15 : List Nat := [0, 0, 3, 7, 0, 16, 63, 0, 0, 384, 1023, 2047]
theorem ac16 {T : Tab} (hT : TabOk Go.Proofs.Try.prog T) {ds : List D} {os : List (Nat × Ob)} {nx : Nat} {Q : D → List (Nat × Ob) → Nat → Prop} (hl : ds.length ≤ 94) (h : awp Go.Proofs.Try.prog T 94 nx lv16 (Go.Proofs.Try.f16.body.getD .skip) (fin Go.Proofs.Try.prog [.tmp 6, .tmp 7] Q) ⟨prm 0 ds, os, nx⟩) : ACall Go.Proofs.Try.prog 16 ds os nx Q :=
  acall_intro hT.toS (fn := Go.Proofs.Try.f16) lv16 (by kernel_rfl) rfl rfl (by kernel_rfl) rfl hl rfl h
/-- damson/score.First -/
abbrev lv17 : Nat → Option (List Nat) := lvL [(0, [0, 1, 2]), (1, [8, 9]), (2, [8, 9, 17]), (3, [6, 7]), (4, [8, 21]), (5, [6, 7]), (6, [6, 7])]
theorem ac17 {T : Tab} (hT : TabOk Go.Proofs.Try.prog T) {ds : List D} {os : List (Nat × Ob)} {nx : Nat} {Q : D → List (Nat × Ob) → Nat → Prop} (hl : ds.length ≤ 28) (h : awp Go.Proofs.Try.prog T 28 nx lv17 (Go.Proofs.Try.f17.body.getD .skip) (fin Go.Proofs.Try.prog [.tmp 6, .tmp 7] Q) ⟨prm 0 ds, os, nx⟩) : ACall Go.Proofs.Try.prog 17 ds os nx Q :=
  acall_intro hT.toS (fn := Go.Proofs.Try.f17) lv17 (by kernel_rfl) rfl rfl (by kernel_rfl) rfl hl rfl h
/-- damson/damsonref11.First -/
abbrev lv18 : Nat → Option (List Nat) := lvL [(0, [0, 1, 2]), (1, [8, 9]), (2, [8, 9, 18]), (3, [6, 7]), (4, [8, 22]), (5, [6, 7]), (6, [6, 7])]
theorem ac18 {T : Tab} (hT : TabOk Go.Proofs.Try.prog T) {ds : List D} {os : List (Nat × Ob)} {nx : Nat} {Q : D → List (Nat × Ob) → Nat → Prop} (hl : ds.length ≤ 26) (h : awp Go.Proofs.Try.prog T 26 nx lv18 (Go.Proofs.Try.f18.body.getD .skip) (fin Go.Proofs.Try.prog [.tmp 6, .tmp 7] Q) ⟨prm 0 ds, os, nx⟩) : ACall Go.Proofs.Try.prog 18 ds os nx Q :=
  acall_intro hT.toS (fn := Go.Proofs.Try.f18) lv18 (by kernel_rfl) rfl rfl (by kernel_rfl) rfl hl rfl h
/-- damson/score.Less -/
abbrev lv19 : Nat → Option (List Nat) := lvL [(0, [0, 1]), (1, [4])]
theorem ac19 {T : Tab} (hT : TabOk Go.Proofs.Try.prog T) {ds : List D} {os : List (Nat × Ob)} {nx : Nat} {Q : D → List (Nat × Ob) → Nat → Prop} (hl : ds.length ≤ 9) (h : awp Go.Proofs.Try.prog T 9 nx lv19 (Go.Proofs.Try.f19.body.getD .skip) (fin Go.Proofs.Try.prog [.tmp 4] Q) ⟨prm 0 ds, os, nx⟩) : ACall Go.Proofs.Try.prog 19 ds os nx Q :=
  acall_intro hT.toS (fn := Go.Proofs.Try.f19) lv19 (by kernel_rfl) rfl rfl (by kernel_rfl) rfl hl rfl h
/-- damson/damsonref11.Less -/
abbrev lv20 : Nat → Option (List Nat) := lvL [(0, [0, 1]), (1, [0, 1, 7]), (2, [4]), (3, [4])]
theorem ac20 {T : Tab} (hT : TabOk Go.Proofs.Try.prog T) {ds : List D} {os : List (Nat × Ob)} {nx : Nat} {Q : D → List (Nat × Ob) → Nat → Prop} (hl : ds.length ≤ 14) (h : awp Go.Proofs.Try.prog T 14 nx lv20 (Go.Proofs.Try.f20.body.getD .skip) (fin Go.Proofs.Try.prog [.tmp 4] Q) ⟨prm 0 ds, os, nx⟩) : ACall Go.Proofs.Try.prog 20 ds os nx Q :=
  acall_intro hT.toS (fn := Go.Proofs.Try.f20) lv20 (by kernel_rfl) rfl rfl (by kernel_rfl) rfl hl rfl h
/-- damson/damsonref11.Same -/
abbrev lv21 : Nat → Option (List Nat) := lvL [(0, [0, 1]), (1, [4])]
theorem ac21 {T : Tab} (hT : TabOk Go.Proofs.Try.prog T) {ds : List D} {os : List (Nat × Ob)} {nx : Nat} {Q : D → List (Nat × Ob) → Nat → Prop} (hl : ds.length ≤ 15) (h : awp Go.Proofs.Try.prog T 15 nx lv21 (Go.Proofs.Try.f21.body.getD .skip) (fin Go.Proofs.Try.prog [.tmp 4] Q) ⟨prm 0 ds, os, nx⟩) : ACall Go.Proofs.Try.prog 21 ds os nx Q :=
  acall_intro hT.toS (fn := Go.Proofs.Try.f21) lv21 (by kernel_rfl) rfl rfl (by kernel_rfl) rfl hl rfl h
/-- damson/score.Weigh -/
abbrev lv22 : Nat → Option (List Nat) := lvL [(0, [0, 3]), (1, [0, 5]), (2, [0, 5, 10]), (3, [4]), (4, [4])]
theorem ac22 {T : Tab} (hT : TabOk Go.Proofs.Try.prog T) {ds : List D} {os : List (Nat × Ob)} {nx : Nat} {Q : D → List (Nat × Ob) → Nat → Prop} (hl : ds.length ≤ 16) (h : awp Go.Proofs.Try.prog T 16 nx lv22 (Go.Proofs.Try.f22.body.getD .skip) (fin Go.Proofs.Try.prog [.tmp 4] Q) ⟨prm 0 ds, os, nx⟩) : ACall Go.Proofs.Try.prog 22 ds os nx Q :=
  acall_intro hT.toS (fn := Go.Proofs.Try.f22) lv22 (by kernel_rfl) rfl rfl (by kernel_rfl) rfl hl rfl h
/-- damson/damsonref11.Weigh -/
abbrev lv23 : Nat → Option (List Nat) := lvL [(0, [0, 1]), (1, [1, 7, 8, 9]), (2, [1, 7, 8, 9, 10]), (3, [1, 6, 7, 8, 9]), (4, [1, 6, 7, 8, 9, 16]), (5, [4]), (6, [1, 7, 8, 9]), (7, [4])]
theorem ac23 {T : Tab} (hT : TabOk Go.Proofs.Try.prog T) {ds : List D} {os : List (Nat × Ob)} {nx : Nat} {Q : D → List (Nat × Ob) → Nat → Prop} (hl : ds.length ≤ 20) (h : awp Go.Proofs.Try.prog T 20 nx lv23 (Go.Proofs.Try.f23.body.getD .skip) (fin Go.Proofs.Try.prog [.tmp 4] Q) ⟨prm 0 ds, os, nx⟩) : ACall Go.Proofs.Try.prog 23 ds os nx Q :=
  acall_intro hT.toS (fn := Go.Proofs.Try.f23) lv23 (by kernel_rfl) rfl rfl (by kernel_rfl) rfl hl rfl h
/-- damson/ledger.Check -/
abbrev lv24 : Nat → Option (List Nat) := lvL [(0, [0]), (1, [4]), (2, [2])]
theorem ac24 {T : Tab} (hT : TabOk Go.Proofs.Try.prog T) {ds : List D} {os : List (Nat × Ob)} {nx : Nat} {Q : D → List (Nat × Ob) → Nat → Prop} (hl : ds.length ≤ 11) (h : awp Go.Proofs.Try.prog T 11 nx lv24 (Go.Proofs.Try.f24.body.getD .skip) (fin Go.Proofs.Try.prog [.tmp 2] Q) ⟨prm 0 ds, os, nx⟩) : ACall Go.Proofs.Try.prog 24 ds os nx Q :=
  acall_intro hT.toS (fn := Go.Proofs.Try.f24) lv24 (by kernel_rfl) rfl rfl (by kernel_rfl) rfl hl rfl h
/-- damson/ledger.Get -/
abbrev lv25 : Nat → Option (List Nat) := lvL [(0, [0, 1, 4]), (1, [0, 4, 6, 7]), (2, [0, 4, 6, 7, 15]), (3, [4, 5]), (4, [4, 5])]
theorem ac25 {T : Tab} (hT : TabOk Go.Proofs.Try.prog T) {ds : List D} {os : List (Nat × Ob)} {nx : Nat} {Q : D → List (Nat × Ob) → Nat → Prop} (hl : ds.length ≤ 23) (h : awp Go.Proofs.Try.prog T 23 nx lv25 (Go.Proofs.Try.f25.body.getD .skip) (fin Go.Proofs.Try.prog [.cell 4 33, .tmp 5] Q) ⟨prm 0 ds, os, nx⟩) : ACall Go.Proofs.Try.prog 25 ds os nx Q :=
  acall_intro hT.toS (fn := Go.Proofs.Try.f25) lv25 (by kernel_rfl) rfl rfl (by kernel_rfl) rfl hl rfl h
/-- damson/ledger.Hold -/
abbrev lv26 : Nat → Option (List Nat) := lvL [(0, [1, 4, 6, 7]), (1, [8, 9])]
theorem ac26 {T : Tab} (hT : TabOk Go.Proofs.Try.prog T) {ds : List D} {os : List (Nat × Ob)} {nx : Nat} {Q : D → List (Nat × Ob) → Nat → Prop} (hl : ds.length ≤ 16) (h : awp Go.Proofs.Try.prog T 16 nx lv26 (Go.Proofs.Try.f26.body.getD .skip) (fin Go.Proofs.Try.prog [.tmp 8, .tmp 9] Q) ⟨prm 0 ds, os, nx⟩) : ACall Go.Proofs.Try.prog 26 ds os nx Q :=
  acall_intro hT.toS (fn := Go.Proofs.Try.f26) lv26 (by kernel_rfl) rfl rfl (by kernel_rfl) rfl hl rfl h
/-- damson/ledger.Where -/
abbrev lv27 : Nat → Option (List Nat) := lvL [(0, [0, 1]), (1, [0, 1, 6, 7]), (2, [0, 1, 6, 7, 16]), (3, [4, 5]), (4, [0, 8, 9]), (5, [0, 8, 25]), (6, [4, 5]), (7, [4, 5])]
theorem ac27 {T : Tab} (hT : TabOk Go.Proofs.Try.prog T) {ds : List D} {os : List (Nat × Ob)} {nx : Nat} {Q : D → List (Nat × Ob) → Nat → Prop} (hl : ds.length ≤ 31) (h : awp Go.Proofs.Try.prog T 31 nx lv27 (Go.Proofs.Try.f27.body.getD .skip) (fin Go.Proofs.Try.prog [.tmp 4, .tmp 5] Q) ⟨prm 0 ds, os, nx⟩) : ACall Go.Proofs.Try.prog 27 ds os nx Q :=
  acall_intro hT.toS (fn := Go.Proofs.Try.f27) lv27 (by kernel_rfl) rfl rfl (by kernel_rfl) rfl hl rfl h
/-- math.IsNaN -/
abbrev lv28 : Nat → Option (List Nat) := lvL [(0, [0]), (1, [2])]
theorem ac28 {T : Tab} (hT : TabOk Go.Proofs.Try.prog T) {ds : List D} {os : List (Nat × Ob)} {nx : Nat} {Q : D → List (Nat × Ob) → Nat → Prop} (hl : ds.length ≤ 6) (h : awp Go.Proofs.Try.prog T 6 nx lv28 (Go.Proofs.Try.f28.body.getD .skip) (fin Go.Proofs.Try.prog [.tmp 2] Q) ⟨prm 0 ds, os, nx⟩) : ACall Go.Proofs.Try.prog 28 ds os nx Q :=
  acall_intro hT.toS (fn := Go.Proofs.Try.f28) lv28 (by kernel_rfl) rfl rfl (by kernel_rfl) rfl hl rfl h
/-- math.NaN -/
abbrev lv29 : Nat → Option (List Nat) := lvL [(0, []), (1, [0])]
theorem ac29 {T : Tab} (hT : TabOk Go.Proofs.Try.prog T) {ds : List D} {os : List (Nat × Ob)} {nx : Nat} {Q : D → List (Nat × Ob) → Nat → Prop} (hl : ds.length ≤ 2) (h : awp Go.Proofs.Try.prog T 2 nx lv29 (Go.Proofs.Try.f29.body.getD .skip) (fin Go.Proofs.Try.prog [.tmp 0] Q) ⟨prm 0 ds, os, nx⟩) : ACall Go.Proofs.Try.prog 29 ds os nx Q :=
  acall_intro hT.toS (fn := Go.Proofs.Try.f29) lv29 (by kernel_rfl) rfl rfl (by kernel_rfl) rfl hl rfl h
/-- slices.SortFunc[[]damson/score.mark,damson/score.mark] -/
abbrev lv30 : Nat → Option (List Nat) := lvL [(0, [0, 1, 4]), (1, [])]
theorem ac30 {T : Tab} (hT : TabOk Go.Proofs.Try.prog T) {ds : List D} {os : List (Nat × Ob)} {nx : Nat} {Q : D → List (Nat × Ob) → Nat → Prop} (hl : ds.length ≤ 14) (h : awp Go.Proofs.Try.prog T 14 nx lv30 (Go.Proofs.Try.f30.body.getD .skip) (fin Go.Proofs.Try.prog [] Q) ⟨prm 0 ds, os, nx⟩) : ACall Go.Proofs.Try.prog 30 ds os nx Q :=
  acall_intro hT.toS (fn := Go.Proofs.Try.f30) lv30 (by kernel_rfl) rfl rfl (by kernel_rfl) rfl hl rfl h
/-- damson/score.Order$1 -/
abbrev lv31 : Nat → Option (List Nat) := lvL [(0, [2, 3]), (1, [4])]
@[go_sem] def us31_1 : List Nat := [0, 1, 0, 4, 15, 0, 32, 0, 128, 511, 1023, 2047, 4095]
theorem ac31 {T : Tab} (hT : TabOk Go.Proofs.Try.prog T) {ds : List D} {os : List (Nat × Ob)} {nx : Nat} {Q : D → List (Nat × Ob) → Nat → Prop} (hl : ds.length ≤ 17) (h : awp Go.Proofs.Try.prog T 17 nx lv31 (Go.Proofs.Try.f31.body.getD .skip) (fin Go.Proofs.Try.prog [.tmp 4] Q) ⟨prm 0 ds, os, nx⟩) : ACall Go.Proofs.Try.prog 31 ds os nx Q :=
  acall_intro hT.toS (fn := Go.Proofs.Try.f31) lv31 (by kernel_rfl) rfl rfl (by kernel_rfl) rfl hl rfl h
/-- cmp.Or[int] -/
abbrev lv32 : Nat → Option (List Nat) := lvL [(0, [0]), (1, [0, 3]), (2, [3, 6, 7, 8]), (3, [3, 6, 7, 8, 9]), (4, [3, 5, 6, 7, 8]), (5, [3, 5, 6, 7, 8, 14]), (6, [2]), (7, [3, 6, 7, 8]), (8, [2])]
theorem ac32 {T : Tab} (hT : TabOk Go.Proofs.Try.prog T) {ds : List D} {os : List (Nat × Ob)} {nx : Nat} {Q : D → List (Nat × Ob) → Nat → Prop} (hl : ds.length ≤ 18) (h : awp Go.Proofs.Try.prog T 18 nx lv32 (Go.Proofs.Try.f32.body.getD .skip) (fin Go.Proofs.Try.prog [.tmp 2] Q) ⟨prm 0 ds, os, nx⟩) : ACall Go.Proofs.Try.prog 32 ds os nx Q :=
  acall_intro hT.toS (fn := Go.Proofs.Try.f32) lv32 (by kernel_rfl) rfl rfl (by kernel_rfl) rfl hl rfl h
/-- cmp.Compare[float64] -/
abbrev lv33 : Nat → Option (List Nat) := lvL [(0, [0, 1]), (1, [0, 1, 5]), (2, [0, 1, 5, 6]), (3, [0, 1, 6, 11]), (4, [12]), (5, [4]), (6, [4]), (7, [0, 1, 13]), (8, [4]), (9, [0, 1, 16]), (10, [4]), (11, [19]), (12, [4]), (13, [4])]
theorem ac33 {T : Tab} (hT : TabOk Go.Proofs.Try.prog T) {ds : List D} {os : List (Nat × Ob)} {nx : Nat} {Q : D → List (Nat × Ob) → Nat → Prop} (hl : ds.length ≤ 20) (h : awp Go.Proofs.Try.prog T 20 nx lv33 (Go.Proofs.Try.f33.body.getD .skip) (fin Go.Proofs.Try.prog [.tmp 4] Q) ⟨prm 0 ds, os, nx⟩) : ACall Go.Proofs.Try.prog 33 ds os nx Q :=
  acall_intro hT.toS (fn := Go.Proofs.Try.f33) lv33 (by kernel_rfl) rfl rfl (by kernel_rfl) rfl hl rfl h
/-- cmp.Compare[uint64] -/
abbrev lv34 : Nat → Option (List Nat) := lvL [(0, [0, 1]), (1, [0, 1, 5]), (2, [0, 1, 5, 6]), (3, [0, 1, 6, 11]), (4, [12]), (5, [4]), (6, [4]), (7, [0, 1, 13]), (8, [4]), (9, [0, 1, 16]), (10, [4]), (11, [19]), (12, [4]), (13, [4])]
theorem ac34 {T : Tab} (hT : TabOk Go.Proofs.Try.prog T) {ds : List D} {os : List (Nat × Ob)} {nx : Nat} {Q : D → List (Nat × Ob) → Nat → Prop} (hl : ds.length ≤ 20) (h : awp Go.Proofs.Try.prog T 20 nx lv34 (Go.Proofs.Try.f34.body.getD .skip) (fin Go.Proofs.Try.prog [.tmp 4] Q) ⟨prm 0 ds, os, nx⟩) : ACall Go.Proofs.Try.prog 34 ds os nx Q :=
  acall_intro hT.toS (fn := Go.Proofs.Try.f34) lv34 (by kernel_rfl) rfl rfl (by kernel_rfl) rfl hl rfl h
/-- damson/channel.sums -/
abbrev lv35 : Nat → Option (List Nat) := lvL [(0, [1, 2]), (1, [1, 2, 30]), (2, [2, 3, 4]), (3, [1, 2, 32, 33, 34]), (4, [1, 2, 32, 33, 34, 35]), (5, [1, 2, 5, 6, 32, 33, 34]), (6, [1, 2, 6, 32, 33, 34, 57]), (7, [2, 3, 4]), (8, [1, 2, 4, 32, 33, 34]), (9, [1, 2, 32, 33, 34, 73]), (10, [2, 3, 4]), (11, [1, 2, 32, 33, 34]), (12, [2, 3, 4]), (13, [2, 3, 86]), (14, [2, 3, 4]), (15, [2, 3, 4])]
@[go_sem] def us35_6 : List Nat := [0, 1, 3, 7, 15, 31, 63, 127, 255, 127, 639, 2047, 4095, 127, 8319, 32767, 65535, 131071, 262143]
theorem ac35 {T : Tab} (hT : TabOk Go.Proofs.Try.prog T) {ds : List D} {os : List (Nat × Ob)} {nx : Nat} {Q : D → List (Nat × Ob) → Nat → Prop} (hl : ds.length ≤ 89) (h : awp Go.Proofs.Try.prog T 89 nx lv35 (Go.Proofs.Try.f35.body.getD .skip) (fin Go.Proofs.Try.prog [.tmp 2, .tmp 3, .tmp 4] Q) ⟨prm 0 ds, os, nx⟩) : ACall Go.Proofs.Try.prog 35 ds os nx Q :=
  acall_intro hT.toS (fn := Go.Proofs.Try.f35) lv35 (by kernel_rfl) rfl rfl (by kernel_rfl) rfl hl rfl h
/-- damson/money.Sub -/
abbrev lv36 : Nat → Option (List Nat) := lvL [(0, [0, 1]), (1, [0, 1, 6, 7]), (2, [6, 7, 14]), (3, [4, 5]), (4, [6, 20]), (5, [4, 5]), (6, [4, 5])]
theorem ac36 {T : Tab} (hT : TabOk Go.Proofs.Try.prog T) {ds : List D} {os : List (Nat × Ob)} {nx : Nat} {Q : D → List (Nat × Ob) → Nat → Prop} (hl : ds.length ≤ 24) (h : awp Go.Proofs.Try.prog T 24 nx lv36 (Go.Proofs.Try.f36.body.getD .skip) (fin Go.Proofs.Try.prog [.tmp 4, .tmp 5] Q) ⟨prm 0 ds, os, nx⟩) : ACall Go.Proofs.Try.prog 36 ds os nx Q :=
  acall_intro hT.toS (fn := Go.Proofs.Try.f36) lv36 (by kernel_rfl) rfl rfl (by kernel_rfl) rfl hl rfl h
/-- damson/channel.All -/
abbrev lv37 : Nat → Option (List Nat) := lvL [(0, [1]), (1, [5, 6]), (2, [2, 3])]
theorem ac37 {T : Tab} (hT : TabOk Go.Proofs.Try.prog T) {ds : List D} {os : List (Nat × Ob)} {nx : Nat} {Q : D → List (Nat × Ob) → Nat → Prop} (hl : ds.length ≤ 15) (h : awp Go.Proofs.Try.prog T 15 nx lv37 (Go.Proofs.Try.f37.body.getD .skip) (fin Go.Proofs.Try.prog [.tmp 2, .tmp 3] Q) ⟨prm 0 ds, os, nx⟩) : ACall Go.Proofs.Try.prog 37 ds os nx Q :=
  acall_intro hT.toS (fn := Go.Proofs.Try.f37) lv37 (by kernel_rfl) rfl rfl (by kernel_rfl) rfl hl rfl h
/-- damson/damsonref09.Room -/
abbrev lv38 : Nat → Option (List Nat) := lvL [(0, [1]), (1, [1, 4, 5]), (2, [1, 4, 5, 12]), (3, [2, 3]), (4, [1, 4, 29]), (5, [2, 3]), (6, [2, 3])]
theorem ac38 {T : Tab} (hT : TabOk Go.Proofs.Try.prog T) {ds : List D} {os : List (Nat × Ob)} {nx : Nat} {Q : D → List (Nat × Ob) → Nat → Prop} (hl : ds.length ≤ 40) (h : awp Go.Proofs.Try.prog T 40 nx lv38 (Go.Proofs.Try.f38.body.getD .skip) (fin Go.Proofs.Try.prog [.tmp 2, .tmp 3] Q) ⟨prm 0 ds, os, nx⟩) : ACall Go.Proofs.Try.prog 38 ds os nx Q :=
  acall_intro hT.toS (fn := Go.Proofs.Try.f38) lv38 (by kernel_rfl) rfl rfl (by kernel_rfl) rfl hl rfl h
/-- damson/damsonref09.All -/
abbrev lv39 : Nat → Option (List Nat) := lvL [(0, [1]), (1, [1, 4, 5]), (2, [1, 4, 5, 12]), (3, [2, 3]), (4, [2, 3])]
theorem ac39 {T : Tab} (hT : TabOk Go.Proofs.Try.prog T) {ds : List D} {os : List (Nat × Ob)} {nx : Nat} {Q : D → List (Nat × Ob) → Nat → Prop} (hl : ds.length ≤ 23) (h : awp Go.Proofs.Try.prog T 23 nx lv39 (Go.Proofs.Try.f39.body.getD .skip) (fin Go.Proofs.Try.prog [.tmp 2, .tmp 3] Q) ⟨prm 0 ds, os, nx⟩) : ACall Go.Proofs.Try.prog 39 ds os nx Q :=
  acall_intro hT.toS (fn := Go.Proofs.Try.f39) lv39 (by kernel_rfl) rfl rfl (by kernel_rfl) rfl hl rfl h
/-- damson/damsonref10.Check -/
abbrev lv40 : Nat → Option (List Nat) := lvL [(0, [0]), (1, [0, 11]), (2, [2]), (3, [0, 12, 13, 14]), (4, [0, 12, 13, 14, 15]), (5, [0, 3, 4, 12, 13, 14]), (6, [0, 3, 4, 12, 13, 14, 36]), (7, [2]), (8, [0, 3, 12, 13, 14, 38, 39, 40]), (9, [0, 3, 12, 13, 14, 38, 39, 40, 41]), (10, [0, 3, 6, 12, 13, 14, 38, 39, 40]), (11, [0, 3, 12, 13, 14, 38, 39, 40, 50]), (12, [2]), (13, [0, 3, 12, 13, 14, 38, 39, 40]), (14, [0, 12, 13, 14]), (15, [8]), (16, [59]), (17, [2]), (18, [2])]
@[go_sem] def us40_6 : List Nat := [0, 1, 3, 7, 15, 31, 63, 127, 127, 383, 1023, 2047, 4095, 127, 8319, 32767, 65535, 131071]
@[go_sem] def us40_11 : List Nat := [0, 0, 3, 0, 8, 31, 63]
theorem ac40 {T : Tab} (hT : TabOk Go.Proofs.Try.prog T) {ds : List D} {os : List (Nat × Ob)} {nx : Nat} {Q : D → List (Nat × Ob) → Nat → Prop} (hl : ds.length ≤ 60) (h : awp Go.Proofs.Try.prog T 60 nx lv40 (Go.Proofs.Try.f40.body.getD .skip) (fin Go.Proofs.Try.prog [.tmp 2] Q) ⟨prm 0 ds, os, nx⟩) : ACall Go.Proofs.Try.prog 40 ds os nx Q :=
  acall_intro hT.toS (fn := Go.Proofs.Try.f40) lv40 (by kernel_rfl) rfl rfl (by kernel_rfl) rfl hl rfl h
/-- slices.IndexFunc[[]damson/api.Weight,damson/api.Weight] -/
abbrev lv41 : Nat → Option (List Nat) := lvL [(0, [0, 1]), (1, [0, 1, 7, 8]), (2, [0, 1, 7, 8, 9]), (3, [0, 1, 5, 7, 8]), (4, [0, 1, 5, 7, 8, 16]), (5, [4]), (6, [0, 1, 7, 8]), (7, [4])]
theorem ac41 {T : Tab} (hT : TabOk Go.Proofs.Try.prog T) {ds : List D} {os : List (Nat × Ob)} {nx : Nat} {Q : D → List (Nat × Ob) → Nat → Prop} (hl : ds.length ≤ 19) (h : awp Go.Proofs.Try.prog T 19 nx lv41 (Go.Proofs.Try.f41.body.getD .skip) (fin Go.Proofs.Try.prog [.tmp 4] Q) ⟨prm 0 ds, os, nx⟩) : ACall Go.Proofs.Try.prog 41 ds os nx Q :=
  acall_intro hT.toS (fn := Go.Proofs.Try.f41) lv41 (by kernel_rfl) rfl rfl (by kernel_rfl) rfl hl rfl h
/-- damson/score.Weigh$1 -/
abbrev lv42 : Nat → Option (List Nat) := lvL [(0, [1, 2]), (1, [3])]
theorem ac42 {T : Tab} (hT : TabOk Go.Proofs.Try.prog T) {ds : List D} {os : List (Nat × Ob)} {nx : Nat} {Q : D → List (Nat × Ob) → Nat → Prop} (hl : ds.length ≤ 8) (h : awp Go.Proofs.Try.prog T 8 nx lv42 (Go.Proofs.Try.f42.body.getD .skip) (fin Go.Proofs.Try.prog [.tmp 3] Q) ⟨prm 0 ds, os, nx⟩) : ACall Go.Proofs.Try.prog 42 ds os nx Q :=
  acall_intro hT.toS (fn := Go.Proofs.Try.f42) lv42 (by kernel_rfl) rfl rfl (by kernel_rfl) rfl hl rfl h
/-- damson/ledger.read -/
abbrev lv43 : Nat → Option (List Nat) := lvL [(0, [0]), (1, [0, 16]), (2, [2, 3]), (3, [0, 4, 5]), (4, [0, 4, 5, 18, 19, 20]), (5, [0, 4, 5, 18, 19, 20, 21]), (6, [0, 4, 5, 6, 7, 18, 19, 20]), (7, [0, 4, 5, 6, 7, 8, 9, 18, 19, 20]), (8, [0, 4, 5, 6, 7, 8, 18, 19, 20, 46]), (9, [2, 3]), (10, [0, 4, 5, 6, 7, 9, 18, 19, 20]), (11, [0, 4, 5, 6, 7, 18, 19, 20, 55]), (12, [2, 3]), (13, [0, 4, 5, 6, 18, 19, 20, 57, 58, 59]), (14, [0, 4, 5, 6, 18, 19, 20, 57, 58, 59, 60]), (15, [0, 4, 5, 6, 11, 18, 19, 20, 57, 58, 59]), (16, [0, 4, 5, 6, 11, 13, 18, 19, 20, 57, 58, 59]), (17, [0, 4, 5, 6, 11, 18, 19, 20, 57, 58, 59, 70]), (18, [2, 3]), (19, [0, 4, 5, 6, 18, 19, 20, 57, 58, 59]), (20, [0, 4, 5, 6, 18, 19, 20, 57, 58, 59]), (21, [0, 4, 5, 18, 19, 20]), (22, [2, 3])]
@[go_sem] def us43_8 : List Nat := [0, 1, 3, 7, 15, 31, 63, 63, 191, 511, 1023, 63, 2111, 8191, 16383, 32767, 65535]
theorem ac43 {T : Tab} (hT : TabOk Go.Proofs.Try.prog T) {ds : List D} {os : List (Nat × Ob)} {nx : Nat} {Q : D → List (Nat × Ob) → Nat → Prop} (hl : ds.length ≤ 78) (h : awp Go.Proofs.Try.prog T 78 nx lv43 (Go.Proofs.Try.f43.body.getD .skip) (fin Go.Proofs.Try.prog [.tmp 2, .tmp 3] Q) ⟨prm 0 ds, os, nx⟩) : ACall Go.Proofs.Try.prog 43 ds os nx Q :=
  acall_intro hT.toS (fn := Go.Proofs.Try.f43) lv43 (by kernel_rfl) rfl rfl (by kernel_rfl) rfl hl rfl h
/-- damson/ledger.place -/
abbrev lv44 : Nat → Option (List Nat) := lvL [(0, [0, 1]), (1, [0, 1, 6]), (2, [0, 1, 6, 12]), (3, [4, 5]), (4, [7, 8]), (5, [7, 21]), (6, [4, 5]), (7, [4, 5])]
theorem ac44 {T : Tab} (hT : TabOk Go.Proofs.Try.prog T) {ds : List D} {os : List (Nat × Ob)} {nx : Nat} {Q : D → List (Nat × Ob) → Nat → Prop} (hl : ds.length ≤ 23) (h : awp Go.Proofs.Try.prog T 23 nx lv44 (Go.Proofs.Try.f44.body.getD .skip) (fin Go.Proofs.Try.prog [.tmp 4, .tmp 5] Q) ⟨prm 0 ds, os, nx⟩) : ACall Go.Proofs.Try.prog 44 ds os nx Q :=
  acall_intro hT.toS (fn := Go.Proofs.Try.f44) lv44 (by kernel_rfl) rfl rfl (by kernel_rfl) rfl hl rfl h
/-- damson/ledger.own -/
abbrev lv45 : Nat → Option (List Nat) := lvL [(0, [1, 2]), (1, [1, 2]), (2, [2])]
theorem ac45 {T : Tab} (hT : TabOk Go.Proofs.Try.prog T) {ds : List D} {os : List (Nat × Ob)} {nx : Nat} {Q : D → List (Nat × Ob) → Nat → Prop} (hl : ds.length ≤ 8) (h : awp Go.Proofs.Try.prog T 8 nx lv45 (Go.Proofs.Try.f45.body.getD .skip) (fin Go.Proofs.Try.prog [.cell 2 33] Q) ⟨prm 0 ds, os, nx⟩) : ACall Go.Proofs.Try.prog 45 ds os nx Q :=
  acall_intro hT.toS (fn := Go.Proofs.Try.f45) lv45 (by kernel_rfl) rfl rfl (by kernel_rfl) rfl hl rfl h
/-- damson/ledger.change -/
abbrev lv46 : Nat → Option (List Nat) := lvL [(0, [0, 1, 2]), (1, [0, 2, 8, 9]), (2, [0, 2, 8, 9, 18]), (3, [6, 7]), (4, [0, 8, 9, 10]), (5, [0, 8, 9, 10, 30]), (6, [6, 7]), (7, [0, 8, 10]), (8, [0]), (9, [6, 7])]
theorem ac46 {T : Tab} (hT : TabOk Go.Proofs.Try.prog T) {ds : List D} {os : List (Nat × Ob)} {nx : Nat} {Q : D → List (Nat × Ob) → Nat → Prop} (hl : ds.length ≤ 39) (h : awp Go.Proofs.Try.prog T 39 nx lv46 (Go.Proofs.Try.f46.body.getD .skip) (fin Go.Proofs.Try.prog [.tmp 6, .tmp 7] Q) ⟨prm 0 ds, os, nx⟩) : ACall Go.Proofs.Try.prog 46 ds os nx Q :=
  acall_intro hT.toS (fn := Go.Proofs.Try.f46) lv46 (by kernel_rfl) rfl rfl (by kernel_rfl) rfl hl rfl h
/-- damson/ledger.Hold$1 -/
abbrev lv47 : Nat → Option (List Nat) := lvL [(0, [1, 2, 3, 4, 5]), (1, [2, 3, 4, 5, 8]), (2, [2, 3, 4, 5, 16]), (3, [5, 6]), (4, [5, 6])]
theorem ac47 {T : Tab} (hT : TabOk Go.Proofs.Try.prog T) {ds : List D} {os : List (Nat × Ob)} {nx : Nat} {Q : D → List (Nat × Ob) → Nat → Prop} (hl : ds.length ≤ 24) (h : awp Go.Proofs.Try.prog T 24 nx lv47 (Go.Proofs.Try.f47.body.getD .skip) (fin Go.Proofs.Try.prog [.cell 5 33, .tmp 6] Q) ⟨prm 0 ds, os, nx⟩) : ACall Go.Proofs.Try.prog 47 ds os nx Q :=
  acall_intro hT.toS (fn := Go.Proofs.Try.f47) lv47 (by kernel_rfl) rfl rfl (by kernel_rfl) rfl hl rfl h
/-- damson/channel.Hold -/
abbrev lv48 : Nat → Option (List Nat) := lvL [(0, [1, 2, 3, 6]), (1, [1, 2, 3, 6, 8, 10]), (2, [1, 2, 3, 6, 8, 10, 11, 12]), (3, [1, 2, 3, 6, 8, 11, 12, 26]), (4, [6, 7]), (5, [1, 2, 3, 6, 8, 11, 12, 40]), (6, [6, 7]), (7, [1, 2, 3, 6, 8, 11, 45]), (8, [6, 7]), (9, [1, 2, 3, 6, 8, 11, 48]), (10, [6, 7]), (11, [1, 2, 3, 6, 8, 11, 54]), (12, [6, 7]), (13, [1, 2, 3, 6, 11, 70]), (14, [6, 7]), (15, [1, 2, 3, 6, 11]), (16, [3, 6]), (17, [6, 7])]
theorem ac48 {T : Tab} (hT : TabOk Go.Proofs.Try.prog T) {ds : List D} {os : List (Nat × Ob)} {nx : Nat} {Q : D → List (Nat × Ob) → Nat → Prop} (hl : ds.length ≤ 94) (h : awp Go.Proofs.Try.prog T 94 nx lv48 (Go.Proofs.Try.f48.body.getD .skip) (fin Go.Proofs.Try.prog [.cell 6 33, .tmp 7] Q) ⟨prm 0 ds, os, nx⟩) : ACall Go.Proofs.Try.prog 48 ds os nx Q :=
  acall_intro hT.toS (fn := Go.Proofs.Try.f48) lv48 (by kernel_rfl) rfl rfl (by kernel_rfl) rfl hl rfl h
/-- slices.pdqsortCmpFunc[damson/score.mark] -/
abbrev lv50 : Nat → Option (List Nat) := lvL [(0, [0, 1, 2, 3, 4, 10]), (1, [0, 1, 2, 3, 4, 10, 11]), (2, [0, 1, 2, 3, 4, 10, 11, 12]), (3, [0, 1, 2, 3, 4, 10, 11, 12, 25]), (4, []), (5, [0, 1, 2, 3, 4, 10, 11, 12, 32]), (6, []), (7, [0, 1, 2, 3, 4, 10, 11, 12, 39]), (8, [0, 1, 2, 3, 4, 10, 11, 12]), (9, [0, 1, 2, 3, 4, 10, 11, 12]), (10, [0, 1, 2, 3, 4, 10, 11, 12, 13, 14]), (11, [0, 1, 2, 3, 4, 10, 11, 12, 13, 14, 56]), (12, [0, 1, 2, 3, 4, 10, 11, 12, 13]), (13, [0, 1, 2, 3, 4, 10, 11, 12, 13]), (14, [0, 1, 2, 3, 4, 10, 11, 12, 13, 14]), (15, [0, 1, 2, 3, 4, 10, 11, 12, 13, 75]), (16, [0, 1, 2, 3, 4, 10, 11, 12, 13, 80]), (17, [0, 1, 2, 3, 4, 10, 11, 12, 13, 97]), (18, [0, 2, 3, 4, 10, 11, 15]), (19, [0, 1, 2, 3, 4, 10, 11]), (20, [0, 1, 2, 3, 4, 12, 16, 17]), (21, [0, 1, 2, 3, 4, 11, 12, 16]), (22, [0, 1, 2, 3, 4, 11, 12, 16, 18, 19]), (23, [0, 1, 2, 3, 4, 11, 16, 18, 19, 20]), (24, [0, 1, 2, 3, 4, 11, 16, 18, 19, 20, 125]), (25, [0, 1, 2, 3, 4, 10, 11, 16]), (26, [0, 2, 3, 4, 10, 11, 16]), (27, [0, 1, 2, 3, 4, 10, 11]), (28, [0, 1, 2, 3, 4, 10, 11, 16]), (29, [0, 1, 3, 4, 10, 11, 16]), (30, [0, 1, 2, 3, 4, 10, 11])]
@[go_sem] def us50_17 : List Nat := [0, 1, 3, 7, 7, 7, 39, 119, 247, 7, 7, 1543, 3591, 8191, 16383, 32767, 65535]
theorem ac50 {T : Tab} (hT : TabOk Go.Proofs.Try.prog T) {ds : List D} {os : List (Nat × Ob)} {nx : Nat} {Q : D → List (Nat × Ob) → Nat → Prop} (hl : ds.length ≤ 148) (h : awp Go.Proofs.Try.prog T 148 nx lv50 (Go.Proofs.Try.f50.body.getD .skip) (fin Go.Proofs.Try.prog [] Q) ⟨prm 0 ds, os, nx⟩) : ACall Go.Proofs.Try.prog 50 ds os nx Q :=
  acall_intro hT.toS (fn := Go.Proofs.Try.f50) lv50 (by kernel_rfl) rfl rfl (by kernel_rfl) rfl hl rfl h
/-- math/bits.Len -/
abbrev lv51 : Nat → Option (List Nat) := lvL [(0, [0]), (1, [2]), (2, [2])]
theorem ac51 {T : Tab} (hT : TabOk Go.Proofs.Try.prog T) {ds : List D} {os : List (Nat × Ob)} {nx : Nat} {Q : D → List (Nat × Ob) → Nat → Prop} (hl : ds.length ≤ 8) (h : awp Go.Proofs.Try.prog T 8 nx lv51 (Go.Proofs.Try.f51.body.getD .skip) (fin Go.Proofs.Try.prog [.tmp 2] Q) ⟨prm 0 ds, os, nx⟩) : ACall Go.Proofs.Try.prog 51 ds os nx Q :=
  acall_intro hT.toS (fn := Go.Proofs.Try.f51) lv51 (by kernel_rfl) rfl rfl (by kernel_rfl) rfl hl rfl h
/-- cmp.isNaN[float64] -/
abbrev lv52 : Nat → Option (List Nat) := lvL [(0, [0]), (1, [2])]
theorem ac52 {T : Tab} (hT : TabOk Go.Proofs.Try.prog T) {ds : List D} {os : List (Nat × Ob)} {nx : Nat} {Q : D → List (Nat × Ob) → Nat → Prop} (hl : ds.length ≤ 6) (h : awp Go.Proofs.Try.prog T 6 nx lv52 (Go.Proofs.Try.f52.body.getD .skip) (fin Go.Proofs.Try.prog [.tmp 2] Q) ⟨prm 0 ds, os, nx⟩) : ACall Go.Proofs.Try.prog 52 ds os nx Q :=
  acall_intro hT.toS (fn := Go.Proofs.Try.f52) lv52 (by kernel_rfl) rfl rfl (by kernel_rfl) rfl hl rfl h
/-- cmp.isNaN[uint64] -/
abbrev lv53 : Nat → Option (List Nat) := lvL [(0, [0]), (1, [2])]
theorem ac53 {T : Tab} (hT : TabOk Go.Proofs.Try.prog T) {ds : List D} {os : List (Nat × Ob)} {nx : Nat} {Q : D → List (Nat × Ob) → Nat → Prop} (hl : ds.length ≤ 6) (h : awp Go.Proofs.Try.prog T 6 nx lv53 (Go.Proofs.Try.f53.body.getD .skip) (fin Go.Proofs.Try.prog [.tmp 2] Q) ⟨prm 0 ds, os, nx⟩) : ACall Go.Proofs.Try.prog 53 ds os nx Q :=
  acall_intro hT.toS (fn := Go.Proofs.Try.f53) lv53 (by kernel_rfl) rfl rfl (by kernel_rfl) rfl hl rfl h
/-- damson/money.Check -/
abbrev lv54 : Nat → Option (List Nat) := lvL [(0, [0]), (1, [10]), (2, [2]), (3, [2])]
theorem ac54 {T : Tab} (hT : TabOk Go.Proofs.Try.prog T) {ds : List D} {os : List (Nat × Ob)} {nx : Nat} {Q : D → List (Nat × Ob) → Nat → Prop} (hl : ds.length ≤ 11) (h : awp Go.Proofs.Try.prog T 11 nx lv54 (Go.Proofs.Try.f54.body.getD .skip) (fin Go.Proofs.Try.prog [.tmp 2] Q) ⟨prm 0 ds, os, nx⟩) : ACall Go.Proofs.Try.prog 54 ds os nx Q :=
  acall_intro hT.toS (fn := Go.Proofs.Try.f54) lv54 (by kernel_rfl) rfl rfl (by kernel_rfl) rfl hl rfl h
/-- damson/channel.order -/
abbrev lv55 : Nat → Option (List Nat) := lvL [(0, [1, 2]), (1, [4])]
theorem ac55 {T : Tab} (hT : TabOk Go.Proofs.Try.prog T) {ds : List D} {os : List (Nat × Ob)} {nx : Nat} {Q : D → List (Nat × Ob) → Nat → Prop} (hl : ds.length ≤ 9) (h : awp Go.Proofs.Try.prog T 9 nx lv55 (Go.Proofs.Try.f55.body.getD .skip) (fin Go.Proofs.Try.prog [.tmp 4] Q) ⟨prm 0 ds, os, nx⟩) : ACall Go.Proofs.Try.prog 55 ds os nx Q :=
  acall_intro hT.toS (fn := Go.Proofs.Try.f55) lv55 (by kernel_rfl) rfl rfl (by kernel_rfl) rfl hl rfl h
/-- damson/money.Add -/
abbrev lv56 : Nat → Option (List Nat) := lvL [(0, [0, 2]), (1, [0, 2, 3]), (2, [0, 2, 3, 9]), (3, [2, 3]), (4, [2, 11, 12, 13]), (5, [2, 11, 12, 13, 14]), (6, [2, 5, 11, 12, 13]), (7, [2, 11, 12, 13]), (8, [2, 11, 12, 13, 21]), (9, [2, 3]), (10, [2, 11, 12, 13]), (11, [2, 3])]
theorem ac56 {T : Tab} (hT : TabOk Go.Proofs.Try.prog T) {ds : List D} {os : List (Nat × Ob)} {nx : Nat} {Q : D → List (Nat × Ob) → Nat → Prop} (hl : ds.length ≤ 24) (h : awp Go.Proofs.Try.prog T 24 nx lv56 (Go.Proofs.Try.f56.body.getD .skip) (fin Go.Proofs.Try.prog [.tmp 2, .tmp 3] Q) ⟨prm 0 ds, os, nx⟩) : ACall Go.Proofs.Try.prog 56 ds os nx Q :=
  acall_intro hT.toS (fn := Go.Proofs.Try.f56) lv56 (by kernel_rfl) rfl rfl (by kernel_rfl) rfl hl rfl h
/-- damson/damsonref09.Held -/
abbrev lv58 : Nat → Option (List Nat) := lvL [(0, [1]), (1, [1, 6]), (2, [2, 3]), (3, [2, 3])]
theorem ac58 {T : Tab} (hT : TabOk Go.Proofs.Try.prog T) {ds : List D} {os : List (Nat × Ob)} {nx : Nat} {Q : D → List (Nat × Ob) → Nat → Prop} (hl : ds.length ≤ 13) (h : awp Go.Proofs.Try.prog T 13 nx lv58 (Go.Proofs.Try.f58.body.getD .skip) (fin Go.Proofs.Try.prog [.tmp 2, .tmp 3] Q) ⟨prm 0 ds, os, nx⟩) : ACall Go.Proofs.Try.prog 58 ds os nx Q :=
  acall_intro hT.toS (fn := Go.Proofs.Try.f58) lv58 (by kernel_rfl) rfl rfl (by kernel_rfl) rfl hl rfl h
/-- damson/damsonref04.Add -/
abbrev lv59 : Nat → Option (List Nat) := lvL [(0, [0]), (1, [0, 9]), (2, [2, 3]), (3, [0, 4]), (4, [4, 10, 11, 12]), (5, [4, 10, 11, 12, 13]), (6, [4, 6, 10, 11, 12]), (7, [4, 6, 10, 11, 12, 19]), (8, [2, 3]), (9, [4, 10, 11, 12]), (10, [4, 10, 11, 12]), (11, [2, 3])]
theorem ac59 {T : Tab} (hT : TabOk Go.Proofs.Try.prog T) {ds : List D} {os : List (Nat × Ob)} {nx : Nat} {Q : D → List (Nat × Ob) → Nat → Prop} (hl : ds.length ≤ 25) (h : awp Go.Proofs.Try.prog T 25 nx lv59 (Go.Proofs.Try.f59.body.getD .skip) (fin Go.Proofs.Try.prog [.tmp 2, .tmp 3] Q) ⟨prm 0 ds, os, nx⟩) : ACall Go.Proofs.Try.prog 59 ds os nx Q :=
  acall_intro hT.toS (fn := Go.Proofs.Try.f59) lv59 (by kernel_rfl) rfl rfl (by kernel_rfl) rfl hl rfl h
/-- damson/damsonref09.Check -/
abbrev lv60 : Nat → Option (List Nat) := lvL [(0, [1]), (1, [1, 32]), (2, [2]), (3, [1, 34, 35, 36]), (4, [1, 34, 35, 36, 37]), (5, [1, 3, 4, 34, 35, 36]), (6, [1, 34, 35, 36, 59]), (7, [2]), (8, [1, 34, 35, 36]), (9, [1, 5, 6]), (10, [1, 5, 75]), (11, [2]), (12, [8]), (13, [87]), (14, [2]), (15, [2])]
@[go_sem] def us60_6 : List Nat := [0, 1, 3, 7, 15, 31, 63, 127, 255, 127, 639, 2047, 4095, 8191, 127, 16511, 65535, 131071, 262143]
theorem ac60 {T : Tab} (hT : TabOk Go.Proofs.Try.prog T) {ds : List D} {os : List (Nat × Ob)} {nx : Nat} {Q : D → List (Nat × Ob) → Nat → Prop} (hl : ds.length ≤ 88) (h : awp Go.Proofs.Try.prog T 88 nx lv60 (Go.Proofs.Try.f60.body.getD .skip) (fin Go.Proofs.Try.prog [.tmp 2] Q) ⟨prm 0 ds, os, nx⟩) : ACall Go.Proofs.Try.prog 60 ds os nx Q :=
  acall_intro hT.toS (fn := Go.Proofs.Try.f60) lv60 (by kernel_rfl) rfl rfl (by kernel_rfl) rfl hl rfl h
/-- damson/damsonref10.where -/
abbrev lv61 : Nat → Option (List Nat) := lvL [(0, [0, 1]), (1, [1, 9, 10, 11]), (2, [1, 9, 10, 11, 12]), (3, [1, 5, 6, 9, 10, 11]), (4, [1, 5, 9, 10, 11, 17, 18, 19]), (5, [1, 5, 9, 10, 11, 17, 18, 19, 20]), (6, [1, 5, 8, 9, 10, 11, 17, 18, 19]), (7, [1, 5, 9, 10, 11, 17, 18, 19, 26]), (8, [4]), (9, [1, 5, 9, 10, 11, 17, 18, 19]), (10, [1, 9, 10, 11]), (11, [4])]
theorem ac61 {T : Tab} (hT : TabOk Go.Proofs.Try.prog T) {ds : List D} {os : List (Nat × Ob)} {nx : Nat} {Q : D → List (Nat × Ob) → Nat → Prop} (hl : ds.length ≤ 30) (h : awp Go.Proofs.Try.prog T 30 nx lv61 (Go.Proofs.Try.f61.body.getD .skip) (fin Go.Proofs.Try.prog [.tmp 4] Q) ⟨prm 0 ds, os, nx⟩) : ACall Go.Proofs.Try.prog 61 ds os nx Q :=
  acall_intro hT.toS (fn := Go.Proofs.Try.f61) lv61 (by kernel_rfl) rfl rfl (by kernel_rfl) rfl hl rfl h
/-- damson/damsonref10.all -/
abbrev lv62 : Nat → Option (List Nat) := lvL [(0, [0]), (1, [0, 4]), (2, [4, 11, 12, 13]), (3, [4, 11, 12, 13, 14]), (4, [4, 6, 11, 12, 13]), (5, [4, 7, 11, 12, 13]), (6, [9, 10, 11, 12, 13]), (7, [9, 11, 12, 13, 30]), (8, [2, 3]), (9, [4, 11, 12, 13]), (10, [4, 11, 12, 13]), (11, [2, 3])]
theorem ac62 {T : Tab} (hT : TabOk Go.Proofs.Try.prog T) {ds : List D} {os : List (Nat × Ob)} {nx : Nat} {Q : D → List (Nat × Ob) → Nat → Prop} (hl : ds.length ≤ 34) (h : awp Go.Proofs.Try.prog T 34 nx lv62 (Go.Proofs.Try.f62.body.getD .skip) (fin Go.Proofs.Try.prog [.tmp 2, .tmp 3] Q) ⟨prm 0 ds, os, nx⟩) : ACall Go.Proofs.Try.prog 62 ds os nx Q :=
  acall_intro hT.toS (fn := Go.Proofs.Try.f62) lv62 (by kernel_rfl) rfl rfl (by kernel_rfl) rfl hl rfl h
/-- damson/ledger.order -/
abbrev lv63 : Nat → Option (List Nat) := lvL [(0, [1, 2]), (1, [4])]
theorem ac63 {T : Tab} (hT : TabOk Go.Proofs.Try.prog T) {ds : List D} {os : List (Nat × Ob)} {nx : Nat} {Q : D → List (Nat × Ob) → Nat → Prop} (hl : ds.length ≤ 9) (h : awp Go.Proofs.Try.prog T 9 nx lv63 (Go.Proofs.Try.f63.body.getD .skip) (fin Go.Proofs.Try.prog [.tmp 4] Q) ⟨prm 0 ds, os, nx⟩) : ACall Go.Proofs.Try.prog 63 ds os nx Q :=
  acall_intro hT.toS (fn := Go.Proofs.Try.f63) lv63 (by kernel_rfl) rfl rfl (by kernel_rfl) rfl hl rfl h
/-- slices.BinarySearchFunc[[]damson/api.Channel,damson/api.Channel,uint64] -/
abbrev lv64 : Nat → Option (List Nat) := lvL [(0, [0, 1, 2]), (1, [0, 1, 2, 8]), (2, [0, 1, 2, 8, 9, 10]), (3, [0, 1, 2, 8, 9, 10, 17]), (4, [0, 1, 2, 8, 9, 10, 11]), (5, [0, 1, 2, 8, 9, 10, 11, 31]), (6, [0, 1, 2, 8, 9, 10]), (7, [0, 1, 2, 8, 9, 10]), (8, [6, 7])]
theorem ac64 {T : Tab} (hT : TabOk Go.Proofs.Try.prog T) {ds : List D} {os : List (Nat × Ob)} {nx : Nat} {Q : D → List (Nat × Ob) → Nat → Prop} (hl : ds.length ≤ 49) (h : awp Go.Proofs.Try.prog T 49 nx lv64 (Go.Proofs.Try.f64.body.getD .skip) (fin Go.Proofs.Try.prog [.tmp 6, .tmp 7] Q) ⟨prm 0 ds, os, nx⟩) : ACall Go.Proofs.Try.prog 64 ds os nx Q :=
  acall_intro hT.toS (fn := Go.Proofs.Try.f64) lv64 (by kernel_rfl) rfl rfl (by kernel_rfl) rfl hl rfl h
/-- slices.Clone[[]damson/api.Hold,damson/api.Hold] -/
abbrev lv65 : Nat → Option (List Nat) := lvL [(0, [0]), (1, [0, 4]), (2, [2]), (3, [2])]
theorem ac65 {T : Tab} (hT : TabOk Go.Proofs.Try.prog T) {ds : List D} {os : List (Nat × Ob)} {nx : Nat} {Q : D → List (Nat × Ob) → Nat → Prop} (hl : ds.length ≤ 8) (h : awp Go.Proofs.Try.prog T 8 nx lv65 (Go.Proofs.Try.f65.body.getD .skip) (fin Go.Proofs.Try.prog [.tmp 2] Q) ⟨prm 0 ds, os, nx⟩) : ACall Go.Proofs.Try.prog 65 ds os nx Q :=
  acall_intro hT.toS (fn := Go.Proofs.Try.f65) lv65 (by kernel_rfl) rfl rfl (by kernel_rfl) rfl hl rfl h
/-- damson/ledger.owns -/
abbrev lv66 : Nat → Option (List Nat) := lvL [(0, [0]), (1, [0]), (2, [0, 7, 8, 9]), (3, [0, 7, 8, 9, 10]), (4, [0, 3, 4, 7, 8, 9]), (5, [0, 7, 8, 9]), (6, [0, 7, 8, 9]), (7, [2])]
theorem ac66 {T : Tab} (hT : TabOk Go.Proofs.Try.prog T) {ds : List D} {os : List (Nat × Ob)} {nx : Nat} {Q : D → List (Nat × Ob) → Nat → Prop} (hl : ds.length ≤ 21) (h : awp Go.Proofs.Try.prog T 21 nx lv66 (Go.Proofs.Try.f66.body.getD .skip) (fin Go.Proofs.Try.prog [.tmp 2] Q) ⟨prm 0 ds, os, nx⟩) : ACall Go.Proofs.Try.prog 66 ds os nx Q :=
  acall_intro hT.toS (fn := Go.Proofs.Try.f66) lv66 (by kernel_rfl) rfl rfl (by kernel_rfl) rfl hl rfl h
/-- slices.BinarySearchFunc[[]damson/api.Hold,damson/api.Hold,uint64] -/
abbrev lv67 : Nat → Option (List Nat) := lvL [(0, [0, 1, 2]), (1, [0, 1, 2, 8]), (2, [0, 1, 2, 8, 9, 10]), (3, [0, 1, 2, 8, 9, 10, 17]), (4, [0, 1, 2, 8, 9, 10, 11]), (5, [0, 1, 2, 8, 9, 10, 11, 31]), (6, [0, 1, 2, 8, 9, 10]), (7, [0, 1, 2, 8, 9, 10]), (8, [6, 7])]
theorem ac67 {T : Tab} (hT : TabOk Go.Proofs.Try.prog T) {ds : List D} {os : List (Nat × Ob)} {nx : Nat} {Q : D → List (Nat × Ob) → Nat → Prop} (hl : ds.length ≤ 49) (h : awp Go.Proofs.Try.prog T 49 nx lv67 (Go.Proofs.Try.f67.body.getD .skip) (fin Go.Proofs.Try.prog [.tmp 6, .tmp 7] Q) ⟨prm 0 ds, os, nx⟩) : ACall Go.Proofs.Try.prog 67 ds os nx Q :=
  acall_intro hT.toS (fn := Go.Proofs.Try.f67) lv67 (by kernel_rfl) rfl rfl (by kernel_rfl) rfl hl rfl h
/-- slices.Insert[[]damson/api.Hold,damson/api.Hold] -/
abbrev lv68 : Nat → Option (List Nat) := lvL [(0, [0, 1, 2]), (1, [0, 1, 2]), (2, [0, 1, 2, 7]), (3, [0, 1, 2, 7, 16]), (4, [6]), (5, [0, 1, 2, 7, 8]), (6, [0, 1, 2, 7, 8, 22]), (7, [6]), (8, [0, 1, 2, 7, 8, 31]), (9, [0, 1, 2, 7, 9]), (10, [0, 1, 7, 9]), (11, [9]), (12, [6]), (13, [0, 1, 2, 7, 8]), (14, [0, 1, 2, 7, 8, 68]), (15, [0, 1, 2]), (16, [0]), (17, [6]), (18, [0, 1, 7]), (19, [0]), (20, [6])]
@[go_sem] def us68_11 : List Nat := [0, 0, 0, 6, 15, 0, 0, 96, 255]
@[go_sem] def us68_15 : List Nat := [0, 0, 0, 6, 15, 0, 0, 96, 255]
theorem ac68 {T : Tab} (hT : TabOk Go.Proofs.Try.prog T) {ds : List D} {os : List (Nat × Ob)} {nx : Nat} {Q : D → List (Nat × Ob) → Nat → Prop} (hl : ds.length ≤ 95) (h : awp Go.Proofs.Try.prog T 95 nx lv68 (Go.Proofs.Try.f68.body.getD .skip) (fin Go.Proofs.Try.prog [.tmp 6] Q) ⟨prm 0 ds, os, nx⟩) : ACall Go.Proofs.Try.prog 68 ds os nx Q :=
  acall_intro hT.toS (fn := Go.Proofs.Try.f68) lv68 (by kernel_rfl) rfl rfl (by kernel_rfl) rfl hl rfl h
/-- slices.insertionSortCmpFunc[damson/score.mark] -/
abbrev lv69 : Nat → Option (List Nat) := lvL [(0, [0, 1, 2, 3, 8]), (1, [0, 1, 2, 3, 8, 14]), (2, [0, 1, 2, 3, 8]), (3, [0, 1, 2, 3, 8, 9]), (4, [0, 1, 2, 3, 8, 9, 34]), (5, [0, 1, 2, 3, 8, 9]), (6, [0, 1, 2, 3, 8, 9])]
@[go_sem] def us69_4 : List Nat := [0, 0, 3, 7, 15, 15, 15, 111, 239, 15, 15, 1039, 3599, 7695, 16383, 32767, 65535]
@[go_sem] def us69_6 : List Nat := [0, 0, 0, 0, 8, 0, 0, 64, 224, 480, 0, 0, 3072, 7168, 16355, 32739, 65535, 131071]
theorem ac69 {T : Tab} (hT : TabOk Go.Proofs.Try.prog T) {ds : List D} {os : List (Nat × Ob)} {nx : Nat} {Q : D → List (Nat × Ob) → Nat → Prop} (hl : ds.length ≤ 53) (h : awp Go.Proofs.Try.prog T 53 nx lv69 (Go.Proofs.Try.f69.body.getD .skip) (fin Go.Proofs.Try.prog [] Q) ⟨prm 0 ds, os, nx⟩) : ACall Go.Proofs.Try.prog 69 ds os nx Q :=
  acall_intro hT.toS (fn := Go.Proofs.Try.f69) lv69 (by kernel_rfl) rfl rfl (by kernel_rfl) rfl hl rfl h
/-- slices.heapSortCmpFunc[damson/score.mark] -/
abbrev lv70 : Nat → Option (List Nat) := lvL [(0, [0, 1, 2, 3, 8]), (1, [0, 1, 2, 3, 8, 9]), (2, [0, 3, 8, 9, 10]), (3, [0, 3, 8, 9, 10, 11]), (4, [0, 3, 8, 9, 10, 11, 21]), (5, [0, 3, 8, 9, 10, 11]), (6, [0, 3, 8, 9, 10, 11]), (7, [0, 3, 8, 9, 12]), (8, [0, 3, 8, 9, 12, 33]), (9, [0, 3, 8, 9, 12]), (10, [0, 3, 8, 9, 12]), (11, [0, 3, 8, 9, 12])]
@[go_sem] def us70_10 : List Nat := [0, 0, 0, 0, 0, 24, 0, 0, 0, 384, 960, 1984, 0, 0, 12288, 28672, 65475, 131011, 262143, 524287]
theorem ac70 {T : Tab} (hT : TabOk Go.Proofs.Try.prog T) {ds : List D} {os : List (Nat × Ob)} {nx : Nat} {Q : D → List (Nat × Ob) → Nat → Prop} (hl : ds.length ≤ 60) (h : awp Go.Proofs.Try.prog T 60 nx lv70 (Go.Proofs.Try.f70.body.getD .skip) (fin Go.Proofs.Try.prog [] Q) ⟨prm 0 ds, os, nx⟩) : ACall Go.Proofs.Try.prog 70 ds os nx Q :=
  acall_intro hT.toS (fn := Go.Proofs.Try.f70) lv70 (by kernel_rfl) rfl rfl (by kernel_rfl) rfl hl rfl h
/-- slices.breakPatternsCmpFunc[damson/score.mark] -/
abbrev lv71 : Nat → Option (List Nat) := lvL [(0, [0, 1, 8]), (1, [0, 1, 8, 17]), (2, [0, 1, 8, 9]), (3, [0, 1, 8, 9, 10]), (4, [0, 1, 8, 9, 10, 11]), (5, [0, 1, 8, 9, 10, 11, 35]), (6, [0, 1, 8, 9, 10, 11]), (7, [0, 1, 8, 9, 10, 11, 12]), (8, [0, 1, 8, 9, 10, 11, 12, 45]), (9, [0, 1, 8, 9, 10, 11, 12]), (10, [0, 1, 8, 9, 10, 11])]
@[go_sem] def us71_10 : List Nat := [0, 0, 0, 0, 0, 24, 0, 0, 0, 384, 960, 1984, 0, 0, 12288, 28672, 65475, 131011, 262143, 524287]
theorem ac71 {T : Tab} (hT : TabOk Go.Proofs.Try.prog T) {ds : List D} {os : List (Nat × Ob)} {nx : Nat} {Q : D → List (Nat × Ob) → Nat → Prop} (hl : ds.length ≤ 67) (h : awp Go.Proofs.Try.prog T 67 nx lv71 (Go.Proofs.Try.f71.body.getD .skip) (fin Go.Proofs.Try.prog [] Q) ⟨prm 0 ds, os, nx⟩) : ACall Go.Proofs.Try.prog 71 ds os nx Q :=
  acall_intro hT.toS (fn := Go.Proofs.Try.f71) lv71 (by kernel_rfl) rfl rfl (by kernel_rfl) rfl hl rfl h
/-- slices.choosePivotCmpFunc[damson/score.mark] -/
abbrev lv72 : Nat → Option (List Nat) := lvL [(0, [0, 1, 2, 3]), (1, [0, 1, 3, 10]), (2, [0, 1, 3, 10, 11]), (3, [0, 1, 3, 10, 11, 12]), (4, [0, 1, 3, 10, 11, 12, 13]), (5, [0, 3, 10, 11, 12, 13, 14]), (6, [0, 3, 10, 11, 12, 13, 14, 34]), (7, [0, 3, 11, 12, 13, 14, 36]), (8, [0, 3, 11, 12, 13, 14]), (9, [0, 3, 11, 12, 13, 14]), (10, [0, 3, 11, 12, 13, 14]), (11, [11, 13]), (12, [13, 55]), (13, [8, 9]), (14, [13, 55, 57]), (15, [8, 9]), (16, [13, 60]), (17, [8, 9])]
theorem ac72 {T : Tab} (hT : TabOk Go.Proofs.Try.prog T) {ds : List D} {os : List (Nat × Ob)} {nx : Nat} {Q : D → List (Nat × Ob) → Nat → Prop} (hl : ds.length ≤ 63) (h : awp Go.Proofs.Try.prog T 63 nx lv72 (Go.Proofs.Try.f72.body.getD .skip) (fin Go.Proofs.Try.prog [.tmp 8, .tmp 9] Q) ⟨prm 0 ds, os, nx⟩) : ACall Go.Proofs.Try.prog 72 ds os nx Q :=
  acall_intro hT.toS (fn := Go.Proofs.Try.f72) lv72 (by kernel_rfl) rfl rfl (by kernel_rfl) rfl hl rfl h
/-- slices.reverseRangeCmpFunc[damson/score.mark] -/
abbrev lv73 : Nat → Option (List Nat) := lvL [(0, [0, 2, 8]), (1, [0, 8, 9]), (2, [0, 8, 9, 15]), (3, [0, 8, 9]), (4, [0, 8, 9]), (5, [0, 8, 9])]
@[go_sem] def us73_3 : List Nat := [0, 0, 0, 0, 0, 0, 48, 112, 0, 0, 768, 1792, 4083, 8179, 16383, 32767]
theorem ac73 {T : Tab} (hT : TabOk Go.Proofs.Try.prog T) {ds : List D} {os : List (Nat × Ob)} {nx : Nat} {Q : D → List (Nat × Ob) → Nat → Prop} (hl : ds.length ≤ 34) (h : awp Go.Proofs.Try.prog T 34 nx lv73 (Go.Proofs.Try.f73.body.getD .skip) (fin Go.Proofs.Try.prog [] Q) ⟨prm 0 ds, os, nx⟩) : ACall Go.Proofs.Try.prog 73 ds os nx Q :=
  acall_intro hT.toS (fn := Go.Proofs.Try.f73) lv73 (by kernel_rfl) rfl rfl (by kernel_rfl) rfl hl rfl h
/-- slices.partialInsertionSortCmpFunc[damson/score.mark] -/
abbrev lv74 : Nat → Option (List Nat) := lvL [(0, [0, 1, 2, 3]), (1, [0, 1, 2, 3, 9]), (2, [0, 1, 2, 3, 9, 10]), (3, [0, 1, 2, 3, 9, 10, 16]), (4, [0, 1, 2, 3, 9, 10]), (5, [0, 1, 2, 3, 9, 10, 36]), (6, [0, 1, 2, 3, 9, 10]), (7, [0, 1, 2, 3, 9, 10, 41]), (8, [8]), (9, [0, 1, 2, 3, 9, 10, 45]), (10, [8]), (11, [0, 1, 2, 3, 9, 10]), (12, [0, 1, 2, 3, 9, 10, 65]), (13, [0, 1, 2, 3, 9, 10, 11]), (14, [0, 1, 2, 3, 9, 10, 11, 69]), (15, [0, 1, 2, 3, 9, 10, 11]), (16, [0, 1, 2, 3, 9, 10, 11, 84]), (17, [0, 1, 2, 3, 9, 10, 11]), (18, [0, 1, 2, 3, 9, 10, 104]), (19, [0, 1, 2, 3, 9, 10, 12]), (20, [0, 1, 2, 3, 9, 10, 12, 109]), (21, [0, 1, 2, 3, 9, 10, 12]), (22, [0, 1, 2, 3, 9, 10, 12, 124]), (23, [0, 1, 2, 3, 9, 10, 12]), (24, [8])]
@[go_sem] def us74_5 : List Nat := [0, 0, 3, 7, 15, 15, 15, 111, 239, 15, 15, 1039, 3599, 7695, 16383, 32767, 65535, 131071]
@[go_sem] def us74_11 : List Nat := [0, 0, 0, 0, 8, 0, 0, 64, 224, 480, 0, 0, 3072, 7168, 16355, 32739, 65535, 131071]
@[go_sem] def us74_16 : List Nat := [0, 0, 0, 6, 14, 0, 0, 64, 224, 480, 1023, 2047, 4095]
@[go_sem] def us74_17 : List Nat := [0, 0, 0, 0, 8, 0, 0, 64, 224, 480, 0, 0, 3072, 7168, 16355, 32739, 65535, 131071]
@[go_sem] def us74_22 : List Nat := [0, 0, 0, 6, 14, 0, 0, 64, 224, 480, 1023, 2047, 4095]
@[go_sem] def us74_23 : List Nat := [0, 0, 0, 0, 8, 0, 0, 64, 224, 480, 0, 0, 3072, 7168, 16355, 32739, 65535, 131071]
theorem ac74 {T : Tab} (hT : TabOk Go.Proofs.Try.prog T) {ds : List D} {os : List (Nat × Ob)} {nx : Nat} {Q : D → List (Nat × Ob) → Nat → Prop} (hl : ds.length ≤ 141) (h : awp Go.Proofs.Try.prog T 141 nx lv74 (Go.Proofs.Try.f74.body.getD .skip) (fin Go.Proofs.Try.prog [.tmp 8] Q) ⟨prm 0 ds, os, nx⟩) : ACall Go.Proofs.Try.prog 74 ds os nx Q :=
  acall_intro hT.toS (fn := Go.Proofs.Try.f74) lv74 (by kernel_rfl) rfl rfl (by kernel_rfl) rfl hl rfl h
/-- slices.partitionEqualCmpFunc[damson/score.mark] -/
abbrev lv75 : Nat → Option (List Nat) := lvL [(0, [0, 1, 2, 3, 4]), (1, [0, 1, 2, 4]), (2, [0, 1, 4, 11, 12]), (3, [0, 1, 4, 11, 12, 47]), (4, [0, 1, 4, 11, 12]), (5, [0, 1, 4, 11, 12, 65]), (6, [0, 1, 4, 11, 12]), (7, [0, 1, 4, 11, 12, 70]), (8, [0, 1, 4, 11, 12]), (9, [0, 1, 4, 11, 12]), (10, [0, 1, 4, 11, 12]), (11, [10])]
@[go_sem] def us75_1 : List Nat := [0, 0, 0, 0, 0, 0, 48, 112, 0, 0, 768, 1792, 4083, 8179, 16383, 32767]
@[go_sem] def us75_3 : List Nat := [0, 0, 3, 7, 15, 15, 15, 111, 239, 15, 15, 1551, 3599, 8191, 16383, 32767, 65535]
@[go_sem] def us75_5 : List Nat := [0, 0, 3, 7, 15, 15, 15, 111, 239, 15, 15, 1551, 3599, 8191, 16383, 32767]
@[go_sem] def us75_8 : List Nat := [0, 0, 0, 0, 0, 0, 48, 112, 0, 0, 768, 1792, 4083, 8179, 16383, 32767]
theorem ac75 {T : Tab} (hT : TabOk Go.Proofs.Try.prog T) {ds : List D} {os : List (Nat × Ob)} {nx : Nat} {Q : D → List (Nat × Ob) → Nat → Prop} (hl : ds.length ≤ 90) (h : awp Go.Proofs.Try.prog T 90 nx lv75 (Go.Proofs.Try.f75.body.getD .skip) (fin Go.Proofs.Try.prog [.tmp 10] Q) ⟨prm 0 ds, os, nx⟩) : ACall Go.Proofs.Try.prog 75 ds os nx Q :=
  acall_intro hT.toS (fn := Go.Proofs.Try.f75) lv75 (by kernel_rfl) rfl rfl (by kernel_rfl) rfl hl rfl h
/-- slices.partitionCmpFunc[damson/score.mark] -/
abbrev lv76 : Nat → Option (List Nat) := lvL [(0, [0, 1, 2, 3, 4]), (1, [0, 1, 2, 4]), (2, [0, 1, 4, 12, 13]), (3, [0, 1, 4, 12, 13, 47]), (4, [0, 1, 4, 12, 13]), (5, [0, 1, 4, 12, 13, 66]), (6, [0, 1, 4, 12, 13]), (7, [0, 1, 4, 12, 13, 71]), (8, [13]), (9, [10, 11]), (10, [0, 1, 4, 12, 13]), (11, [0, 1, 4, 12, 13]), (12, [0, 1, 4, 12, 13]), (13, [0, 1, 4, 12, 13, 120]), (14, [0, 1, 4, 12, 13]), (15, [0, 1, 4, 12, 13, 139]), (16, [0, 1, 4, 12, 13]), (17, [0, 1, 4, 12, 13, 144]), (18, [0, 1, 4, 12, 13]), (19, [0, 1, 4, 12, 13]), (20, [0, 1, 4, 12, 13]), (21, [13]), (22, [10, 11])]
@[go_sem] def us76_1 : List Nat := [0, 0, 0, 0, 0, 0, 48, 112, 0, 0, 768, 1792, 4083, 8179, 16383, 32767]
@[go_sem] def us76_3 : List Nat := [0, 0, 3, 7, 15, 15, 15, 111, 239, 15, 15, 1551, 3599, 8191, 16383, 32767]
@[go_sem] def us76_5 : List Nat := [0, 0, 3, 7, 15, 15, 15, 111, 239, 15, 15, 1551, 3599, 8191, 16383, 32767, 65535]
@[go_sem] def us76_8 : List Nat := [0, 0, 0, 0, 0, 0, 48, 112, 0, 0, 768, 1792, 4083, 8179, 16383, 32767]
@[go_sem] def us76_10 : List Nat := [0, 0, 0, 0, 0, 0, 48, 112, 0, 0, 768, 1792, 4083, 8179, 16383, 32767]
@[go_sem] def us76_13 : List Nat := [0, 0, 3, 7, 15, 15, 15, 111, 239, 15, 15, 1551, 3599, 8191, 16383, 32767]
@[go_sem] def us76_15 : List Nat := [0, 0, 3, 7, 15, 15, 15, 111, 239, 15, 15, 1551, 3599, 8191, 16383, 32767, 65535]
@[go_sem] def us76_18 : List Nat := [0, 0, 0, 0, 0, 0, 48, 112, 0, 0, 768, 1792, 4083, 8179, 16383, 32767]
@[go_sem] def us76_21 : List Nat := [0, 0, 0, 0, 0, 0, 48, 112, 0, 0, 768, 1792, 4083, 8179, 16383, 32767]
theorem ac76 {T : Tab} (hT : TabOk Go.Proofs.Try.prog T) {ds : List D} {os : List (Nat × Ob)} {nx : Nat} {Q : D → List (Nat × Ob) → Nat → Prop} (hl : ds.length ≤ 178) (h : awp Go.Proofs.Try.prog T 178 nx lv76 (Go.Proofs.Try.f76.body.getD .skip) (fin Go.Proofs.Try.prog [.tmp 10, .tmp 11] Q) ⟨prm 0 ds, os, nx⟩) : ACall Go.Proofs.Try.prog 76 ds os nx Q :=
  acall_intro hT.toS (fn := Go.Proofs.Try.f76) lv76 (by kernel_rfl) rfl rfl (by kernel_rfl) rfl hl rfl h
/-- math/bits.Len32 -/
abbrev lv77 : Nat → Option (List Nat) := lvL [(0, [0, 2]), (1, [0, 2, 4]), (2, [0]), (3, [0, 2]), (4, [0, 2, 8]), (5, [0, 2]), (6, [0, 2]), (7, [2])]
theorem ac77 {T : Tab} (hT : TabOk Go.Proofs.Try.prog T) {ds : List D} {os : List (Nat × Ob)} {nx : Nat} {Q : D → List (Nat × Ob) → Nat → Prop} (hl : ds.length ≤ 19) (h : awp Go.Proofs.Try.prog T 19 nx lv77 (Go.Proofs.Try.f77.body.getD .skip) (fin Go.Proofs.Try.prog [.tmp 2] Q) ⟨prm 0 ds, os, nx⟩) : ACall Go.Proofs.Try.prog 77 ds os nx Q :=
  acall_intro hT.toS (fn := Go.Proofs.Try.f77) lv77 (by kernel_rfl) rfl rfl (by kernel_rfl) rfl hl rfl h
/-- math/bits.Len64 -/
abbrev lv78 : Nat → Option (List Nat) := lvL [(0, [0, 2]), (1, [0, 2, 4]), (2, [0]), (3, [0, 2]), (4, [0, 2, 8]), (5, [0, 2]), (6, [0, 2]), (7, [0, 2, 14]), (8, [0, 2]), (9, [0, 2]), (10, [2])]
theorem ac78 {T : Tab} (hT : TabOk Go.Proofs.Try.prog T) {ds : List D} {os : List (Nat × Ob)} {nx : Nat} {Q : D → List (Nat × Ob) → Nat → Prop} (hl : ds.length ≤ 25) (h : awp Go.Proofs.Try.prog T 25 nx lv78 (Go.Proofs.Try.f78.body.getD .skip) (fin Go.Proofs.Try.prog [.tmp 2] Q) ⟨prm 0 ds, os, nx⟩) : ACall Go.Proofs.Try.prog 78 ds os nx Q :=
  acall_intro hT.toS (fn := Go.Proofs.Try.f78) lv78 (by kernel_rfl) rfl rfl (by kernel_rfl) rfl hl rfl h
/-- slices.Max[[]uint64,uint64] -/
abbrev lv79 : Nat → Option (List Nat) := lvL [(0, [0]), (1, [0, 7]), (2, [0]), (3, [0, 3]), (4, [0, 3, 4]), (5, [0, 3, 4, 15]), (6, [0, 3, 4]), (7, [0, 3, 4]), (8, [2])]
theorem ac79 {T : Tab} (hT : TabOk Go.Proofs.Try.prog T) {ds : List D} {os : List (Nat × Ob)} {nx : Nat} {Q : D → List (Nat × Ob) → Nat → Prop} (hl : ds.length ≤ 25) (h : awp Go.Proofs.Try.prog T 25 nx lv79 (Go.Proofs.Try.f79.body.getD .skip) (fin Go.Proofs.Try.prog [.tmp 2] Q) ⟨prm 0 ds, os, nx⟩) : ACall Go.Proofs.Try.prog 79 ds os nx Q :=
  acall_intro hT.toS (fn := Go.Proofs.Try.f79) lv79 (by kernel_rfl) rfl rfl (by kernel_rfl) rfl hl rfl h
/-- damson/damsonref09.amounts -/
abbrev lv80 : Nat → Option (List Nat) := lvL [(0, [0]), (1, [0, 3]), (2, [3, 6, 7, 8]), (3, [3, 6, 7, 8, 9]), (4, [3, 5, 6, 7, 8]), (5, [3, 6, 7, 8]), (6, [3, 6, 7, 8]), (7, [2])]
theorem ac80 {T : Tab} (hT : TabOk Go.Proofs.Try.prog T) {ds : List D} {os : List (Nat × Ob)} {nx : Nat} {Q : D → List (Nat × Ob) → Nat → Prop} (hl : ds.length ≤ 19) (h : awp Go.Proofs.Try.prog T 19 nx lv80 (Go.Proofs.Try.f80.body.getD .skip) (fin Go.Proofs.Try.prog [.tmp 2] Q) ⟨prm 0 ds, os, nx⟩) : ACall Go.Proofs.Try.prog 80 ds os nx Q :=
  acall_intro hT.toS (fn := Go.Proofs.Try.f80) lv80 (by kernel_rfl) rfl rfl (by kernel_rfl) rfl hl rfl h
/-- damson/damsonref04.Check -/
abbrev lv81 : Nat → Option (List Nat) := lvL [(0, [0]), (1, [5, 6, 7]), (2, [5, 6, 7, 8]), (3, [4, 5, 6, 7]), (4, [5, 6, 7, 12]), (5, [2]), (6, [5, 6, 7]), (7, [2])]
theorem ac81 {T : Tab} (hT : TabOk Go.Proofs.Try.prog T) {ds : List D} {os : List (Nat × Ob)} {nx : Nat} {Q : D → List (Nat × Ob) → Nat → Prop} (hl : ds.length ≤ 14) (h : awp Go.Proofs.Try.prog T 14 nx lv81 (Go.Proofs.Try.f81.body.getD .skip) (fin Go.Proofs.Try.prog [.tmp 2] Q) ⟨prm 0 ds, os, nx⟩) : ACall Go.Proofs.Try.prog 81 ds os nx Q :=
  acall_intro hT.toS (fn := Go.Proofs.Try.f81) lv81 (by kernel_rfl) rfl rfl (by kernel_rfl) rfl hl rfl h
/-- slices.Clone[[]damson/api.Channel,damson/api.Channel] -/
abbrev lv82 : Nat → Option (List Nat) := lvL [(0, [0]), (1, [0, 4]), (2, [2]), (3, [2])]
theorem ac82 {T : Tab} (hT : TabOk Go.Proofs.Try.prog T) {ds : List D} {os : List (Nat × Ob)} {nx : Nat} {Q : D → List (Nat × Ob) → Nat → Prop} (hl : ds.length ≤ 8) (h : awp Go.Proofs.Try.prog T 8 nx lv82 (Go.Proofs.Try.f82.body.getD .skip) (fin Go.Proofs.Try.prog [.tmp 2] Q) ⟨prm 0 ds, os, nx⟩) : ACall Go.Proofs.Try.prog 82 ds os nx Q :=
  acall_intro hT.toS (fn := Go.Proofs.Try.f82) lv82 (by kernel_rfl) rfl rfl (by kernel_rfl) rfl hl rfl h
/-- slices.rotateRight[damson/api.Hold] -/
abbrev lv84 : Nat → Option (List Nat) := lvL [(0, [])]
theorem ac84 {T : Tab} (hT : TabOk Go.Proofs.Try.prog T) {ds : List D} {os : List (Nat × Ob)} {nx : Nat} {Q : D → List (Nat × Ob) → Nat → Prop} (hl : ds.length ≤ 10) (h : awp Go.Proofs.Try.prog T 10 nx lv84 (Go.Proofs.Try.f84.body.getD .skip) (fin Go.Proofs.Try.prog [] Q) ⟨prm 0 ds, os, nx⟩) : ACall Go.Proofs.Try.prog 84 ds os nx Q :=
  acall_intro hT.toS (fn := Go.Proofs.Try.f84) lv84 (by kernel_rfl) rfl rfl (by kernel_rfl) rfl hl rfl h
/-- slices.siftDownCmpFunc[damson/score.mark] -/
abbrev lv85 : Nat → Option (List Nat) := lvL [(0, [0, 2, 3, 4, 10]), (1, [0, 2, 3, 4, 10, 11]), (2, [0, 2, 3, 4, 10, 11, 18]), (3, [0, 2, 3, 4, 10, 11, 40]), (4, [0, 2, 3, 4, 10, 11]), (5, [0, 2, 3, 4, 10, 11, 58]), (6, [0, 2, 3, 4, 11]), (7, [0, 2, 3, 4, 10])]
@[go_sem] def us85_3 : List Nat := [0, 1, 0, 7, 15, 31, 31, 31, 31, 415, 991, 2015, 31, 31, 31, 24607, 57375, 127007, 258079, 524287, 1048575, 2097151]
@[go_sem] def us85_5 : List Nat := [0, 0, 0, 0, 12, 30, 62, 0, 0, 0, 768, 1920, 3968, 8191, 16383, 32767]
@[go_sem] def us85_6 : List Nat := [0, 0, 0, 6, 0, 0, 0, 96, 0, 0, 0, 1536, 3840, 7936, 0, 0, 0, 98304, 245760, 507904, 1048335, 2096911, 4194303, 8388607]
theorem ac85 {T : Tab} (hT : TabOk Go.Proofs.Try.prog T) {ds : List D} {os : List (Nat × Ob)} {nx : Nat} {Q : D → List (Nat × Ob) → Nat → Prop} (hl : ds.length ≤ 82) (h : awp Go.Proofs.Try.prog T 82 nx lv85 (Go.Proofs.Try.f85.body.getD .skip) (fin Go.Proofs.Try.prog [] Q) ⟨prm 0 ds, os, nx⟩) : ACall Go.Proofs.Try.prog 85 ds os nx Q :=
  acall_intro hT.toS (fn := Go.Proofs.Try.f85) lv85 (by kernel_rfl) rfl rfl (by kernel_rfl) rfl hl rfl h
/-- slices.nextPowerOfTwo -/
abbrev lv86 : Nat → Option (List Nat) := lvL [(0, [0]), (1, [2])]
theorem ac86 {T : Tab} (hT : TabOk Go.Proofs.Try.prog T) {ds : List D} {os : List (Nat × Ob)} {nx : Nat} {Q : D → List (Nat × Ob) → Nat → Prop} (hl : ds.length ≤ 7) (h : awp Go.Proofs.Try.prog T 7 nx lv86 (Go.Proofs.Try.f86.body.getD .skip) (fin Go.Proofs.Try.prog [.tmp 2] Q) ⟨prm 0 ds, os, nx⟩) : ACall Go.Proofs.Try.prog 86 ds os nx Q :=
  acall_intro hT.toS (fn := Go.Proofs.Try.f86) lv86 (by kernel_rfl) rfl rfl (by kernel_rfl) rfl hl rfl h
/-- (*slices.xorshift).Next -/
abbrev lv87 : Nat → Option (List Nat) := lvL [(0, [0]), (1, [0]), (2, [0]), (3, [0]), (4, [2])]
@[go_sem] def us87_1 : List Nat := [0, 1, 3, 0, 8, 24, 56, 127, 255, 511]
@[go_sem] def us87_2 : List Nat := [0, 1, 3, 0, 8, 24, 56, 127, 255, 511]
@[go_sem] def us87_3 : List Nat := [0, 1, 3, 0, 8, 24, 56, 127, 255, 511]
theorem ac87 {T : Tab} (hT : TabOk Go.Proofs.Try.prog T) {ds : List D} {os : List (Nat × Ob)} {nx : Nat} {Q : D → List (Nat × Ob) → Nat → Prop} (hl : ds.length ≤ 33) (h : awp Go.Proofs.Try.prog T 33 nx lv87 (Go.Proofs.Try.f87.body.getD .skip) (fin Go.Proofs.Try.prog [.tmp 2] Q) ⟨prm 0 ds, os, nx⟩) : ACall Go.Proofs.Try.prog 87 ds os nx Q :=
  acall_intro hT.toS (fn := Go.Proofs.Try.f87) lv87 (by kernel_rfl) rfl rfl (by kernel_rfl) rfl hl rfl h
/-- slices.medianAdjacentCmpFunc[damson/score.mark] -/
abbrev lv88 : Nat → Option (List Nat) := lvL [(0, [0, 1, 2, 3]), (1, [8])]
theorem ac88 {T : Tab} (hT : TabOk Go.Proofs.Try.prog T) {ds : List D} {os : List (Nat × Ob)} {nx : Nat} {Q : D → List (Nat × Ob) → Nat → Prop} (hl : ds.length ≤ 18) (h : awp Go.Proofs.Try.prog T 18 nx lv88 (Go.Proofs.Try.f88.body.getD .skip) (fin Go.Proofs.Try.prog [.tmp 8] Q) ⟨prm 0 ds, os, nx⟩) : ACall Go.Proofs.Try.prog 88 ds os nx Q :=
  acall_intro hT.toS (fn := Go.Proofs.Try.f88) lv88 (by kernel_rfl) rfl rfl (by kernel_rfl) rfl hl rfl h
/-- slices.medianCmpFunc[damson/score.mark] -/
abbrev lv89 : Nat → Option (List Nat) := lvL [(0, [0, 1, 2, 3, 4, 5]), (1, [0, 1, 2, 3, 4, 5]), (2, [0, 1, 2, 4, 5]), (3, [2]), (4, [12])]
theorem ac89 {T : Tab} (hT : TabOk Go.Proofs.Try.prog T) {ds : List D} {os : List (Nat × Ob)} {nx : Nat} {Q : D → List (Nat × Ob) → Nat → Prop} (hl : ds.length ≤ 41) (h : awp Go.Proofs.Try.prog T 41 nx lv89 (Go.Proofs.Try.f89.body.getD .skip) (fin Go.Proofs.Try.prog [.tmp 12] Q) ⟨prm 0 ds, os, nx⟩) : ACall Go.Proofs.Try.prog 89 ds os nx Q :=
  acall_intro hT.toS (fn := Go.Proofs.Try.f89) lv89 (by kernel_rfl) rfl rfl (by kernel_rfl) rfl hl rfl h
/-- slices.rotateLeft[damson/api.Hold] -/
abbrev lv90 : Nat → Option (List Nat) := lvL [(0, [0, 1]), (1, [0]), (2, [])]
theorem ac90 {T : Tab} (hT : TabOk Go.Proofs.Try.prog T) {ds : List D} {os : List (Nat × Ob)} {nx : Nat} {Q : D → List (Nat × Ob) → Nat → Prop} (hl : ds.length ≤ 14) (h : awp Go.Proofs.Try.prog T 14 nx lv90 (Go.Proofs.Try.f90.body.getD .skip) (fin Go.Proofs.Try.prog [] Q) ⟨prm 0 ds, os, nx⟩) : ACall Go.Proofs.Try.prog 90 ds os nx Q :=
  acall_intro hT.toS (fn := Go.Proofs.Try.f90) lv90 (by kernel_rfl) rfl rfl (by kernel_rfl) rfl hl rfl h
/-- slices.order2CmpFunc[damson/score.mark] -/
abbrev lv91 : Nat → Option (List Nat) := lvL [(0, [0, 1, 2, 3, 4]), (1, [1, 2, 3, 22]), (2, [1, 2]), (3, [10, 11]), (4, [10, 11])]
@[go_sem] def us91_1 : List Nat := [0, 0, 0, 6, 14, 0, 0, 96, 224, 511, 1023]
theorem ac91 {T : Tab} (hT : TabOk Go.Proofs.Try.prog T) {ds : List D} {os : List (Nat × Ob)} {nx : Nat} {Q : D → List (Nat × Ob) → Nat → Prop} (hl : ds.length ≤ 32) (h : awp Go.Proofs.Try.prog T 32 nx lv91 (Go.Proofs.Try.f91.body.getD .skip) (fin Go.Proofs.Try.prog [.tmp 10, .tmp 11] Q) ⟨prm 0 ds, os, nx⟩) : ACall Go.Proofs.Try.prog 91 ds os nx Q :=
  acall_intro hT.toS (fn := Go.Proofs.Try.f91) lv91 (by kernel_rfl) rfl rfl (by kernel_rfl) rfl hl rfl h
/-- slices.Reverse[[]damson/api.Hold,damson/api.Hold] -/
abbrev lv92 : Nat → Option (List Nat) := lvL [(0, [0, 2, 3]), (1, [0, 2, 3, 9]), (2, [0, 2, 3]), (3, [0, 2, 3])]
@[go_sem] def us92_3 : List Nat := [0, 0, 0, 0, 0, 0, 48, 112, 0, 0, 768, 1792, 4083, 8179, 16383, 32767]
theorem ac92 {T : Tab} (hT : TabOk Go.Proofs.Try.prog T) {ds : List D} {os : List (Nat × Ob)} {nx : Nat} {Q : D → List (Nat × Ob) → Nat → Prop} (hl : ds.length ≤ 28) (h : awp Go.Proofs.Try.prog T 28 nx lv92 (Go.Proofs.Try.f92.body.getD .skip) (fin Go.Proofs.Try.prog [] Q) ⟨prm 0 ds, os, nx⟩) : ACall Go.Proofs.Try.prog 92 ds os nx Q :=
  acall_intro hT.toS (fn := Go.Proofs.Try.f92) lv92 (by kernel_rfl) rfl rfl (by kernel_rfl) rfl hl rfl h
end Dm
