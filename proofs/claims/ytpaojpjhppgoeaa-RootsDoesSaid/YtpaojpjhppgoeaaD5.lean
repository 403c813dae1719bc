import Derived.Test.YtpaojpjhppgoeaaD4
set_option linter.unusedSimpArgs false
set_option linter.unusedVariables false
/-! The region's operations, one by one, as they are written; what comes of them in every order. -/
namespace Dm
open Go
section
variable {δ : List Deferred} {P : Program} {T : Tab} {all : Array Oper} {s s' s'' e : St} {n N : Nat} {K : St → Prop}

/-- What an operation touched, and wrote; its new objects. -/
structure Ft where
  i : Nat
  T : List Nat
  W : List Nat
  B : Nat
  nx : Nat
def bnd : Ground → Bool
  | .textOnly _ => false
  | .gcOnly _ => false
  | _ => true
/-- They touch nothing in common that one of them writes. -/
def indF (y x : Ft) : Bool := if apt y.W x.T = true then (if apt x.W y.T = true then outR y.B y.nx x.T else false) else false
/-- Numbers below 64 .. as bits. -/
def bitN (m i : Nat) : Bool := if (m >>> i) % 2 = 1 then true else false
def accB (u : Nat) (x : Ft) : List Ft → Prop
  | [] => True
  | y :: l => (if (u >>> y.i) % 2 = 1 then True else indF y x = true) ∧ accB u x l
def uh : List Nat → Nat
  | [] => 0
  | u :: _ => u
def ut : List Nat → List Nat
  | [] => []
  | _ :: us => us
/-- One that touches nothing need not be kept. -/
def push (x : Ft) (l : List Ft) : List Ft := match x.T with
  | _ :: _ => x :: l
  | [] => if x.nx = x.B then l else x :: l

def dxW (P : Program) (o : Oper) (u i : Nat) (acc : List Ft) (s : St) (Tt : List Nat) (r : St) (k : List Ft → St → Prop) (W : List Nat) : Prop :=
  low s.nx Tt = true ∧ valsB Tt (pickL (opT o) s.tm) = true ∧ obsB Tt (pickL Tt s.os) = true ∧ s.nx ≤ r.nx ∧ rosB Tt s.nx r.nx r.os = true ∧ rvP Tt s.nx r.nx r.tm o.dst ∧ sameO W r.os s.os Tt ∧
    accB u ⟨i, Tt, W, s.nx, r.nx⟩ acc ∧ k (push ⟨i, Tt, W, s.nx, r.nx⟩ acc) (s.mrg Tt o.dst r)
def dxR (P : Program) (o : Oper) (u i : Nat) (acc : List Ft) (s : St) (Tt : List Nat) (k : List Ft → St → Prop) (r : St) : Prop := dxW P o u i acc s Tt r k (wOf (stOp o.op) Tt r.os)
def dxL (P : Program) (T : Tab) (o : Oper) (u i : Nat) (acc : List Ft) (s : St) (k : List Ft → St → Prop) (Tt : List Nat) : Prop :=
  aopX P T o (s.loc (opT o) Tt s.nx) (dxR P o u i acc s Tt k)
def dxE (P : Program) (T : Tab) (o : Oper) (u i : Nat) (acc : List Ft) (s : St) (k : List Ft → St → Prop) : Prop :=
  dxL P T o u i acc s k (clo s.os (uni (midsA (pickL (opT o) s.tm)) []))
def dx (P : Program) (T : Tab) (all : Array Oper) : List Oper → List Nat → Nat → List Ft → (St → Prop) → St → Prop
  | [], _, _, _, K, s => K s
  | o :: rest, us, i, acc, K, s => match o.guard with
    | none => dxE P T o (uh us) i acc s fun acc' s' => dx P T all rest (ut us) (i + 1) acc' K s'
    | some (j, w) => grd (gtmp all j) (s.gd (gtmp all j)) w (fun s => dxE P T o (uh us) i acc s fun acc' s' => dx P T all rest (ut us) (i + 1) acc' K s') (fun s => dx P T all rest (ut us) (i + 1) acc K (s.put o.dst .skip)) s

def Ent.ft (x : Ent) : Ft := ⟨x.i, x.T, x.W, x.B, x.r.nx⟩
theorem accB_spec {u : Nat} {x : Ft} : ∀ {l : List Ft}, accB u x l → ∀ y ∈ l, indF y x = true ∨ bitN u y.i = true
  | [], _, _, h => by cases h
  | z :: l, h, y, hy => by
    obtain ⟨h1, h2⟩ := h
    rcases List.mem_cons.1 hy with rfl | hy
    · split at h1
      · rename_i hh; exact .inr (by rw [bitN, if_pos hh])
      · exact .inl h1
    · exact accB_spec h2 y hy
theorem indF_none {y x : Ft} (h1 : y.T = []) (h2 : y.W = []) (h3 : y.nx = y.B) : indF y x = true := by
  have ha : ∀ l : List Nat, apt l [] = true := fun l => apt_iff.2 (by simp)
  unfold indF
  rw [h2, h1, if_pos (by rfl), if_pos (ha _), outR_iff]
  intro n _
  omega
theorem indF_none2 {y x : Ft} (h1 : x.T = []) (h2 : x.W = []) : indF y x = true := by
  have ha : ∀ l : List Nat, apt l [] = true := fun l => apt_iff.2 (by simp)
  unfold indF
  rw [h2, h1, if_pos (ha _), if_pos (by rfl)]
  rfl
theorem put_eqv {d : Option Nat} {v : D} (h : Eqv s s') : Eqv (s.put d v) (s'.put d v) := by
  cases d with
  | none => exact h
  | some t => exact ⟨fun u => by simp only [St.put, lk_cons, h.1], h.2⟩
theorem wOf_nil {b : Bool} {os : List (Nat × Ob)} : wOf b [] os = [] := by cases b <;> rfl
theorem indF_spec {y x : Ft} (h : indF y x = true) : (∀ id ∈ y.W, id ∉ x.T) ∧ (∀ id ∈ x.W, id ∉ y.T) ∧ ∀ id ∈ x.T, ¬ (y.B ≤ id ∧ id < y.nx) := by
  unfold indF at h
  split at h
  · rename_i h1
    split at h
    · rename_i h2; exact ⟨apt_iff.1 h1, apt_iff.1 h2, outR_iff.1 h⟩
    · cases h
  · cases h

/-- What comes of the operations from the i-th on. -/
structure Out (P : Program) (T : Tab) (all : Array Oper) (ops : List Oper) (us : List Nat) (i : Nat) (acc : List Ft) (s : St) (l : List Ent) (e : St) : Prop where
  tr : Tr P T all l s e
  nums : ∀ j o, ops[j]? = some o → ∃ x ∈ l, x.i = i + j
  of : ∀ x ∈ l, ∃ j, x.i = i + j ∧ ops[j]? = some x.o
  nx : s.nx ≤ e.nx
  lo : ∀ x ∈ l, s.nx ≤ x.B ∧ x.B ≤ x.r.nx ∧ x.r.nx ≤ e.nx
  two : l.Pairwise fun y x => y.i < x.i ∧ y.r.nx ≤ x.B ∧ y.B ≤ y.r.nx ∧ (indF y.ft x.ft = true ∨ bitN (us.getD (x.i - i) 0) y.i = true)
  acc : ∀ y ∈ acc, ∀ x ∈ l, indF y x.ft = true ∨ bitN (us.getD (x.i - i) 0) y.i = true

theorem put_mrg (s : St) (d : Option Nat) : Eqv (s.put d .skip) (s.mrg [] d ((⟨[], [], s.nx⟩ : St).put d .skip)) :=
  Sk.eqv (x := ⟨0, ⟨d, .move (.tmp 0), 0, "", #[], none⟩, [], [], s.nx, (⟨[], [], s.nx⟩ : St).put d .skip⟩) ⟨rfl, rfl⟩

theorem dxE_out {o : Oper} {u i : Nat} {acc : List Ft} {k : List Ft → St → Prop} (h : dxE P T o u i acc s k) :
    ∃ x : Ent, x.i = i ∧ x.o = o ∧ x.B = s.nx ∧ Ex P T x s ∧ s.nx ≤ x.r.nx ∧ (∀ y ∈ acc, indF y x.ft = true ∨ bitN u y.i = true) ∧ (x.T = [] → x.W = []) ∧ k (push x.ft acc) (x.app s) := by
  unfold dxE dxL at h
  generalize clo s.os (uni (midsA (pickL (opT o) s.tm)) []) = Tt at h
  obtain ⟨r, h1, h2⟩ := aopX_det h
  unfold dxR at h2
  have hW : Tt = [] → wOf (stOp o.op) Tt r.os = [] := fun h => by subst h; exact wOf_nil
  generalize wOf (stOp o.op) Tt r.os = W at h2 hW
  obtain ⟨h3, h4, h5, h6, h7, h8, h9, h10, h11⟩ := h2
  refine ⟨⟨i, o, Tt, W, s.nx, r⟩, rfl, rfl, rfl, ⟨h1, fit_of h3 h4 h5 h6 h7 h8, sameO_spec h9, fun t ht => ?_⟩, h6, accB_spec h10, hW, h11⟩
  have ht' : o.dst = some t := ht
  rw [ht'] at h8
  simp only [rvP] at h8
  cases hl : lk t r.tm with
  | none => rw [hl] at h8; cases h8
  | some d => rfl
theorem push_mem {x y : Ft} {l : List Ft} (h : y ∈ l) : y ∈ push x l := by
  unfold push
  split
  · exact List.mem_cons_of_mem _ h
  · split
    · exact h
    · exact List.mem_cons_of_mem _ h
theorem push_self {x : Ft} {l : List Ft} : x ∈ push x l ∨ (x.T = [] ∧ x.nx = x.B) := by
  unfold push
  split
  · exact .inl (by simp)
  · rename_i h
    split
    · rename_i h'; exact .inr ⟨h, h'⟩
    · exact .inl (by simp)
theorem ut_getD {us : List Nat} {k : Nat} : (ut us).getD k 0 = us.getD (k + 1) 0 := by cases us <;> rfl
theorem uh_getD {us : List Nat} : uh us = us.getD 0 0 := by cases us <;> rfl
theorem out_cons {o : Oper} {rest : List Oper} {us : List Nat} {i : Nat} {acc acc' : List Ft} {x : Ent} {s1 : St} {l : List Ent} (h1 : x.i = i) (h2 : x.o = o) (hg : Good P T all x s) (hB : x.B = s.nx) (hnx : s.nx ≤ x.r.nx)
    (hacc : ∀ y ∈ acc, indF y x.ft = true ∨ bitN (uh us) y.i = true) (ho : Out P T all rest (ut us) (i + 1) acc' s1 l e) (he : Eqv s1 (x.app s)) (hn1 : s1.nx = x.r.nx) (hsub : ∀ y ∈ acc, y ∈ acc')
    (hself : x.ft ∈ acc' ∨ (x.T = [] ∧ x.W = [] ∧ x.r.nx = x.B)) : Out P T all (o :: rest) us i acc s (x :: l) e where
  tr := ⟨hg, ho.tr.eqv he⟩
  nums j o' hj := by
    cases j with
    | zero => exact ⟨x, by simp, by omega⟩
    | succ j =>
      obtain ⟨y, hy, hyi⟩ := ho.nums j o' (by simpa using hj)
      exact ⟨y, by simp [hy], by omega⟩
  of y hy := by
    rcases List.mem_cons.1 hy with rfl | hy
    · exact ⟨0, by omega, by simp [h2]⟩
    · obtain ⟨j, hj1, hj2⟩ := ho.of y hy
      exact ⟨j + 1, by omega, by simpa using hj2⟩
  nx := by have := ho.nx; omega
  lo y hy := by
    have h3 := ho.nx
    rcases List.mem_cons.1 hy with rfl | hy
    · exact ⟨by omega, by omega, by omega⟩
    · have := ho.lo y hy
      omega
  two := by
    have hus : ∀ y ∈ l, (ut us).getD (y.i - (i + 1)) 0 = us.getD (y.i - i) 0 := fun y hy => by
      obtain ⟨j, hj1, _⟩ := ho.of y hy
      rw [ut_getD, show y.i - (i + 1) + 1 = y.i - i from by omega]
    refine List.pairwise_cons.2 ⟨fun y hy => ?_, ho.two.imp_of_mem fun {z y} _ hy h => ⟨h.1, h.2.1, h.2.2.1, by rw [← hus y hy]; exact h.2.2.2⟩⟩
    obtain ⟨j, hj1, _⟩ := ho.of y hy
    have h3 := ho.lo y hy
    refine ⟨by omega, by omega, by omega, ?_⟩
    rcases hself with h4 | ⟨h4, h5, h6⟩
    · rw [← hus y hy]; exact ho.acc _ h4 y hy
    · exact .inl (indF_none h4 h5 h6)
  acc y hy z hz := by
    rcases List.mem_cons.1 hz with rfl | hz
    · rw [h1, Nat.sub_self, ← uh_getD]; exact hacc y hy
    · obtain ⟨j, hj1, _⟩ := ho.of z hz
      have := ho.acc y (hsub y hy) z hz
      rwa [ut_getD, show z.i - (i + 1) + 1 = z.i - i from by omega] at this

theorem dx_out : ∀ (ops : List Oper) (us : List Nat) (i : Nat) (acc : List Ft) (s : St), dx P T all ops us i acc K s → ∃ l e, K e ∧ Out P T all ops us i acc s l e
  | [], us, i, acc, s, h => ⟨[], s, h, ⟨⟨fun _ => rfl, fun _ => rfl⟩, fun j o h => by simp at h, fun x h => (by cases h), Nat.le_refl _, fun x h => (by cases h), .nil, fun y _ x h => (by cases h)⟩⟩
  | o :: rest, us, i, acc, s, h => by
    have hexec : ∀ s1 : St, s1.nx = s.nx → Eqv s1 s → dxE P T o (uh us) i acc s1 (fun acc' s' => dx P T all rest (ut us) (i + 1) acc' K s') → (∀ x : Ent, x.o = o → Ex P T x s → Good P T all x s) →
        ∃ l e, K e ∧ Out P T all (o :: rest) us i acc s l e := fun s1 hn1 he h hgood => by
      obtain ⟨x, h1, h2, h3, h4, h5, h6, h7, h8⟩ := dxE_out h
      obtain ⟨l, e, h9, h10⟩ := dx_out rest (ut us) (i + 1) _ _ h8
      have hx : Ex P T x s := h4.of (fun t _ => he.1 t) (fun i _ => he.2 i)
      refine ⟨x :: l, e, h9, out_cons h1 h2 (hgood x h2 hx) (by omega) (by omega) h6 h10 he.app rfl (fun y hy => push_mem hy) ?_⟩
      rcases push_self (x := x.ft) (l := acc) with h | ⟨h, h'⟩
      · exact .inl h
      · exact .inr ⟨h, h7 h, h'⟩
    have hskip : ∀ s1 : St, s1.nx = s.nx → Eqv s1 s → dx P T all rest (ut us) (i + 1) acc K (s1.put o.dst .skip) → (∀ x : Ent, x.o = o → Sk x → Good P T all x s) → ∃ l e, K e ∧ Out P T all (o :: rest) us i acc s l e := fun s1 hn1 he h hgood => by
      obtain ⟨l, e, h9, h10⟩ := dx_out rest (ut us) (i + 1) _ _ h
      have hput : ∀ s : St, (s.put o.dst .skip).nx = s.nx := fun s => by cases o.dst <;> rfl
      exact ⟨⟨i, o, [], [], s.nx, (⟨[], [], s.nx⟩ : St).put o.dst .skip⟩ :: l, e, h9, out_cons rfl rfl (hgood _ rfl ⟨rfl, rfl⟩) rfl (by simp [hput]) (fun y hy => .inl (indF_none2 rfl rfl)) h10 ((put_eqv he).trans (put_mrg s o.dst)) (by simp [hput, hn1]) (fun y hy => hy) (.inr ⟨rfl, rfl, by simp [hput]⟩)⟩
    rw [dx] at h
    split at h
    · rename_i hg
      exact hexec s rfl ⟨fun _ => rfl, fun _ => rfl⟩ h fun x hx hE => by unfold Good; rw [hx, hg]; exact hE
    · rename_i j w hg
      unfold grd at h
      generalize hv : s.gd (gtmp all j) = v at h
      split at h
      · rename_i b
        have hrep : ∀ w', b = w' → Eqv (s.rep (gtmp all j) (.bool w')) s := fun w' hw => by
          subst hw
          cases ht : gtmp all j with
          | none => exact ⟨fun _ => rfl, fun _ => rfl⟩
          | some t =>
            refine ⟨fun u => ?_, fun _ => rfl⟩
            rw [ht] at hv
            simp only [St.rep, lk_upd]
            split
            · rename_i hc
              obtain ⟨y, hy⟩ := Option.isSome_iff_exists.1 hc.2
              have : s.get t = y := by simp [St.get, hy]
              rw [hc.1, hy, ← this]
              exact congrArg _ hv.symm
            · rfl
        have hrnx : ∀ d, (s.rep (gtmp all j) d).nx = s.nx := fun d => by cases gtmp all j <;> rfl
        by_cases hb : b = w
        · refine hexec _ (hrnx _) (hrep w hb) (h.1 hb) fun x hx hE => ?_
          unfold Good
          rw [hx, hg]
          simp only [hv]
          exact ⟨fun _ => hE, fun h => by rw [hb] at h; cases w <;> cases h⟩
        · have hb' : b = !w := by cases b <;> cases w <;> simp_all
          refine hskip _ (hrnx _) (hrep _ hb') (h.2 hb') fun x hx hS => ?_
          unfold Good
          rw [hx, hg]
          simp only [hv]
          exact ⟨fun h => absurd h hb, fun _ => hS⟩
      · refine hskip s rfl ⟨fun _ => rfl, fun _ => rfl⟩ h fun x hx hS => ?_
        unfold Good
        rw [hx, hg]
        simp only [hv]
        exact hS
      · cases h

/-- Those that an operation waits for, of itself or through others. -/
def ancM (As : List Nat) : List Edge → Nat
  | [] => 0
  | e :: l => match bnd e.ground with
    | true => ((1 <<< e.on) ||| As.getD e.on 0) ||| ancM As l
    | false => ancM As l
/-- What must be of a region's text: each waits but for earlier ones; those that do not wait have no temporaries in common. -/
def prsB (all : Array Oper) : Nat → List (Nat × Oper) → List Nat → List Oper → List Nat → Bool
  | _, _, _, [], _ => true
  | _, _, _, _ :: _, [] => false
  | i, pre, As, o :: rest, u :: us => Nat.beq u (ancM As o.after.toList) && (o.after.toList.all fun ed => !bnd ed.ground || Nat.blt ed.on i) && (pre.all fun p => bitN u p.1 || p.2.apart all o) && prsB all (i + 1) ((i, o) :: pre) (As ++ [u]) rest us
theorem bitN_or {a b i : Nat} (h : bitN (a ||| b) i = true) : bitN a i = true ∨ bitN b i = true := by
  have e : ∀ m, bitN m i = m.testBit i := fun m => by
    rw [Nat.testBit_eq_decide_div_mod_eq, bitN, Nat.shiftRight_eq_div_pow]
    by_cases h : m / 2 ^ i % 2 = 1 <;> simp [h]
  rw [e, Nat.testBit_or, Bool.or_eq_true] at h
  rw [e, e]
  exact h
theorem bitN_one {a i : Nat} (h : bitN (1 <<< a) i = true) : a = i := by
  unfold bitN at h
  split at h
  · rename_i h1
    rw [Nat.one_shiftLeft, Nat.shiftRight_eq_div_pow, ← decide_eq_true_eq (p := _ = 1), ← Nat.testBit_eq_decide_div_mod_eq, Nat.testBit_two_pow] at h1
    simpa using h1
  · cases h
theorem bitN_zero {i : Nat} : bitN 0 i = false := by simp [bitN]
theorem binds_bnd {ed : Edge} : Region.binds .any ed = bnd ed.ground := by
  obtain ⟨on, gr⟩ := ed
  cases gr <;> rfl
theorem ancM_spec {o : Oper} {i : Nat} (ho : all[i]? = some o) {As : List Nat} (hA : ∀ j p, bitN (As.getD j 0) p = true → Anc all p j) : ∀ {l : List Edge}, (∀ ed ∈ l, ed ∈ o.after) → ∀ p, bitN (ancM As l) p = true → Anc all p i
  | [], _, p, h => by rw [ancM, bitN_zero] at h; cases h
  | e :: l, hl, p, h => by
    rw [ancM] at h
    split at h
    · rename_i hb
      have hb' : Region.binds .any e = true := by rw [binds_bnd]; exact hb
      rcases bitN_or h with h | h
      · rcases bitN_or h with h | h
        · have := bitN_one h
          subst this
          exact .one ho (hl e (by simp)) hb'
        · exact .more ho (hl e (by simp)) hb' (hA _ _ h)
      · exact ancM_spec ho hA (fun ed hed => hl ed (by simp [hed])) p h
    · exact ancM_spec ho hA (fun ed hed => hl ed (by simp [hed])) p h
theorem prsB_spec : ∀ {ops : List Oper} {i : Nat} {pre : List (Nat × Oper)} {As us : List Nat}, prsB all i pre As ops us = true → As.length = i → (∀ j p, bitN (As.getD j 0) p = true → Anc all p j) → (∀ j : Nat, ops[j]? = all[i + j]?) →
    (∀ (j : Nat) (o : Oper), ops[j]? = some o → ∀ ed ∈ o.after, Region.binds .any ed = true → ed.on < i + j) ∧ (∀ p ∈ pre, ∀ (j : Nat) (o : Oper), ops[j]? = some o → bitN (us.getD j 0) p.1 = true ∨ p.2.apart all o = true) ∧
    (∀ (j k : Nat) (o o' : Oper), j < k → ops[j]? = some o → ops[k]? = some o' → bitN (us.getD k 0) (i + j) = true ∨ o.apart all o' = true) ∧ ∀ (j : Nat) (o : Oper), ops[j]? = some o → ∀ p, bitN (us.getD j 0) p = true → Anc all p (i + j)
  | [], _, _, _, _, _, _, _, _ => ⟨fun j o h => by simp at h, fun p _ j o h => by simp at h, fun j k o o' _ h => by simp at h, fun j o h => by simp at h⟩
  | o :: rest, i, pre, As, [], h, _, _, _ => by simp [prsB] at h
  | o :: rest, i, pre, As, u :: us, h, hl, hA, hops => by
    simp only [prsB, Bool.and_eq_true] at h
    obtain ⟨⟨⟨h0, h1⟩, h2⟩, h3⟩ := h
    have ho : all[i]? = some o := by rw [← Nat.add_zero i, ← hops 0]; rfl
    have hu : ∀ p, bitN u p = true → Anc all p i := fun p hp => ancM_spec ho hA (l := o.after.toList) (fun ed hed => by simpa using hed) p (by rw [← Nat.eq_of_beq_eq_true h0]; exact hp)
    have hA' : ∀ j p, bitN ((As ++ [u]).getD j 0) p = true → Anc all p j := fun j p hp => by
      rw [List.getD_eq_getElem?_getD, List.getElem?_append] at hp
      split at hp
      · exact hA j p (by rw [List.getD_eq_getElem?_getD]; exact hp)
      · rename_i hj
        by_cases hji : j = i
        · subst hji
          rw [← hl, Nat.sub_self] at hp
          rw [← hl]
          exact hl ▸ hu p (by simpa using hp)
        · rw [List.getElem?_eq_none (by simp; omega)] at hp
          simp [bitN_zero] at hp
    obtain ⟨h4, h5, h6, h7⟩ := prsB_spec h3 (by simp [hl]) hA' (fun j => by have := hops (j + 1); simpa [Nat.add_assoc, Nat.add_comm 1 j] using this)
    refine ⟨fun j o' hj ed hed hb => ?_, fun p hp j o' hj => ?_, fun j k o1 o2 hjk hj hk => ?_, fun j o' hj p hp => ?_⟩
    · cases j with
      | zero =>
        obtain rfl : o = o' := by simpa using hj
        have h7 := List.all_eq_true.1 h1 ed (by simpa using hed)
        rw [← binds_bnd, hb] at h7
        simp only [Bool.not_true, Bool.false_or, Nat.blt_eq] at h7
        omega
      | succ j =>
        have := h4 j o' (by simpa using hj) ed hed hb
        omega
    · cases j with
      | zero =>
        obtain rfl : o = o' := by simpa using hj
        have := List.all_eq_true.1 h2 p hp
        simpa using this
      | succ j => exact h5 p (by simp [hp]) j o' (by simpa using hj)
    · cases k with
      | zero => omega
      | succ k =>
        cases j with
        | zero =>
          obtain rfl : o = o1 := by simpa using hj
          exact h5 (i, o) (by simp) k o2 (by simpa using hk)
        | succ j =>
          have := h6 j k o1 o2 (by omega) (by simpa using hj) (by simpa using hk)
          rwa [show i + 1 + j = i + (j + 1) from by omega] at this
    · cases j with
      | zero => exact hu p (by simpa using hp)
      | succ j =>
        have := h7 j o' (by simpa using hj) p (by simpa using hp)
        rwa [show i + 1 + j = i + (j + 1) from by omega] at this

/-- A region whose order is drawn: carried out as it is written, if what does not wait touches nothing in common. -/
theorem ADraw.run (us : List Nat) (hT : TabOk P T) {i : Nat} {ops : Array Oper} {Q : Exit → St → Prop} (hm : P.follows .mixedOrders = true) (hB : prsB ops 0 [] [] ops.toList us = true) (hd : ops.toList.all (dstOk1 n) = true)
    (h : dx P T ops ops.toList us 0 [] (Q .normal) s) : ADraw P n N i ops Q s := by
  intro δ g a w hr hn
  obtain ⟨l, e, hK, ho⟩ := dx_out _ _ _ _ _ h
  obtain ⟨hp1, _, hp3, hp4⟩ := prsB_spec hB rfl (fun j p h => by simp [bitN_zero] at h) (fun j => by simp)
  have hof : ∀ x ∈ l, ops[x.i]? = some x.o := fun x hx => by
    obtain ⟨j, h1, h2⟩ := ho.of x hx
    have : x.i = j := by omega
    rw [this]
    simpa using h2
  have hC : Ext w { w with drawn := w.drawn + 1 } := ⟨Nat.le_refl _, fun _ _ => rfl, rfl, rfl, rfl⟩
  obtain ⟨h6, h7⟩ := hr.o.grow hC (I := g.I) (fun b hb => hb) (fun b _ hb => hb) (fun b hb => (hr.o.cel b hb).keep (hC.2.1 b (hr.o.imm b hb).1))
  have hr' : Rel δ (g.imm g.I) s a { w with drawn := w.drawn + 1 } := hr.of h6 h7.tm rfl
  have hlen : l.length = ops.size := by
    have hnd : (l.map (·.i)).Pairwise (· < ·) := (List.pairwise_map).2 (ho.two.imp fun h => h.1)
    have h1 : l.map (·.i) = List.range ops.size := by
      refine List.Perm.eq_of_pairwise (le := (· < ·)) (fun a b _ _ h h' => by omega) hnd List.pairwise_lt_range ?_
      refine (List.perm_ext_iff_of_nodup (hnd.imp fun h => Nat.ne_of_lt h) List.nodup_range).2 fun k => ?_
      rw [List.mem_map, List.mem_range]
      constructor
      · rintro ⟨x, hx, rfl⟩
        exact (Array.getElem?_eq_some_iff.1 (hof x hx)).1
      · intro hk
        obtain ⟨x, hx, hxi⟩ := ho.nums k ops[k] (by simp [hk])
        exact ⟨x, hx, by omega⟩
    have h2 := congrArg List.length h1
    simpa using h2
  refine wp_region_any hm (drawn_sound (e := e) hT.toS hd (fun i o hi ed hed hb => ?_) ops.size _ l _ s a _ hlen (by simp) (fun i o hi => ?_) (fun i hi => ?_) hof ?_ (fun x hx => ⟨(ho.lo x hx).2.2, (ho.lo x hx).2.1⟩) ho.tr (hr'.toP.less fun id hid => ?_) hn fun g' a' w' h1 h2 h3 => ?_)
  · have := hp1 i o (by simpa using hi) ed hed hb
    omega
  · by_cases hsz : i < ops.size <;> simp [Array.getD, hsz] at hi
  · constructor
    · intro _
      obtain ⟨x, hx, hxi⟩ := ho.nums i ops[i] (by simp [hi])
      exact ⟨x, hx, by omega⟩
    · intro _
      simp [Array.getD, hi]
  · refine ho.two.imp_of_mem fun {y x} hy hx h => ⟨h.1, h.2.1, h.2.2.1, ?_⟩
    rw [Nat.sub_zero] at h
    by_cases hed : bitN (us.getD x.i 0) y.i = true
    · left
      have := hp4 x.i x.o (by simpa using hof x hx) y.i hed
      rwa [Nat.zero_add] at this
    · right
      have h8 := indF_spec (h.2.2.2.resolve_right hed)
      have h9 := hp3 y.i x.i y.o x.o h.1 (by simpa using hof y hy) (by simpa using hof x hx)
      rw [Nat.zero_add] at h9
      exact ⟨h9.resolve_left hed, h8.1, h8.2.1, h8.2.2, h.2.1, h.2.2.1⟩
  · rcases hid with ⟨x, hx, h1, h2⟩ | h1
    · have := ho.lo x hx; omega
    · have := ho.nx; omega
  · refine ⟨g', e, hK, h1.toR fun id hid => hid, h2, ?_⟩
    have h10 : Step g s w (g.imm g.I) s { w with drawn := w.drawn + 1 } := h7.tm
    exact (h10.trans h3).toN
end
end Dm
