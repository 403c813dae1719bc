import Derived.Test.YtpaojpjhppgoeaaS21
set_option linter.unusedSimpArgs false
set_option linter.unusedVariables false
/-! One operation, carried out with just what it touches of a state. -/
namespace Dm
open Go
section
variable {δ : List Deferred} {P : Program} {T : Tab} {g g' g1 g2 : G} {s s' r : St} {a a' : Act} {w w' : World} {n N : Nat}

/-- A state's objects; what is free is told apart. -/
structure RelF (F : Nat → Prop) (g : G) (s : St) (w : World) : Prop where
  ok : ∀ id o, lk id s.os = some o → OK g w id o
  apart : ∀ id o id' o' b, lk id s.os = some o → lk id' s.os = some o' → g.blk id o = some b → g.blk id' o' = some b → id = id'
  fresh : ∀ id, F id → g.ρ id = none ∧ g.κ id = none
  imm : ∀ b, g.I b → b < w.heap.size ∧ ¬ Own g s b
  cel : ∀ b, g.I b → Cel w b
structure RelP (F : Nat → Prop) (δ : List Deferred) (g : G) (s : St) (a : Act) (w : World) : Prop where
  tm : ∀ t d, lk t s.tm = some d → ∃ v, a.tmps[t]? = some v ∧ VRel g w v d
  defers : a.defers = δ
  o : RelF F g s w
theorem Rel.toP (h : Rel δ g s a w) : RelP (fun id => s.nx ≤ id) δ g s a w := ⟨h.tm, h.defers, h.o.ok, h.o.apart, h.o.fresh, h.o.imm, h.o.cel⟩
theorem RelP.toR {F : Nat → Prop} (h : RelP F δ g s a w) (hF : ∀ id, s.nx ≤ id → F id) : Rel δ g s a w := ⟨h.tm, h.defers, h.o.ok, h.o.apart, fun id hid => h.o.fresh id (hF id hid), h.o.imm, h.o.cel⟩
theorem RelP.less {F F' : Nat → Prop} (h : RelP F δ g s a w) (hF : ∀ id, F' id → F id) : RelP F' δ g s a w := ⟨h.tm, h.defers, h.o.ok, h.o.apart, fun id hid => h.o.fresh id (hF id hid), h.o.imm, h.o.cel⟩

/-! ### The objects that are named -/
mutual
def mids : D → List Nat
  | .ref id _ => [id]
  | .eref id _ _ _ _ => [id]
  | .vec id _ => [id]
  | .view id _ _ _ _ => [id]
  | .fn _ l m => midsL l ++ midsL m
  | .agg l => midsL l
  | .tup l => midsL l
  | _ => []
def midsL : List D → List Nat
  | [] => []
  | d :: l => mids d ++ midsL l
end
theorem mem_midsL {i : Nat} {d : D} {id : Nat} : ∀ {l : List D} {j : Nat}, l[j]? = some d → id ∈ mids d → id ∈ midsL l
  | [], j, h, _ => by simp at h
  | x :: l, 0, h, hi => by
    have : x = d := by simpa using h
    subst this
    rw [midsL]
    exact List.mem_append_left _ hi
  | x :: l, j + 1, h, hi => by
    rw [midsL]
    exact List.mem_append_right _ (mem_midsL (i := i) (by simpa using h) hi)
def mob : Ob → List Nat
  | .box cs => midsL cs
  | .vec .. => []
theorem VRel.agree {v : Value} {d : D} (h : VRel g w v d) (hI : ∀ b, g.I b → g1.I b) (hρ : ∀ id ∈ mids d, g1.ρ id = g.ρ id) (hκ : ∀ id ∈ mids d, g1.κ id = g.κ id) : VRel g1 w v d := by
  induction h with
  | undef v => exact .undef v
  | skip => exact .skip
  | c v x h => exact .c v x (h.mono (fun _ _ => rfl) hI)
  | ref b id off h => exact .ref b id off (by rw [hρ id (by simp [mids])]; exact h)
  | eref b o id n sz i off a len cap h hn hv => exact .eref b o id n sz i off a len cap (by rw [hκ id (by simp [mids])]; exact h) hn hv
  | rp b off cs vs hi hcell => exact .rp b off cs vs (hI b hi) fun j y hy => ⟨(hcell j y hy).1, (hcell j y hy).2.mono (fun _ _ => rfl) hI⟩
  | nilp => exact .nilp
  | nilf => exact .nilf
  | fn f fi ca dfi dca h1 h2 _ _ ih1 ih2 =>
    refine .fn f fi ca dfi dca h1 h2 (fun i v d hv hd => ih1 i v d hv hd (fun id hid => hρ id ?_) (fun id hid => hκ id ?_)) (fun i v d hv hd => ih2 i v d hv hd (fun id hid => hρ id ?_) (fun id hid => hκ id ?_)) <;> rw [mids]
    · exact List.mem_append_left _ (mem_midsL (i := 0) hd hid)
    · exact List.mem_append_left _ (mem_midsL (i := 0) hd hid)
    · exact List.mem_append_right _ (mem_midsL (i := 0) hd hid)
    · exact List.mem_append_right _ (mem_midsL (i := 0) hd hid)
  | nil => exact .nil
  | csl a els h => exact .csl a els (h.mono (fun _ _ => rfl) hI)
  | vec x y id n a len cap h hn hm ha hv => exact .vec x y id n a len cap (by rw [hκ id (by simp [mids])]; exact h) hn hm ha hv
  | view x y id c sz lo hi a len cap h hc hl hh hm hv => exact .view x y id c sz lo hi a len cap (by rw [hκ id (by simp [mids])]; exact h) hc hl hh hm hv
  | agg vs ds h _ ih => exact .agg vs ds h fun i v d hv hd => ih i v d hv hd (fun id hid => hρ id (by rw [mids]; exact mem_midsL (i := 0) hd hid)) (fun id hid => hκ id (by rw [mids]; exact mem_midsL (i := 0) hd hid))
  | tup vs ds h _ ih => exact .tup vs ds h fun i v d hv hd => ih i v d hv hd (fun id hid => hρ id (by rw [mids]; exact mem_midsL (i := 0) hd hid)) (fun id hid => hκ id (by rw [mids]; exact mem_midsL (i := 0) hd hid))
theorem OK.agree {id : Nat} {o : Ob} (h : OK g w id o) (hI : ∀ b, g.I b → g1.I b) (hρ : ∀ i, i = id ∨ i ∈ mob o → g1.ρ i = g.ρ i) (hκ : ∀ i, i = id ∨ i ∈ mob o → g1.κ i = g.κ i) : OK g1 w id o := by
  cases o with
  | box cs =>
    obtain ⟨b, e, cells, h1, h2, h3, h4⟩ := h
    exact ⟨b, e, cells, by rw [hρ id (.inl rfl)]; exact h1, h2, h3, fun i v d hv hd => (h4 i v d hv hd).agree hI (fun i hi => hρ i (.inr (mem_midsL (i := 0) hd hi))) (fun i hi => hκ i (.inr (mem_midsL (i := 0) hd hi)))⟩
  | vec hd sz e els =>
    obtain ⟨a0, cap, h1, h2, h3, h4, h5⟩ := h
    refine ⟨a0, cap, by rw [hκ id (.inl rfl)]; exact h1, h2, h3, h4, ?_⟩
    rcases h5 with h5 | ⟨b, off, cells, vs, rfl, h6, h7, h9, h8⟩
    · exact .inl h5
    · exact .inr ⟨b, off, cells, vs, rfl, h6, h7, h9, fun i j x y hx hy => ⟨(h8 i j x y hx hy).1, (h8 i j x y hx hy).2.mono (fun _ _ => rfl) hI⟩⟩
theorem blk_agree {id : Nat} {o : Ob} (hρ : g1.ρ id = g.ρ id) (hκ : g1.κ id = g.κ id) : g1.blk id o = g.blk id o := by
  cases o <;> simp [G.blk, hρ, hκ]

/-! ### A part of a state -/
def pickL {α : Type} : List Nat → List (Nat × α) → List (Nat × α)
  | [], _ => []
  | k :: ks, l => match lk k l with
    | some x => (k, x) :: pickL ks l
    | none => pickL ks l
theorem lk_pickL {α : Type} {k : Nat} {l : List (Nat × α)} : ∀ {ks : List Nat}, lk k (pickL ks l) = if k ∈ ks then lk k l else none
  | [] => by simp [pickL, lk]
  | i :: ks => by
    rw [pickL]
    cases hl : lk i l with
    | none =>
      simp only []
      rw [lk_pickL]
      by_cases hk : k = i
      · subst hk; simp [hl]
      · simp [hk]
    | some x =>
      simp only [lk_cons]
      by_cases hk : k = i
      · subst hk; simp [hl]
      · simp [hk, lk_pickL]
theorem lk_app {α : Type} {k : Nat} {l' : List (Nat × α)} : ∀ {l : List (Nat × α)}, lk k (l ++ l') = (lk k l).or (lk k l')
  | [] => by simp [lk]
  | (m, x) :: l => by
    simp only [List.cons_append, lk_cons]
    split
    · rfl
    · exact lk_app
theorem lk_without {α : Type} {k : Nat} {T : List Nat} : ∀ {l : List (Nat × α)}, lk k (l.filter fun p => !T.contains p.1) = if k ∈ T then none else lk k l
  | [] => by simp [lk]
  | (m, x) :: l => by
    rw [List.filter_cons]
    by_cases hm : m ∈ T
    · rw [if_neg (by simp [hm]), lk_without, lk_cons]
      by_cases hk : k = m
      · subst hk; simp [hm]
      · simp [hk]
    · rw [if_pos (by simp [hm]), lk_cons, lk_cons, lk_without]
      by_cases hk : k = m
      · subst hk; simp [hm]
      · simp [hk]
/-- What an operation looks at: of the temporaries rd, of the objects T; new ones from B on. -/
def St.loc (rd T : List Nat) (B : Nat) (s : St) : St := ⟨pickL rd s.tm, pickL T s.os, B⟩
/-- Behind it. -/
def St.mrg (s : St) (T : List Nat) (d : Option Nat) (r : St) : St :=
  ⟨(match d with | some t => (t, r.get t) :: s.tm | none => s.tm), r.os ++ s.os.filter (fun p => !T.contains p.1), r.nx⟩

/-- What must be of it. -/
structure Fit (rd T : List Nat) (B : Nat) (d : Option Nat) (s r : St) : Prop where
  low : ∀ id ∈ T, id < B
  vals : ∀ t x, t ∈ rd → lk t s.tm = some x → ∀ id ∈ mids x, id ∈ T
  obs : ∀ i o, i ∈ T → lk i s.os = some o → ∀ id ∈ mob o, id ∈ T
  nx : B ≤ r.nx
  ros : ∀ i o, lk i r.os = some o → (i ∈ T ∨ B ≤ i ∧ i < r.nx) ∧ ∀ id ∈ mob o, id ∈ T ∨ B ≤ id ∧ id < r.nx
  rv : ∀ t, d = some t → ∀ id ∈ mids (r.get t), id ∈ T ∨ B ≤ id ∧ id < r.nx

theorem Oper.wp_put {o : Oper} {K : Act → World → Prop} {Q : Exit → Act → World → Prop} (h : o.wp P a w K Q) : o.wp P a w (fun a' w' => K a' w' ∧ ∃ v, a'.tmps = (a.put o.dst v).tmps) Q := by
  unfold Oper.wp at *
  generalize (execOp a.eval o).run P w = r at *
  cases r with
  | ok n w' =>
    cases n <;> simp only [Oper.upon] at h ⊢
    case value v => exact ⟨h, _, rfl⟩
    case skip => exact ⟨h, _, rfl⟩
    case defer x => exact ⟨h, undef, by cases o.dst <;> rfl⟩
    case enter f args => exact h.mono fun e w'' he => by cases e <;> first | exact ⟨he, _, rfl⟩ | exact he
    case row row args => exact h.mono fun v w'' he => ⟨he, _, rfl⟩
  | halt x w' => cases x <;> simp only [Oper.upon] at h ⊢ <;> exact h
theorem put_tmps_ne {d : Option Nat} {v : Value} {t : Nat} (h : d ≠ some t) : (a.put d v).tmps[t]? = a.tmps[t]? := by
  cases d with
  | none => rfl
  | some u =>
    have : u ≠ t := fun e => h (by rw [e])
    simp [Act.put, this]

/-- The ghost, of these objects alone. -/
def G.only (g : G) (T : List Nat) : G := ⟨fun id => if id ∈ T then g.ρ id else none, fun id => if id ∈ T then g.κ id else none, g.I⟩
/-- The ghost, turned at an operation's objects. -/
def G.mrg (g g' : G) (T : List Nat) (B nx : Nat) : G := ⟨fun id => if id ∈ T ∨ B ≤ id ∧ id < nx then g'.ρ id else g.ρ id, fun id => if id ∈ T ∨ B ≤ id ∧ id < nx then g'.κ id else g.κ id, g'.I⟩

theorem loc_rel {F : Nat → Prop} {rd Tr : List Nat} {B : Nat} {d : Option Nat} (hr : RelP F δ g s a w) (hf : Fit rd Tr B d s r) : Rel δ (g.only Tr) (s.loc rd Tr B) a w := by
  have hρ : ∀ id ∈ Tr, (g.only Tr).ρ id = g.ρ id := fun id h => by simp [G.only, h]
  have hκ : ∀ id ∈ Tr, (g.only Tr).κ id = g.κ id := fun id h => by simp [G.only, h]
  have hos : ∀ id o, lk id (s.loc rd Tr B).os = some o → id ∈ Tr ∧ lk id s.os = some o := fun id o h => by
    simp only [St.loc, lk_pickL] at h
    split at h
    · exact ⟨by assumption, h⟩
    · cases h
  have hown : ∀ b, Own (g.only Tr) (s.loc rd Tr B) b → Own g s b := fun b ⟨id, o, h1, h2⟩ => by
    obtain ⟨h3, h4⟩ := hos id o h1
    exact ⟨id, o, h4, by rwa [blk_agree (hρ id h3) (hκ id h3)] at h2⟩
  refine ⟨fun t x ht => ?_, hr.defers, ⟨fun id o h => ?_, fun id o id' o' b h1 h2 h3 h4 => ?_, fun id hid => ?_, fun b hb => ⟨(hr.o.imm b hb).1, fun h => (hr.o.imm b hb).2 (hown b h)⟩, hr.o.cel⟩⟩
  · simp only [St.loc, lk_pickL] at ht
    split at ht
    · rename_i hm
      obtain ⟨v, h1, h2⟩ := hr.tm t x ht
      exact ⟨v, h1, h2.agree (fun _ h => h) (fun id hid => hρ id (hf.vals t x hm ht id hid)) (fun id hid => hκ id (hf.vals t x hm ht id hid))⟩
    · cases ht
  · obtain ⟨h1, h2⟩ := hos id o h
    refine (hr.o.ok id o h2).agree (fun _ h => h) (fun i hi => hρ i ?_) (fun i hi => hκ i ?_) <;>
    · rcases hi with rfl | hi
      · exact h1
      · exact hf.obs id o h1 h2 i hi
  · obtain ⟨h5, h6⟩ := hos id o h1
    obtain ⟨h7, h8⟩ := hos id' o' h2
    rw [blk_agree (hρ id h5) (hκ id h5)] at h3
    rw [blk_agree (hρ id' h7) (hκ id' h7)] at h4
    exact hr.o.apart id o id' o' b h6 h8 h3 h4
  · have : id ∉ Tr := fun h => by
      have := hf.low id h
      have hid' : B ≤ id := hid
      omega
    simp [G.only, this]

theorem mrg_rel {F F' : Nat → Prop} {rd Tr : List Nat} {B : Nat} {d : Option Nat} (hr : RelP F δ g s a w) (hf : Fit rd Tr B d s r) (hF : ∀ id, B ≤ id → id < r.nx → F id) (hF' : ∀ id, F' id → F id ∧ (id < B ∨ r.nx ≤ id) ∧ id ∉ Tr)
    (hr' : Rel δ g' r a' w') (hst : Step (g.only Tr) (s.loc rd Tr B) w g' r w') (hput : ∃ v, a'.tmps = (a.put d v).tmps) (hd : ∀ t, d = some t → (lk t r.tm).isSome = true) :
    RelP F' δ (g.mrg g' Tr B r.nx) (s.mrg Tr d r) a' w' ∧ Step g s w (g.mrg g' Tr B r.nx) (s.mrg Tr d r) w' := by
  have hl := (loc_rel hr hf).o
  have hin : ∀ id, (id ∈ Tr ∨ B ≤ id ∧ id < r.nx) → (g.mrg g' Tr B r.nx).ρ id = g'.ρ id ∧ (g.mrg g' Tr B r.nx).κ id = g'.κ id := fun id h => by simp [G.mrg, h]
  have hout : ∀ id, ¬ (id ∈ Tr ∨ B ≤ id ∧ id < r.nx) → (g.mrg g' Tr B r.nx).ρ id = g.ρ id ∧ (g.mrg g' Tr B r.nx).κ id = g.κ id := fun id h => by simp only [G.mrg, h, if_false, and_self]
  have hle : g.Le (g.mrg g' Tr B r.nx) := by
    refine ⟨fun id b hb => ?_, fun id a l c hk => ?_, fun b hb => hst.le.I b hb⟩
    · by_cases h : id ∈ Tr ∨ B ≤ id ∧ id < r.nx
      · rw [(hin id h).1]
        rcases h with h | h
        · exact hst.le.ρ id b (by simp [G.only, h, hb])
        · rw [(hr.o.fresh id (hF id h.1 h.2)).1] at hb; cases hb
      · rw [(hout id h).1]; exact hb
    · by_cases h : id ∈ Tr ∨ B ≤ id ∧ id < r.nx
      · rw [(hin id h).2]
        rcases h with h | h
        · exact hst.le.κ id a l c (by simp [G.only, h, hk])
        · rw [(hr.o.fresh id (hF id h.1 h.2)).2] at hk; cases hk
      · rw [(hout id h).2]; exact ⟨a, l, c, hk, Nat.le_refl _, fun _ => ⟨rfl, rfl⟩⟩
  have hkeep : Keeps g.I w w' := fun b hb => hst.same b (hr.o.imm b hb).1 (hl.imm b hb).2
  have hown : ∀ b, Own (g.only Tr) (s.loc rd Tr B) b → Own g s b := fun b ⟨id, o, h1, h2⟩ => by
    simp only [St.loc, lk_pickL] at h1
    split at h1
    · rename_i h3
      exact ⟨id, o, h1, by rwa [blk_agree (g := g) (by simp [G.only, h3]) (by simp [G.only, h3])] at h2⟩
    · cases h1
  -- objects behind it
  have hlk : ∀ id o, lk id (s.mrg Tr d r).os = some o → lk id r.os = some o ∨ (id ∉ Tr ∧ lk id s.os = some o) := fun id o h => by
    simp only [St.mrg, lk_app, lk_without] at h
    cases hl : lk id r.os with
    | some x => rw [hl] at h; exact .inl h
    | none =>
      rw [hl] at h
      by_cases hm : id ∈ Tr
      · simp [hm] at h
      · exact .inr ⟨hm, by simpa [hm] using h⟩
  have hrng2 : ∀ id o, lk id s.os = some o → ¬ (B ≤ id ∧ id < r.nx) := fun id o ho h => by
    obtain ⟨h1, h2⟩ := hr.o.fresh id (hF id h.1 h.2)
    have := hr.o.ok id o ho
    cases o with
    | box cs => obtain ⟨b, e, cells, h3, _⟩ := this; rw [h1] at h3; cases h3
    | vec hd sz e els => obtain ⟨a0, cap, h3, _⟩ := this; rw [h2] at h3; cases h3
  -- a block of an object that was left alone
  have hother : ∀ id o b, id ∉ Tr → lk id s.os = some o → g.blk id o = some b → b < w.heap.size ∧ ¬ Own (g.only Tr) (s.loc rd Tr B) b := fun id o b hm ho hb => by
    refine ⟨?_, fun ⟨id', o', h1, h2⟩ => ?_⟩
    · have := hr.o.ok id o ho
      cases o with
      | box cs =>
        obtain ⟨b', e, cells, h3, h4, _⟩ := this
        have : g.ρ id = some b := hb
        rw [this] at h3; cases h3
        exact (Array.getElem?_eq_some_iff.1 h4).1
      | vec hd sz e els =>
        obtain ⟨a0, cap, h3, h4, h5, h6, h7⟩ := this
        simp only [G.blk, h3] at hb
        rcases h7 with ⟨rfl, _⟩ | ⟨b', off, cells, vs, rfl, h8, _⟩
        · cases hb
        · cases hb; exact (Array.getElem?_eq_some_iff.1 h8).1
    · simp only [St.loc, lk_pickL] at h1
      split at h1
      · rename_i h3
        rw [blk_agree (g := g) (by simp [G.only, h3]) (by simp [G.only, h3])] at h2
        have := hr.o.apart id o id' o' b ho h1 hb h2
        subst this
        exact hm h3
      · cases h1
  have hblk1 : ∀ id o, lk id r.os = some o → (g.mrg g' Tr B r.nx).blk id o = g'.blk id o := fun id o h => blk_agree (hin id (hf.ros id o h).1).1 (hin id (hf.ros id o h).1).2
  have hblk2 : ∀ id o, id ∉ Tr → lk id s.os = some o → (g.mrg g' Tr B r.nx).blk id o = g.blk id o := fun id o hm h => by
    have hn := hrng2 id o h
    exact blk_agree (hout id (fun h => h.elim hm hn)).1 (hout id (fun h => h.elim hm hn)).2
  have hownN : ∀ b, b < w.heap.size → ¬ Own g s b → ¬ Own (g.mrg g' Tr B r.nx) (s.mrg Tr d r) b := fun b hb hno ⟨id, o, h1, h2⟩ => by
    rcases hlk id o h1 with h3 | ⟨h3, h4⟩
    · rw [hblk1 id o h3] at h2
      exact hst.own b hb (fun h => hno (hown b h)) ⟨id, o, h3, h2⟩
    · rw [hblk2 id o h3 h4] at h2
      exact hno ⟨id, o, h4, h2⟩
  refine ⟨⟨fun t x ht => ?_, hr'.defers, ⟨fun id o h => ?_, fun id o id' o' b h1 h2 h3 h4 => ?_, fun id hid => ?_, fun b hb => ⟨(hr'.o.imm b hb).1, ?_⟩, hr'.o.cel⟩⟩,
    ⟨hle, hst.size, fun b hb hno => hst.same b hb (fun h => hno (hown b h)), hownN, fun b hb hno hi => hst.imm b hb (fun h => hno (hown b h)) hi, hst.env⟩⟩
  · -- temporaries
    have old : ∀ t x, lk t s.tm = some x → d ≠ some t → ∃ v, a'.tmps[t]? = some v ∧ VRel (g.mrg g' Tr B r.nx) w' v x := fun t x h hne => by
      obtain ⟨v, h1, h2⟩ := hr.tm t x h
      obtain ⟨u, hu⟩ := hput
      exact ⟨v, by rw [hu, put_tmps_ne hne]; exact h1, h2.mono hkeep hle⟩
    cases hdd : d with
    | none =>
      simp only [St.mrg, hdd] at ht
      exact old t x ht (by simp [hdd])
    | some u =>
      simp only [St.mrg, hdd, lk_cons] at ht
      split at ht
      · rename_i htu
        subst htu
        cases ht
        have := hd t hdd
        obtain ⟨y, hy⟩ := Option.isSome_iff_exists.1 this
        have hg : r.get t = y := by simp [St.get, hy]
        obtain ⟨v, h1, h2⟩ := hr'.tm t y hy
        rw [hg]
        have hm := hf.rv t hdd
        rw [hg] at hm
        exact ⟨v, h1, h2.agree (fun _ h => h) (fun id hid => (hin id (hm id hid)).1) (fun id hid => (hin id (hm id hid)).2)⟩
      · rename_i htu
        exact old t x ht (by rw [hdd]; simpa using fun h => htu h.symm)
  · rcases hlk id o h with h1 | ⟨h1, h2⟩
    · obtain ⟨h3, h4⟩ := hf.ros id o h1
      refine (hr'.o.ok id o h1).agree (fun _ h => h) (fun i hi => (hin i ?_).1) (fun i hi => (hin i ?_).2) <;>
      · rcases hi with rfl | hi
        · exact h3
        · exact h4 i hi
    · have hn := hrng2 id o h2
      exact (hr.o.ok id o h2).mono hkeep hle (fun b hb => hst.same b (hother id o b h1 h2 hb).1 (hother id o b h1 h2 hb).2) (hout id (fun h => h.elim h1 hn)).2
  · rcases hlk id o h1 with h5 | ⟨h5, h6⟩ <;> rcases hlk id' o' h2 with h7 | ⟨h7, h8⟩
    · rw [hblk1 id o h5] at h3
      rw [hblk1 id' o' h7] at h4
      exact hr'.o.apart id o id' o' b h5 h7 h3 h4
    · rw [hblk1 id o h5] at h3
      rw [hblk2 id' o' h7 h8] at h4
      obtain ⟨h9, h10⟩ := hother id' o' b h7 h8 h4
      exact absurd ⟨id, o, h5, h3⟩ (hst.own b h9 h10)
    · rw [hblk2 id o h5 h6] at h3
      rw [hblk1 id' o' h7] at h4
      obtain ⟨h9, h10⟩ := hother id o b h5 h6 h3
      exact absurd ⟨id', o', h7, h4⟩ (hst.own b h9 h10)
    · rw [hblk2 id o h5 h6] at h3
      rw [hblk2 id' o' h7 h8] at h4
      exact hr.o.apart id o id' o' b h6 h8 h3 h4
  · obtain ⟨h1, h2, h3⟩ := hF' id hid
    have : ¬ (id ∈ Tr ∨ B ≤ id ∧ id < r.nx) := fun h => h.elim h3 (fun h => by omega)
    rw [(hout id this).1, (hout id this).2]
    exact hr.o.fresh id h1
  · rintro ⟨id, o, h1, h2⟩
    rcases hlk id o h1 with h3 | ⟨h3, h4⟩
    · rw [hblk1 id o h3] at h2
      exact (hr'.o.imm b hb).2 ⟨id, o, h3, h2⟩
    · rw [hblk2 id o h3 h4] at h2
      obtain ⟨h5, h6⟩ := hother id o b h3 h4 h2
      exact (hr.o.imm b (hst.imm b h5 h6 hb)).2 ⟨id, o, h4, h2⟩
end
end Dm
