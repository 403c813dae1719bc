import Derived.Test.YtceoichdaepegaaGreatP4
import Derived.Below
import Derived.ChangeOld
import Derived.LoopNIn
import Derived.Shelf.Abstract
import Derived.Shelf.SlSortCmp.NoneTotal
import Derived.StillTail
set_option linter.unusedSimpArgs false
set_option linter.unusedVariables false
set_option linter.unusedSectionVars false
namespace Dm
open Go
section
variable {P : Program} {g g' : G} {w w' : World}
def Grown (z : Nat) (e : TypeId) (els : List (List C)) (d : D) (os : List (Nat × Ob)) : Prop := ∃ k, d = .vec k els.length ∧ lk k os = some (.vec true z e els)
theorem va.grow {f : FuncId} {i j nx m n : Nat} {os : List (Nat × Ob)} {z e : Nat} {h1 h2 : Bool} {A B E : List (List C)} {mid : List D} {Q : D → List (Nat × Ob) → Nat → Prop}
    (h : va P f (.vec 0 n :: mid ++ [.vec 1 m]) [(1, .vec h2 z e B), (0, .vec h1 z e A)] 2 fun d os' _ => Grown z e E d os')
    (hi : lk i os = some (.vec h1 z e A)) (hj : lk j os = some (.vec h2 z e B)) (hne : i ≠ j) (hn : A.length < E.length) (hmid : ∀ d ∈ mid, ∀ g g' w v, ga g w v d → ga g' w v d)
    (hQ : Q (.vec i E.length) ((i, .vec true z e E) :: rmv os [i, j]) nx) : va P f (.vec i n :: mid ++ [.vec j m]) os nx Q := by
  refine ⟨h.1, fun g w vs ho hsz hv => ?_⟩
  have hib := ho.lt hi
  have hjb := ho.lt hj
  let g0 : G := ⟨fun _ => none, fun k => if k = 0 then g.κ i else if k = 1 then g.κ j else none, g.I⟩
  have hoi := ho.ok i _ hi
  have hoj := ho.ok j _ hj
  have hk0 : g0.κ 0 = g.κ i := rfl
  have hk1 : g0.κ 1 = g.κ j := rfl
  have hlk0 : ∀ id o, lk id [(1, Ob.vec h2 z e B), (0, Ob.vec h1 z e A)] = some o → (id = 0 ∧ o = .vec h1 z e A) ∨ (id = 1 ∧ o = .vec h2 z e B) := fun id o h => by
    simp only [gb] at h
    split at h
    · rename_i hid; cases h; exact .inr ⟨hid, rfl⟩
    · split at h
      · rename_i hid; cases h; exact .inl ⟨hid, rfl⟩
      · cases h
  have hb0 : ∀ o : Ob, (∃ hd z e els, o = .vec hd z e els) → g0.blk 0 o = g.blk i o := fun o ⟨hd, z, e, els, ho⟩ => by subst ho; rfl
  have hb1 : ∀ o : Ob, (∃ hd z e els, o = .vec hd z e els) → g0.blk 1 o = g.blk j o := fun o ⟨hd, z, e, els, ho⟩ => by subst ho; rfl
  have hown0 : ∀ b, Own g0 ⟨[], [(1, .vec h2 z e B), (0, .vec h1 z e A)], 2⟩ b → g.blk i (.vec h1 z e A) = some b ∨ g.blk j (.vec h2 z e B) = some b := fun b ⟨id, o, h3, h4⟩ => by
    rcases hlk0 id o h3 with ⟨rfl, rfl⟩ | ⟨rfl, rfl⟩
    · exact .inl h4
    · exact .inr h4
  have hownG : ∀ b, Own g0 ⟨[], [(1, .vec h2 z e B), (0, .vec h1 z e A)], 2⟩ b → Own g ⟨[], os, nx⟩ b := fun b h => (hown0 b h).elim (fun h => ⟨i, _, hi, h⟩) fun h => ⟨j, _, hj, h⟩
  have ho0 : uj g0 ⟨[], [(1, .vec h2 z e B), (0, .vec h1 z e A)], 2⟩ w := by
    refine ⟨fun id o h => ?_, fun id o id' o' b h3 h4 h5 h6 => ?_, fun id hid => ?_, fun b hb => ⟨(ho.imm b hb).1, fun h => (ho.imm b hb).2 (hownG b h)⟩, ho.cel⟩
    · rcases hlk0 id o h with ⟨rfl, rfl⟩ | ⟨rfl, rfl⟩
      · exact hoi
      · exact hoj
    · rcases hlk0 id o h3 with ⟨rfl, rfl⟩ | ⟨rfl, rfl⟩ <;> rcases hlk0 id' o' h4 with ⟨rfl, rfl⟩ | ⟨rfl, rfl⟩
      · rfl
      · exact absurd (ho.apart i _ j _ b hi hj h5 h6) hne
      · exact absurd (ho.apart i _ j _ b hi hj h6 h5) hne
      · rfl
    · have hid' : 2 ≤ id := hid
      refine ⟨rfl, ?_⟩
      show (if id = 0 then g.κ i else if id = 1 then g.κ j else none) = none
      rw [if_neg (by omega), if_neg (by omega)]
  have hvec : ∀ {k k' m : Nat} {v : Value}, g0.κ k' = g.κ k → ga g w v (.vec k m) → ga g0 w v (.vec k' m) := fun {k k' m v} hk hv => by
    cases hv with
    | vec a' cap' _ _ a0 len cap hkk hle hm ha hvq => exact .vec _ _ _ _ a0 len cap (by rw [hk]; exact hkk) hle hm ha hvq
  have hv0 : ∀ (k : Nat) (v : Value) (d : D), vs[k]? = some v → (D.vec 0 n :: mid ++ [.vec 1 m])[k]? = some d → ga g0 w v d := fun k v d hk hd => by
    have hlen : (D.vec i n :: mid ++ [D.vec j m]).length = mid.length + 2 := by simp
    rcases k with _ | k
    · simp at hd; subst hd
      exact hvec hk0 (hv 0 v _ hk (by simp))
    · simp only [List.cons_append, List.getElem?_cons_succ] at hd
      rw [List.getElem?_append] at hd
      split at hd
      · rename_i hlt
        have := hv (k + 1) v d hk (by simp only [List.cons_append, List.getElem?_cons_succ]; rw [List.getElem?_append_left hlt]; exact hd)
        exact hmid d (List.mem_of_getElem? hd) _ _ _ _ this
      · rename_i hlt
        have hk' : k = mid.length := by
          have := (List.getElem?_eq_some_iff.1 hd).1
          simp at this; omega
        subst hk'
        simp at hd; subst hd
        exact hvec hk1 (hv (mid.length + 1) v _ hk (by simp))
  refine (h.2 g0 w vs ho0 (by simpa using hsz) hv0).mono ?_
  rintro ex w' ⟨v, d, g', os', nx', rfl, ⟨k, rfl, hk⟩, hro, hvr, hst⟩
  have hok := hro.ok k _ hk
  obtain ⟨a2, cap2, h6, h7, h8, h9, h10⟩ := hok
  let g2 : G := ⟨g.ρ, fun id => if id = i then some (a2, E.length, cap2) else g.κ id, g'.I⟩
  have h2i : g2.κ i = g'.κ k := by show (if i = i then _ else _) = _; rw [if_pos rfl, h6]
  have h2o : ∀ id, id ≠ i → g2.κ id = g.κ id := fun id hid => if_neg hid
  obtain ⟨a1, cap1, hi1, hi2⟩ := hoi
  have hle : g.Le g2 := by
    refine ⟨fun _ _ h => h, fun id x l c hid => ?_, fun b hb => hst.le.I b hb⟩
    by_cases hii : id = i
    · subst hii
      rw [hi1] at hid
      cases hid
      exact ⟨a2, E.length, cap2, by rw [h2i, h6], by omega, fun e => by omega⟩
    · exact ⟨x, l, c, by rw [h2o id hii]; exact hid, Nat.le_refl _, fun _ => ⟨rfl, rfl⟩⟩
  have hin : ∀ id o, lk id ((i, Ob.vec true z e E) :: rmv os [i, j]) = some o → (id = i ∧ o = .vec true z e E) ∨ (id ≠ i ∧ id ≠ j ∧ lk id os = some o) := fun id o h => by
    simp only [gb, wag] at h
    split at h
    · rename_i hid; cases h; exact .inl ⟨hid, rfl⟩
    · rename_i hid
      split at h
      · cases h
      · rename_i hid2
        simp at hid2
        exact .inr ⟨hid, hid2.2, h⟩
  have hblko : ∀ id o, id ≠ i → g2.blk id o = g.blk id o := fun id o hid => by
    cases o with
    | box cs => rfl
    | map _ _ => rfl
    | it _ _ => rfl
    | vec _ _ _ _ => simp only [G.blk, h2o id hid]
  have hblki : ∀ b, g2.blk i (.vec true z e E) = some b → g'.blk k (.vec true z e E) = some b := fun b hb => by
    simp only [G.blk, h2i] at hb ⊢
    exact hb
  -- a block of one of the others is not one of these two
  have hrest : ∀ id o b, id ≠ i → id ≠ j → lk id os = some o → g.blk id o = some b → b < w.heap.size ∧ ¬ Own g0 ⟨[], [(1, .vec h2 z e B), (0, .vec h1 z e A)], 2⟩ b := fun id o b h11 h12 h13 h14 => by
    refine ⟨(ho.ok id o h13).lt.1 b h14, fun h15 => ?_⟩
    rcases hown0 b h15 with h16 | h16
    · exact h11 (ho.apart id o i _ b h13 hi h14 h16)
    · exact h12 (ho.apart id o j _ b h13 hj h14 h16)
  have hnew : ∀ b, g'.blk k (.vec true z e E) = some b → Own g' ⟨[], os', nx'⟩ b := fun b hb => ⟨k, _, hk, hb⟩
  have hownN : ∀ b, Own g2 ⟨[], (i, .vec true z e E) :: rmv os [i, j], nx⟩ b → Own g' ⟨[], os', nx'⟩ b ∨ Own g ⟨[], os, nx⟩ b ∧ b < w.heap.size ∧ ¬ Own g0 ⟨[], [(1, .vec h2 z e B), (0, .vec h1 z e A)], 2⟩ b := fun b ⟨id, o, h11, h12⟩ => by
    rcases hin id o h11 with ⟨rfl, rfl⟩ | ⟨h13, h14, h15⟩
    · exact .inl (hnew b (hblki b h12))
    · rw [hblko id o h13] at h12
      exact .inr ⟨⟨id, o, h15, h12⟩, hrest id o b h13 h14 h15 h12⟩
  have hkeep : jo g.I w w' := fun b hb => hst.same b (ho.imm b hb).1 fun h => (ho.imm b hb).2 (hownG b h)
  have himm : ∀ b, b < w.heap.size → ¬ Own g ⟨[], os, nx⟩ b → g'.I b → g.I b := fun b hb hno hi' => hst.imm b hb (fun h => hno (hownG b h)) hi'
  refine ⟨v, _, g2, _, nx, rfl, hQ, ⟨fun id o h => ?_, fun id o id' o' b h11 h12 h13 h14 => ?_, fun id hid => ?_, fun b hb => ⟨(hro.imm b hb).1, fun h => ?_⟩, hro.cel⟩, ?_, ⟨hle, hst.size, fun b hb hno => hst.same b hb fun h => hno (hownG b h), fun b hb hno h => ?_, himm, hst.env⟩⟩
  · rcases hin id o h with ⟨rfl, rfl⟩ | ⟨h11, h12, h13⟩
    · exact ⟨a2, cap2, by rw [h2i, h6], h7, h8, h9, h10⟩
    · exact (ho.ok id o h13).mono hkeep hle (fun b hb => hst.same b (hrest id o b h11 h12 h13 hb).1 (hrest id o b h11 h12 h13 hb).2) (h2o id h11)
  · have key : ∀ id o b, id ≠ i → id ≠ j → lk id os = some o → g.blk id o = some b → g'.blk k (.vec true z e E) = some b → False := fun id o b h15 h16 h17 h18 h19 => by
      have := hrest id o b h15 h16 h17 h18
      exact hst.own b this.1 this.2 (hnew b h19)
    rcases hin id o h11 with ⟨rfl, rfl⟩ | ⟨h15, h16, h17⟩ <;> rcases hin id' o' h12 with ⟨rfl, rfl⟩ | ⟨h18, h19, h20⟩
    · rfl
    · rw [hblko id' o' h18] at h14
      exact (key id' o' b h18 h19 h20 h14 (hblki b h13)).elim
    · rw [hblko id o h15] at h13
      exact (key id o b h15 h16 h17 h13 (hblki b h14)).elim
    · rw [hblko id o h15] at h13
      rw [hblko id' o' h18] at h14
      exact ho.apart id o id' o' b h17 h20 h13 h14
  · have := ho.fresh id hid
    have h20 : nx ≤ id := hid
    have h21 : i < nx := hib
    have hne' : id ≠ i := by omega
    exact ⟨this.1, by rw [h2o id hne']; exact this.2⟩
  · rcases hownN b h with h11 | ⟨h11, h12, h13⟩
    · exact (hro.imm b hb).2 h11
    · exact (ho.imm b (hst.imm b h12 h13 hb)).2 h11
  · cases hvr with
    | vec a' cap' _ _ a0 len cap hkk hle' hm ha hvq => exact .vec _ _ _ _ a0 len cap (by rw [h2i]; exact hkk) hle' hm ha hvq
  · rcases hownN b h with h11 | ⟨h11, _⟩
    · exact hst.own b hb (fun h => hno (hownG b h)) h11
    · exact hno h11
end
end Dm
namespace Dm
open Go
section
variable {κ : Type} [DecidableEq κ]
def alk (a : κ) : List (κ × Int) → Option Int
  | [] => none
  | (x, y) :: l => if x = a then some y else alk a l
def bbA (a : κ) (b : Int) : List (κ × Int) → List (κ × Int)
  | [] => [(a, b)]
  | (x, y) :: l => if x = a then (x, b) :: l else (x, y) :: bbA a b l
theorem vaw {a k : κ} {b : Int} : ∀ {l : List (κ × Int)}, alk k (bbA a b l) = if k = a then some b else alk k l
  | [] => by
    simp only [bbA, alk]
    by_cases h : a = k
    · rw [if_pos h, if_pos h.symm]
    · rw [if_neg h, if_neg (fun e => h e.symm)]
  | (x, y) :: l => by
    rw [bbA]
    by_cases hx : x = a
    · subst hx
      rw [if_pos rfl, alk, alk]
      by_cases h : x = k
      · rw [if_pos h, if_pos h.symm]
      · rw [if_neg h, if_neg (fun e => h e.symm), if_neg h]
    · rw [if_neg hx, alk, alk, vaw]
      by_cases h : x = k
      · rw [if_pos h, if_pos h]
        subst h
        rw [if_neg hx]
      · rw [if_neg h, if_neg h]
end
abbrev K3 := Nat × Nat × Nat
def kv3 (l : List (K3 × Int)) : List (List C × D) := l.map fun x => ([.int .u64 x.1.1, .int .u64 x.1.2.1, .int .u64 x.1.2.2], .int .i64 x.2)
theorem uaU {a b c : Nat} : ∀ {l : List (K3 × Int)}, mlk [.int .u64 (a : Int), .int .u64 (b : Int), .int .u64 (c : Int)] (kv3 l) = (alk (a, b, c) l).map fun b => .int .i64 b
  | [] => rfl
  | ((x, y, z), v) :: l => by
    show mlk _ (([.int .u64 (x : Int), .int .u64 (y : Int), .int .u64 (z : Int)], _) :: kv3 l) = _
    rw [mlk, alk]
    by_cases h : (x, y, z) = (a, b, c)
    · rw [if_pos h]; cases h; rw [if_pos rfl]; rfl
    · rw [if_neg h, if_neg, uaU]
      intro e
      simp only [List.cons.injEq, C.int.injEq, true_and, and_true, Int.natCast_inj] at e
      exact h (by rw [e.1, e.2.1, e.2.2])
attribute [go_sem] uaU
theorem kaA {a b c : Nat} {v : Int} : ∀ {l : List (K3 × Int)}, bX [.int .u64 (a : Int), .int .u64 (b : Int), .int .u64 (c : Int)] (.int .i64 v) (kv3 l) = kv3 (bbA (a, b, c) v l)
  | [] => rfl
  | ((x, y, z), u) :: l => by
    show bX _ _ (([.int .u64 (x : Int), .int .u64 (y : Int), .int .u64 (z : Int)], _) :: kv3 l) = _
    rw [bX, bbA]
    by_cases h : (x, y, z) = (a, b, c)
    · rw [if_pos h]; cases h; rw [if_pos rfl]; rfl
    · rw [if_neg h, if_neg, kaA]
      · rfl
      · intro e
        simp only [List.cons.injEq, C.int.injEq, true_and, and_true, Int.natCast_inj] at e
        exact h (by rw [e.1, e.2.1, e.2.2])
attribute [go_sem] kaA
@[go_sem] theorem gcK {N : Nat} {l : List (K3 × Int)} : kbJ N (kv3 l) = true := by
  simp [kbJ, kv3, D.gbd, D.vaX, D.va5]
@[go_sem] theorem ucj : ∀ {l : List (K3 × Int)}, (kv3 l).map (·.2) = l.map fun x => D.int .i64 x.2 := by
  intro l; simp [kv3]
@[go_sem] theorem xaQ {α : Type} {k : IntKind} {f : α → Int} : ∀ {l : List α}, vk (l.map fun x => D.int k (f x)) = []
  | [] => rfl
  | x :: l => by
    rw [List.map_cons, vk, xaQ]; rfl
@[go_sem] theorem yao {key : List C} {k : IntKind} {n : Int} : ∀ {kv : List (List C × D)}, vk ((vp key (.int k n) kv).map (·.2)) = vk (kv.map (·.2))
  | [] => rfl
  | (k', d) :: l => by
    rw [vp]
    split
    · rfl
    · rw [List.map_cons, List.map_cons, vk, vk, yao]
attribute [go_sem] yag
@[go_sem] theorem xcy {k : List C} {kv : List (List C × D)} : (0 ≤ ((mpos k kv : Nat) : Int)) = True := eq_true (by omega)
@[go_sem] theorem xcF {k : List C} {z : D} {kv : List (List C × D)} : (((mpos k kv : Nat) : Int) < (((vp k z kv).length : Nat) : Int)) = True := eq_true (by have := xaR (k := k) (z := z) (kv := kv); omega)
@[go_sem] theorem gcN {o : Option Int} : (o.map fun b => D.int .i64 b).getD (.int .i64 0) = .int .i64 (o.getD 0) := by cases o <;> rfl
@[go_sem] theorem wce {P : Program} {s : St} : rdD P s [] = some (.tup []) := rfl
@[go_sem] theorem zdm {P : Program} {s : St} {r r' r'' r3 : ResultVar} : rdD P s [r, r', r'', r3] = match rd1 P s r, rd1 P s r', rd1 P s r'', rd1 P s r3 with | some x, some y, some z, some u => some (.tup [x, y, z, u]) | _, _, _, _ => none := by
  unfold rdD rds rds rds rds rds
  cases rd1 P s r <;> cases rd1 P s r' <;> cases rd1 P s r'' <;> cases rd1 P s r3 <;> rfl
theorem xa1 {o : Option Int} {d : Option Nat} {s : St} {K : St → Prop} : okL (some (o.map fun b => D.int .i64 b, D.int .i64 0)) false d s K = K (s.put d (.int .i64 (o.getD 0))) := by
  cases o <;> rfl
end Dm
namespace Dm
open Go
def mrk (D : Nat) : Deferred := { target := .collected D, args := #[] }
section
variable {δ : List Deferred} {P : Program} {T : Tab} {g g' g'' : G} {s s' s'' : St} {a : Act} {w w' w'' : World} {n N : Nat}

def SWm (P : Program) (n N : Nat) (c : Code) (Q : Exit → St → Prop) (s : St) : Prop :=
  ∀ (δ : List Deferred) (g : G) (a : Act) (w : World), Rel δ g s a w → a.tmps.size = n →
    c.wp P (fun e a' w' => ∃ (Ds : List Nat) (g' : G) (s' : St), Q e s' ∧ Rel (Ds.map mrk ++ δ) g' s' a' w' ∧ (∀ D ∈ Ds, w.heap.size ≤ D ∧ w'.heap[D]? = some (.deferred (some []))) ∧ Ds.Nodup ∧ a'.tmps.size = n ∧ jh N g s w g' s' w') a w

theorem SWm.of {c : Code} {Q : Exit → St → Prop} (h : SWp P n N c Q s) : SWm P n N c Q s := fun δ g a w hr hn =>
  wp_mono (h δ g a w hr hn) fun e a' w' ⟨g', s', h1, h2, h3, h4⟩ => ⟨[], g', s', h1, h2, fun D hD => (by cases hD), List.nodup_nil, h3, h4⟩

theorem jh.other (h : jh N g s w g' s' w') (ho : uj g s w) {D : Nat} {o : Obj} (hD : w.heap[D]? = some o) (hc : qC o = false) : w'.heap[D]? = some o := by
  rw [h.same D (Array.getElem?_eq_some_iff.1 hD).1 fun hown => ?_, hD]
  obtain ⟨o', h1, h2⟩ := Own.cel ho hown
  rw [h1] at hD
  cases hD
  rw [hc] at h2
  cases h2

theorem SWm.seq {x y : Code} {Q : Exit → St → Prop} (h : SWm P n N x (sq (SWm P n N y Q) Q) s) : SWm P n N (.seq x y) Q s := fun δ g a w hr hn => by
  refine wp_seq (wp_mono (h δ g a w hr hn) fun e a' w' ⟨Ds, g', s', h1, h2, h3, h4, h5, h6⟩ => ?_)
  cases e with
  | normal =>
    refine wp_mono (h1 _ g' a' w' h2 h5) fun e a'' w'' ⟨Ds', g'', s'', h7, h8, h9, h10, h11, h12⟩ => ?_
    refine ⟨Ds' ++ Ds, g'', s'', h7, by simpa using h8, fun D hD => ?_, ?_, h11, h6.trans h12⟩
    · rcases List.mem_append.1 hD with hD | hD
      · exact ⟨Nat.le_trans h6.size (h9 D hD).1, (h9 D hD).2⟩
      · exact ⟨(h3 D hD).1, h12.other h2.o (h3 D hD).2 rfl⟩
    · refine List.nodup_append.2 ⟨h10, h4, fun D hD D' hD' e => ?_⟩
      subst e
      have := (h9 D hD).1
      have := (Array.getElem?_eq_some_iff.1 (h3 D hD').2).1
      omega
  | _ => exact ⟨Ds, g', s', h1, h2, h3, h4, h5, h6⟩

theorem SWm.block {id : Nat} {c : Code} {Q : Exit → St → Prop} (h : SWm P n N c (bl id Q) s) : SWm P n N (.block id c) Q s := fun δ g a w hr hn => by
  refine wp_block (wp_mono (h δ g a w hr hn) fun e a' w' ⟨Ds, g', s', h1, h2, h3, h4, h5, h6⟩ => ?_)
  cases e with
  | exit i =>
    simp only [bl] at h1
    simp only [Exit.inBlock]
    split
    · rename_i hi
      rw [if_pos hi] at h1
      exact ⟨Ds, g', s', h1, h2, h3, h4, h5, h6⟩
    · rename_i hi
      rw [if_neg hi] at h1
      exact ⟨Ds, g', s', h1, h2, h3, h4, h5, h6⟩
  | _ => exact ⟨Ds, g', s', h1, h2, h3, h4, h5, h6⟩

theorem SWm.mono {c : Code} {Q Q' : Exit → St → Prop} (h : SWm P n N c Q s) (hq : ∀ e s', Q e s' → Q' e s') : SWm P n N c Q' s :=
  fun δ g a w hr hn => wp_mono (h δ g a w hr hn) fun e a' w' ⟨Ds, g', s', h1, h2⟩ => ⟨Ds, g', s', hq e s' h1, h2⟩

theorem Ext.grown (h : Ext w w') : w.grownBy w' none := ⟨h.2.2.os, h.2.2.tape, h.2.2.out, h.1, fun k hk _ => h.2.1 k hk⟩

theorem uj.grown {row : Option Nat} (ho : uj g s w) (hg : w.grownBy w' row) (hrow : ∀ r, row = some r → ∃ o : Obj, w.heap[r]? = some o ∧ qC o = false) : uj g s w' := by
  have hcel : ∀ b, Cel w b → w'.heap[b]? = w.heap[b]? := fun b hb => hg.block b hb.lt fun e => by
    obtain ⟨o, h1, h2⟩ := hrow b e.symm
    obtain ⟨o', h3, h4⟩ := hb
    rw [h3] at h1
    cases h1
    rw [h4] at h2
    cases h2
  have hk : jo g.I w w' := fun b hb => hcel b (ho.cel b hb)
  exact ⟨fun id o h => (ho.ok id o h).mono hk (.refl g) (fun b hb => hcel b (Own.cel ho ⟨id, o, h, hb⟩)) rfl, ho.apart, ho.fresh, fun b hb => ⟨Nat.lt_of_lt_of_le (ho.imm b hb).1 hg.size, (ho.imm b hb).2⟩, fun b hb => (ho.cel b hb).keep (hcel b (ho.cel b hb))⟩
theorem Rel.grown {row : Option Nat} (hr : Rel δ g s a w) (hg : w.grownBy w' row) (hrow : ∀ r, row = some r → ∃ o : Obj, w.heap[r]? = some o ∧ qC o = false) : Rel δ g s a w' := by
  have hk : jo g.I w w' := fun b hb => hg.block b (hr.o.cel b hb).lt fun e => by
    obtain ⟨o, h1, h2⟩ := hrow b e.symm
    obtain ⟨o', h3, h4⟩ := hr.o.cel b hb
    rw [h3] at h1
    cases h1
    rw [h4] at h2
    cases h2
  exact ⟨fun t d ht => let ⟨v, h1, h2⟩ := hr.tm t d ht; ⟨v, h1, h2.mono hk (.refl g)⟩, hr.defers, hr.o.grown hg hrow⟩
theorem jh.grown {row : Option Nat} (h : jh N g s w g' s' w') (hg : w'.grownBy w'' row) (hd : w'.drawn ≤ w''.drawn) (hrow : ∀ r, row = some r → w.heap.size ≤ r) : jh N g s w g' s' w'' :=
  ⟨h.ρ, h.κ, h.I, Nat.le_trans h.size hg.size, fun b hb ho => (hg.block b (Nat.lt_of_lt_of_le hb h.size) fun e => by have := hrow b e.symm; omega).trans (h.same b hb ho), h.own, h.imm, h.env.trans ⟨hg.os, hg.output, hg.tape, hd⟩⟩

theorem jh.less {M : Nat} (hNM : N ≤ M) (h : jh M g s w g' s' w') : jh N g s w g' s' w' :=
  ⟨fun id b hi => h.ρ id b (by omega), fun id a l c hi => h.κ id a l c (by omega), h.I, h.size, h.same, h.own, h.imm, h.env⟩
def bdg (P : Program) (gf : FuncId) (lb : Array Value) (I : Nat → Prop) {m : Nat} (ys : Fin m → List D) (order : List (Fin m)) (w : World) : Prop :=
  ∀ (l : Nat) (J Jx : List (Fin m) → World → Prop) (W : World), RowKit.Below w.heap.size w W → (∀ pre A B, J pre A → Ext A B → J pre B) → (∀ pre A B, Jx pre A → Ext A B → Jx pre B) →
    (∀ pre x (vs : Array Value) W1, J pre W1 → pre.length < m → vs.size = (ys x).length → (∀ (j : Nat) (v : Value) (d : D), vs[j]? = some v → (ys x)[j]? = some d → ga (G0 I) W1 v d) → YieldAt Fence.wide 3 P l vs W1 fun e W' =>
      (e = .returned (.bool true) ∧ J (pre ++ [x]) W' ∧ ∀ b, I b → Cel W1 b → W'.heap[b]? = W1.heap[b]?) ∨ (e = .returned (.bool false) ∧ Jx (pre ++ [x]) W')) →
    J [] W → CallsIn Fence.wide 4 P gf (#[.func (.yield l) #[] #[]] ++ lb) W fun e W' => (∃ v, e = .returned v) ∧ ((∃ xs, xs = order ∧ J xs W') ∨ (∃ pre, pre <+: order ∧ Jx pre W'))
def xag (P : Program) (gf : FuncId) (caps : List D) {m : Nat} (ys : Fin m → List D) (order : List (Fin m)) : Prop :=
  (∀ (args : Array Value) (w : World), (callFunc gf args).run P w = .ok (.enter gf args) w) ∧ ∀ (I : Nat → Prop) (w : World) (lb : Array Value), (∀ b, I b → Cel w b) → lb.size = caps.length → (∀ (i : Nat) (v : Value) (d : D), lb[i]? = some v → caps[i]? = some d → ga (G0 I) w v d) →
    bdg P gf lb I ys order w

def wao : List Nat → List D → List (Nat × D) → List (Nat × D)
  | p :: l, d :: ds, tm => wao l ds ((p, d) :: tm)
  | _, _, tm => tm
def asg (A : St → Prop) : Exit → St → Prop
  | .normal, s => A s
  | _, _ => False
def rfp (Q : Exit → St → Prop) (s : St) (A : St → Prop) (pfx : Prop) : Exit → St → Prop
  | .normal, s' => A s'
  | .ret, s' => pfx → Q .ret ⟨s.tm, s'.os, s'.nx⟩
  | .exit i, s' => pfx → Q (.exit i) ⟨s.tm, s'.os, s'.nx⟩
  | _, _ => False

theorem uai {δ' : List Deferred} {w : World} : ∀ (ps : List Nat) (ds : List D) (vs : List Value) {tm : List (Nat × D)} {os : List (Nat × Ob)} {nx : Nat} {a : Act}, Rel δ' g ⟨tm, os, nx⟩ a w → vs.length = ds.length → (∀ p ∈ ps, p < a.tmps.size) →
    (∀ (j : Nat) (v : Value) (d : D), vs[j]? = some v → ds[j]? = some d → ga g w v d) →
    Rel δ' g ⟨wao ps ds tm, os, nx⟩ { tmps := (ps.zip vs).foldl (fun t (p, v) => t.setIfInBounds p v) a.tmps, defers := a.defers } w ∧ ((ps.zip vs).foldl (fun t (p, v) => t.setIfInBounds p v) a.tmps).size = a.tmps.size
  | [], ds, vs, tm, os, nx, a, hr, _, _, _ => ⟨by simpa [wao] using hr, rfl⟩
  | p :: ps, [], [], tm, os, nx, a, hr, _, _, _ => ⟨by simpa [wao] using hr, rfl⟩
  | p :: ps, d :: ds, v :: vs, tm, os, nx, a, hr, hl, hp, hv => by
    have h1 : Rel δ' g ⟨(p, d) :: tm, os, nx⟩ (a.put (some p) v) w := hr.put (some p) (hv 0 v d rfl rfl) (fun x hx => by cases hx; exact hp p (by simp))
    have h2 := uai ps ds vs (a := a.put (some p) v) h1 (by simpa using hl) (fun q hq => by rw [je]; exact hp q (by simp [hq])) (fun j u e hu he => hv (j + 1) u e (by simpa using hu) (by simpa using he))
    refine ⟨?_, ?_⟩
    · have := h2.1
      simpa [wao, Act.put] using this
    · have := h2.2
      rw [je] at this
      simpa [Act.put] using this

def yb8 : Code → Option Exit
  | .ret => some .ret
  | .exit i => some (.exit i)
  | _ => none

def D.yX : D → Bool
  | .c _ => true
  | .rp _ => true
  | _ => false
theorem ga.kdi {v : Value} {d : D} (hd : d.yX = true) (h : ga g w v d) : ga (G0 g.I) w v d := by
  cases d <;> simp only [D.yX, Bool.false_eq_true] at hd
  case c x => cases h with | c _ _ h => exact .c _ _ h
  case rp cs => cases h with | rp b off _ vs hI hc => exact .rp b off cs vs hI hc

theorem SWm.rangeFunc (hT : waH P T) (lv : Nat → Option (List Nat)) {gop : Operand} {ps : Array Tmp} {assign body : Code} {Q : Exit → St → Prop} {gf : FuncId} {caps : List D} (hev : s.ev gop = .fn (.func gf) [] caps) (hcaps : ∀ d ∈ caps, d.yX = true)
    {m : Nat} {ys : Fin m → List D} {order : List (Fin m)} (hit : xag P gf caps ys order) (O : List (Fin m) → List (Nat × Ob)) (ok : List (Fin m) → Prop)
    (hps : ∀ x, (ys x).length = ps.size) (hpn : ∀ p ∈ ps.toList, p < n) (hN : N ≤ s.nx)
    (ha1 : xG assign = true) (ha2 : jD n assign = true) (hb1 : xG body = true) (hb2 : jD n body = true)
    (h0 : ok [] ∧ Sub s.nx s ⟨s.tm, O [], s.nx⟩)
    (hround : ∀ pre x, ok pre → pre.length < m → awp P T n s.nx lv assign (asg fun s1 =>
      awp P T n s.nx lv body (rfp Q s (fun s' => ok (pre ++ [x]) ∧ Sub s.nx ⟨s.tm, s'.os, s'.nx⟩ ⟨s.tm, O (pre ++ [x]), s.nx⟩) (pre ++ [x] <+: order)) s1) ⟨wao ps.toList (ys x) s.tm, O pre, s.nx⟩)
    (hdone : ok order → Q .normal ⟨s.tm, O order, s.nx⟩) : SWm P n N (.rangeFunc gop ps assign body) Q s := by
  intro δ g a w hr hn
  have hg := hr.ev gop
  rw [hev] at hg
  generalize hgv : a.eval gop = gv at hg
  cases hg with
  | fn _ fiv lb _ _ h1 h2 h3 h4 =>
  have hfi : fiv = #[] := by
    apply Array.eq_empty_of_size_eq_zero
    simpa using h1
  subst hfi
  obtain ⟨hent, hit⟩ := hit
  have hseq := hit g.I w lb hr.o.cel h2 fun i v d hv hd => (h4 i v d hv hd).kdi (hcaps d (List.mem_of_getElem? hd))
  have hst0 : ∃ g1, Rel δ g1 ⟨s.tm, O [], s.nx⟩ a w ∧ jh s.nx g s w g1 ⟨s.tm, O [], s.nx⟩ w := ⟨_, hr.sub h0.2⟩
  refine wpIn_wide (n := 5).1 (wpIn_rangeFunc fun fn _ => ?_)
  obtain ⟨rec, hrec⟩ : ∃ rec : LoopState → Option Code → Loop, rec = fun st pe => { state := st, pending := pe, fn, tmps := a.tmps, params := ps, assign, body, defers := w.heap.size } := ⟨_, rfl⟩
  obtain ⟨W1, hW1⟩ : ∃ W1, (w.alloc (.deferred (some []))).alloc (.loop (rec .ready none)) = W1 := ⟨_, rfl⟩
  have hL1 : W1.heap[w.heap.size + 1]? = some (.loop (rec .ready none)) := by
    rw [← hW1]; have := World.alloc_heap_new (w.alloc (.deferred (some []))) (.loop (rec .ready none)); rwa [World.size_alloc] at this
  have hD1 : W1.heap[w.heap.size]? = some (.deferred (some [])) := by
    rw [← hW1]; exact (RowKit.Below.heap_alloc _ _ _ (by simp)).trans (World.alloc_heap_new w _)
  have hb1' : RowKit.Below w.heap.size w W1 := by
    rw [← hW1]; exact ((RowKit.Below.refl _ w).alloc (Nat.le_refl _) _).alloc (by simp) _
  -- what holds between two rounds
  obtain ⟨J, hJ⟩ : ∃ J : List (Fin m) → World → Prop, J = fun pre W => ok pre ∧ ∃ g1, Rel δ g1 ⟨s.tm, O pre, s.nx⟩ a W ∧ jh s.nx g s w g1 ⟨s.tm, O pre, s.nx⟩ W := ⟨_, rfl⟩
  obtain ⟨Jx, hJx⟩ : ∃ Jx : Code → List (Fin m) → World → Prop, Jx = fun c pre W => ∃ (e : Exit) (s' : St) (g1 : G), yb8 c = some e ∧ (pre <+: order → Q e ⟨s.tm, s'.os, s'.nx⟩) ∧ Rel δ g1 ⟨s.tm, s'.os, s'.nx⟩ a W ∧ jh s.nx g s w g1 ⟨s.tm, s'.os, s'.nx⟩ W := ⟨_, rfl⟩
  have hJe : ∀ pre W W', J pre W → Ext W W' → J pre W' := by
    intro pre W W' h he
    rw [hJ] at h ⊢
    obtain ⟨h5, g1, h6, h7⟩ := h
    exact ⟨h5, g1, h6.grown he.grown fun r e => (by cases e), h7.grown he.grown he.2.2.drw fun r e => by cases e⟩
  have hJxe : ∀ c pre W W', Jx c pre W → Ext W W' → Jx c pre W' := by
    intro c pre W W' h he
    rw [hJx] at h ⊢
    obtain ⟨e, s', g1, h5, h8, h6, h7⟩ := h
    exact ⟨e, s', g1, h5, h8, h6.grown he.grown fun r e => (by cases e), h7.grown he.grown he.2.2.drw fun r e => by cases e⟩
  have hJg : ∀ pre W W' row, J pre W → W.grownBy W' row → W.drawn ≤ W'.drawn → (∀ r, row = some r → w.heap.size ≤ r ∧ ∃ o : Obj, W.heap[r]? = some o ∧ qC o = false) → J pre W' := by
    intro pre W W' row h hgr hdr hrow
    rw [hJ] at h ⊢
    obtain ⟨h5, g1, h6, h7⟩ := h
    exact ⟨h5, g1, h6.grown hgr fun r e => (hrow r e).2, h7.grown hgr hdr fun r e => (hrow r e).1⟩
  have hJxg : ∀ c pre W W' row, Jx c pre W → W.grownBy W' row → W.drawn ≤ W'.drawn → (∀ r, row = some r → w.heap.size ≤ r ∧ ∃ o : Obj, W.heap[r]? = some o ∧ qC o = false) → Jx c pre W' := by
    intro c pre W W' row h hgr hdr hrow
    rw [hJx] at h ⊢
    obtain ⟨e, s', g1, h5, h8, h6, h7⟩ := h
    exact ⟨e, s', g1, h5, h8, h6.grown hgr fun r e => (hrow r e).2, h7.grown hgr hdr fun r e => (hrow r e).1⟩
  have hput : ∀ (W : World) (o : Obj), W.heap[w.heap.size + 1]? = some o → qC o = false → ∀ r, some (w.heap.size + 1) = some r → w.heap.size ≤ r ∧ ∃ o : Obj, W.heap[r]? = some o ∧ qC o = false := fun W o h h' r e => by cases e; exact ⟨by omega, o, h, h'⟩
  have hW1g : ∀ pre, J pre w → J pre W1 := fun pre h => by
    rw [← hW1]
    exact hJg _ _ _ none (hJg _ _ _ none h (World.grownBy_alloc w _ none) (Nat.le_refl _) (fun r e => by cases e)) (World.grownBy_alloc _ _ none) (Nat.le_refl _) fun r e => by cases e
  refine ⟨w.heap.size + 1, [{ target := .collected w.heap.size, args := #[] }], W1, { target := .fn (.func gf) lb, args := #[.func (.yield (w.heap.size + 1)) #[] #[]] }, W1, gf,
    #[.func (.yield (w.heap.size + 1)) #[] #[]] ++ lb, W1, ?_, ?_, ?_, ?_, fun _ => by omega, ?_⟩
  · rw [← hW1, hrec]; exact run_enterLoop_outer _ _ _ _ _
  · simp only [resolve, hgv]
    simp [go_sem]
  · intro f' _; trivial
  · simp [invoke, go_sem, hent]
  · refine (hseq (w.heap.size + 1)
      (fun pre W => J pre W ∧ W.heap[w.heap.size + 1]? = some (.loop (rec .ready none)) ∧ W.heap[w.heap.size]? = some (.deferred (some [])))
      (fun pre W => ∃ c, Jx c pre W ∧ W.heap[w.heap.size + 1]? = some (.loop (rec .done (some c))) ∧ W.heap[w.heap.size]? = some (.deferred (some [])))
      W1 hb1'
      (fun pre A B hs he => ⟨hJe pre A B hs.1 he, (he.2.1 _ (Array.getElem?_eq_some_iff.1 hs.2.1).1).trans hs.2.1, (he.2.1 _ (Array.getElem?_eq_some_iff.1 hs.2.2).1).trans hs.2.2⟩)
      (fun pre A B hs he => by
        obtain ⟨c, hc, hl, hk⟩ := hs
        exact ⟨c, hJxe c pre A B hc he, (he.2.1 _ (Array.getElem?_eq_some_iff.1 hl).1).trans hl, (he.2.1 _ (Array.getElem?_eq_some_iff.1 hk).1).trans hk⟩)
      ?_ ⟨hW1g _ (by rw [hJ]; exact ⟨h0.1, hst0⟩), hL1, hD1⟩).mono ?_
    · -- one round
      rintro pre x vs W ⟨hj, hl, hk⟩ hlen hvs1 hvs2
      rw [hJ] at hj
      obtain ⟨hok, g1, hr1, hs1⟩ := hj
      have hy := run_yield (P := P) (args := vs) hl (by rw [hrec]; exact hvs1.trans (hps x))
      rw [hrec] at hy
      have henc : ∀ (j : Nat) (v : Value) (d : D), vs[j]? = some v → (ys x)[j]? = some d → ga g1 W v d := fun j v d hv hd =>
        (hvs2 j v d hv hd).of0 (g := g1) fun b hb => hs1.I b hb
      have hset := uai (δ' := []) ps.toList (ys x) vs.toList (a := { tmps := a.tmps, defers := [] }) (g := g1) (w := W) (tm := s.tm) (os := O pre) (nx := s.nx) ⟨hr1.tm, rfl, hr1.o⟩ (by simpa using hvs1) (fun p hp => by show p < a.tmps.size; rw [hn]; exact hpn p hp) (fun j v d hv hd => henc j v d (by simpa using hv) hd)
      have hzip : ((ps.zip vs).foldl (fun t (p, v) => t.setIfInBounds p v) a.tmps) = ((ps.toList.zip vs.toList).foldl (fun t (p, v) => t.setIfInBounds p v) a.tmps) := by
        rw [← Array.foldl_toList, Array.toList_zip]
      refine ⟨fn, _, assign, body, hy, roundIn_of_wpIn trivial ?_⟩
      rw [hzip]
      refine wpIn_mono (kT hT lv assign _ _ ha1 ha2 (hround pre x hok hlen) g1 _ W hset.1 (by show _ = n; rw [hset.2]; exact hn)) ?_
      rintro e a2 W2 ⟨g2, s2, h5, h6, h7, h8⟩
      cases e with
      | normal =>
        have h5 : awp P T n s.nx lv body _ s2 := h5
        have hl2 := h8.other hset.1.o hl rfl
        have hk2 := h8.other hset.1.o hk rfl
        refine ⟨_, run_beginRound hl2 (by rw [hrec]), ?_⟩
        obtain ⟨W3, hW3⟩ : ∃ W3, W2.putObj (w.heap.size + 1) (.loop { rec .ready none with state := .busy }) = W3 := ⟨_, rfl⟩
        rw [hW3]
        have hg3 : W2.grownBy W3 (some (w.heap.size + 1)) := by rw [← hW3]; exact grownBy_putObj' _ _ _
        have hlt2 : w.heap.size + 1 < W2.heap.size := (Array.getElem?_eq_some_iff.1 hl2).1
        have hl3 : W3.heap[w.heap.size + 1]? = some (.loop { rec .ready none with state := .busy }) := by rw [← hW3]; exact World.putObj_heap_same hlt2
        have hk3 : W3.heap[w.heap.size]? = some (.deferred (some [])) := by rw [← hW3]; exact (World.putObj_heap_other (by omega)).trans hk2
        have hr3 := h6.grown hg3 fun r e => (hput W2 _ hl2 rfl r e).2
        have hs3 : jh s.nx g s w g2 ⟨s.tm, s2.os, s2.nx⟩ W3 := ((hs1.tm (tm := s.tm) (tm' := s.tm)).trans (h8.tm (tm := s.tm) (tm' := s.tm))).grown hg3 (by rw [← hW3]; exact Nat.le_refl _) fun r e => (hput W2 _ hl2 rfl r e).1
        refine wpIn_mono (kT hT lv body _ _ hb1 hb2 h5 g2 a2 W3 hr3 h7) ?_
        rintro e a4 W4 ⟨g4, s4, h9, h10, h11, h12⟩
        have hl4 := h12.other hr3.o hl3 rfl
        have hk4 := h12.other hr3.o hk3 rfl
        have hs4 : jh s.nx g s w g4 ⟨s.tm, s4.os, s4.nx⟩ W4 := hs3.trans (h12.tm (tm := s.tm) (tm' := s.tm))
        have hst : Step g s w g4 ⟨s.tm, s4.os, s4.nx⟩ W4 := hs4.step hr.o (Nat.le_refl _)
        have hr4 : Rel δ g4 ⟨s.tm, s4.os, s4.nx⟩ a W4 := ⟨fun t d ht => let ⟨v, h13, h14⟩ := hr.tm t d ht; ⟨v, h13, hst.xbf hr.o h14⟩, hr.defers, h10.o.tm⟩
        have fin : ∀ (jump : Option Code), ∃ W5, (Instr.endRound (w.heap.size + 1) jump).run P W4 = .ok (.bool jump.isNone) W5 ∧ (W4.grownBy W5 (some (w.heap.size + 1)) ∧ W4.drawn ≤ W5.drawn) ∧ W5.heap[w.heap.size + 1]? = some (.loop (rec (if jump.isNone then .ready else .done) jump)) ∧ W5.heap[w.heap.size]? = some (.deferred (some [])) := fun jump => by
          have := run_endRound (P := P) jump hl4
          rw [hrec] at this ⊢
          exact ⟨_, this, ⟨grownBy_putObj' _ _ _, Nat.le_refl _⟩, World.putObj_heap_same (Array.getElem?_eq_some_iff.1 hl4).1, (World.putObj_heap_other (by omega)).trans hk4⟩
        have hkp : ∀ W5, W4.grownBy W5 (some (w.heap.size + 1)) → ∀ b, g.I b → Cel W b → W5.heap[b]? = W.heap[b]? := fun W5 hg5 b hb _ => by
          have h13 : W.heap[b]? = w.heap[b]? := hs1.same b (hr.o.imm b hb).1 (hr.o.imm b hb).2
          have h14 : W4.heap[b]? = w.heap[b]? := hst.same b (hr.o.imm b hb).1 (hr.o.imm b hb).2
          have hlt := (hr.o.imm b hb).1
          rw [h13, ← h14]
          exact hg5.block b (Nat.lt_of_lt_of_le hlt hst.size) fun e => by cases e; omega
        have leave : ∀ (c : Code) (e : Exit), yb8 c = some e → (pre ++ [x] <+: order → Q e ⟨s.tm, s4.os, s4.nx⟩) → Jx c (pre ++ [x]) W4 := fun c e h13 h14 => by
          rw [hJx]
          exact ⟨e, s4, g4, h13, h14, hr4, hs4⟩
        cases e with
        | normal =>
          obtain ⟨h13, h14⟩ : ok (pre ++ [x]) ∧ Sub s.nx ⟨s.tm, s4.os, s4.nx⟩ ⟨s.tm, O (pre ++ [x]), s.nx⟩ := h9
          obtain ⟨h15, h16⟩ := hr4.sub h14
          obtain ⟨W5, h17, h18, h19, h20⟩ := fin none
          refine ⟨_, W5, h17, .inl ⟨rfl, ⟨hJg _ W4 W5 _ (by rw [hJ]; exact ⟨h13, _, h15, hs4.trans h16⟩) h18.1 h18.2 (hput W4 _ hl4 rfl), h19, h20⟩, hkp W5 h18.1⟩⟩
        | ret =>
          obtain ⟨W5, h17, h18, h19, h20⟩ := fin (some .ret)
          exact ⟨_, W5, h17, .inr ⟨rfl, .ret, hJxg _ _ W4 W5 _ (leave .ret .ret rfl h9) h18.1 h18.2 (hput W4 _ hl4 rfl), h19, h20⟩⟩
        | exit i =>
          obtain ⟨W5, h17, h18, h19, h20⟩ := fin (some (.exit i))
          exact ⟨_, W5, h17, .inr ⟨rfl, .exit i, hJxg _ _ W4 W5 _ (leave (.exit i) (.exit i) rfl h9) h18.1 h18.2 (hput W4 _ hl4 rfl), h19, h20⟩⟩
        | _ => exact h9.elim
      | _ => exact h5.elim
    · -- behind the iterator
      rintro e W2 ⟨⟨v, rfl⟩, (⟨xs, rfl, hi, hl, hk⟩ | ⟨pre, hSp, c, hi, hl, hk⟩)⟩
      · refine ⟨none, _, by have := run_endLoop (P := P) hl (by rw [hrec]; simp); rw [hrec] at this; exact this, ?_⟩
        have hg3 := grownBy_putObj' W2 (w.heap.size + 1) (.loop { rec .ready none with state := .exhausted })
        have hi3 := hJg _ W2 _ _ hi hg3 (Nat.le_refl _) (hput W2 _ hl rfl)
        have hk3 := (World.putObj_heap_other (w := W2) (r := w.heap.size + 1) (o := .loop { rec .ready none with state := .exhausted }) (k := w.heap.size) (by omega)).trans hk
        rw [hrec] at hi3 hk3
        rw [hJ] at hi3
        obtain ⟨h5, g1, h6, h7⟩ := hi3
        exact ⟨[w.heap.size], g1, _, hdone h5, ⟨h6.tm, by show _ :: a.defers = _; rw [hr.defers]; rfl, h6.o⟩, fun D hD => by simp at hD; subst hD; exact ⟨Nat.le_refl _, hk3⟩, by simp, hn, jh.less hN h7⟩
      · refine ⟨some c, _, by have := run_endLoop (P := P) hl (by rw [hrec]; simp); rw [hrec] at this; exact this, ?_⟩
        have hg3 := grownBy_putObj' W2 (w.heap.size + 1) (.loop { rec .done (some c) with state := .exhausted })
        have hi3 := hJxg c _ W2 _ _ hi hg3 (Nat.le_refl _) (hput W2 _ hl rfl)
        have hk3 := (World.putObj_heap_other (w := W2) (r := w.heap.size + 1) (o := .loop { rec .done (some c) with state := .exhausted }) (k := w.heap.size) (by omega)).trans hk
        rw [hrec] at hi3 hk3
        rw [hJx] at hi3
        have hfin : ∀ Wf, (∃ (e : Exit) (s' : St) (g1 : G), yb8 c = some e ∧ (pre <+: order → Q e ⟨s.tm, s'.os, s'.nx⟩) ∧ Rel δ g1 ⟨s.tm, s'.os, s'.nx⟩ a Wf ∧ jh s.nx g s w g1 ⟨s.tm, s'.os, s'.nx⟩ Wf) → Wf.heap[w.heap.size]? = some (.deferred (some [])) →
            c.wpIn Fence.wide 5 P (fun e a' w' => ∃ (Ds : List Nat) (g' : G) (s' : St), Q e s' ∧ Rel (Ds.map mrk ++ δ) g' s' a' w' ∧ (∀ D ∈ Ds, w.heap.size ≤ D ∧ w'.heap[D]? = some (.deferred (some []))) ∧ Ds.Nodup ∧ a'.tmps.size = n ∧ jh N g s w g' s' w') { a with defers := [{ target := .collected w.heap.size, args := #[] }] ++ a.defers } Wf := by
          rintro Wf ⟨e, s', g1, h5, h8, h6, h7⟩ hkf
          have key : ∃ (Ds : List Nat) (g' : G) (s' : St), Q e s' ∧ Rel (Ds.map mrk ++ δ) g' s' { a with defers := [{ target := .collected w.heap.size, args := #[] }] ++ a.defers } Wf ∧ (∀ D ∈ Ds, w.heap.size ≤ D ∧ Wf.heap[D]? = some (.deferred (some []))) ∧ Ds.Nodup ∧ a.tmps.size = n ∧ jh N g s w g' s' Wf :=
            ⟨[w.heap.size], g1, _, h8 hSp, ⟨h6.tm, by show _ :: a.defers = _; rw [hr.defers]; rfl, h6.o⟩, fun D hD => by simp at hD; subst hD; exact ⟨Nat.le_refl _, hkf⟩, by simp, hn, jh.less hN h7⟩
          cases c <;> simp only [yb8, reduceCtorEq, Option.some.injEq] at h5
          · subst h5; exact wpIn_exit key
          · subst h5; exact wpIn_ret key
        exact hfin _ hi3 hk3
end
end Dm
namespace Dm
open Go
section
variable {δ : List Deferred} {P : Program} {T : Tab} {g g' g'' : G} {s s' s'' : St} {a : Act} {w w' w'' : World} {n N : Nat}

theorem xN {m : Nat} {fn : Func} {tmps : Array Value} {R : Ending → World → Prop} (K : World → Prop) : ∀ (Ds : List Nat) (w : World), Ds.Nodup → (∀ D ∈ Ds, w.heap[D]? = some (.deferred (some []))) → K w →
    (∀ W D, D ∈ Ds → K W → W.heap[D]? = some (.deferred (some [])) → K (W.putObj D (.deferred none))) → (∀ W, K W → ∃ v, (results fn tmps).run P W = .ok v W ∧ R (.returned v) W) →
    LeavesInM Fence.wide m P fn tmps R (Ds.map mrk) .returning w
  | [], w, _, _, hK, _, h => h w hK
  | D :: Ds, w, hn, hD, hK, hs, h => by
    obtain ⟨hn1, hn2⟩ := List.nodup_cons.1 hn
    refine ⟨by simp, .inl ⟨D, _, rfl, run_takeDeferred (hD D (by simp)), ?_⟩⟩
    refine xN K Ds _ hn2 (fun D' hD' => ?_) (hs w D (by simp) hK (hD D (by simp))) (fun W D' hD' => hs W D' (by simp [hD'])) h
    have hne : D' ≠ D := fun e => hn1 (by rw [← e]; exact hD')
    exact (World.putObj_heap_other hne).trans (hD D' (by simp [hD']))

theorem vN {f : FuncId} {fn : Func} {c : Code} {ds : List D} {os : List (Nat × Ob)} {nx : Nat} {Q : D → List (Nat × Ob) → Nat → Prop}
    (hf : P.funcs[f]? = some fn) (hname : (fn.name == "runtime.NumGoroutine") = false) (hb : fn.body = some c) (hn : fn.ntmps = n) (hl : ds.length ≤ n) {rs : List ResultVar} (hrs : fn.results.toList = rs)
    (h : SWm P n nx c (fin P rs Q) ⟨prm 0 ds, os, nx⟩) : va P f ds os nx Q := by
  refine ⟨⟨fn, hf, hname, by rw [hb]; rfl⟩, fun g w vs ho hsz hv => ?_⟩
  refine callsIn_wide (n := 5).1 (callsIn_of_wp_marks hf hb trivial (wpIn_wide.2 ?_))
  subst hn
  have hr : Rel [] g ⟨prm 0 ds, os, nx⟩ { tmps := vs ++ Array.replicate (fn.ntmps - vs.size) undef, defers := [] } w := by
    refine ⟨fun t d ht => ?_, rfl, ho.tm⟩
    obtain ⟨_, h2⟩ := jaz ds 0 t d ht
    rw [Nat.sub_zero] at h2
    have ht : t < vs.size := by
      rw [hsz]
      rcases Nat.lt_or_ge t ds.length with h | h
      · exact h
      · rw [List.getElem?_eq_none h] at h2; cases h2
    refine ⟨vs[t], ?_, hv t _ d (Array.getElem?_eq_getElem ht) h2⟩
    rw [Array.getElem?_append_left ht, Array.getElem?_eq_getElem ht]
  refine wp_mono (h [] g _ w hr (by simp; omega)) fun e a' w' ⟨Ds, g', s', h1, h2, h3, h4, h5, h6⟩ => ?_
  rw [List.append_nil] at h2
  have fin : ∀ (hq : rto (rdD P s' rs) s' Q), LeavesInM Fence.wide 5 P fn a'.tmps (fun e w' => ∃ v d g' os' nx', e = .returned v ∧ Q d os' nx' ∧ uj g' ⟨[], os', nx'⟩ w' ∧ ga g' w' v d ∧ Step g ⟨[], os, nx⟩ w g' ⟨[], os', nx'⟩ w') a'.defers .returning w' := by
    intro hq
    rw [h2.defers]
    refine xN (fun W => Rel (Ds.map mrk) g' s' a' W ∧ jh nx g ⟨prm 0 ds, os, nx⟩ w g' s' W) Ds w' h4 (fun D hD => (h3 D hD).2) ⟨h2, h6⟩ (fun W D hD hK hd => ?_) (fun W hK => ?_)
    · have hg := grownBy_putObj' W D (.deferred none)
      exact ⟨hK.1.grown hg fun r e => by cases e; exact ⟨_, hd, rfl⟩, hK.2.grown hg (Nat.le_refl _) fun r e => by cases e; exact (h3 D hD).1⟩
    · unfold rto at hq
      split at hq
      · rename_i d hrd
        obtain ⟨v, h7, h8⟩ := wJ hK.1 fn hrs hrd
        exact ⟨v, h7, v, d, g', s'.os, s'.nx, rfl, hq, hK.1.o.tm, h8, (hK.2.tm (tm := []) (tm' := [])).step ho (Nat.le_refl _)⟩
      · cases hq
  cases e with
  | normal => exact fin h1
  | ret => exact fin h1
  | _ => cases h1

theorem SWm.awp (hT : waH P T) (lv : Nat → Option (List Nat)) {c : Code} {Q : Exit → St → Prop} (hd : jD n c = true) (h : awp P T n N lv c Q s) : SWm P n N c Q s := SWm.of (qb hT lv c Q s hd h)
end
end Dm
namespace Dm
open Go
abbrev Sg (m : Nat) := List (Fin m) × Bool
section
variable {P : Program} {T : Tab} {g : G} {s s' : St} {a : Act} {w w' : World} {n l m : Nat}

structure YOk (P : Program) (l : Nat) (I : Nat → Prop) {m : Nat} (ys : Fin m → List D) (J Jx : List (Fin m) → World → Prop) : Prop where
  round : ∀ pre x (vs : Array Value) W1, J pre W1 → pre.length < m → vs.size = (ys x).length → (∀ (j : Nat) (v : Value) (d : D), vs[j]? = some v → (ys x)[j]? = some d → ga (G0 I) W1 v d) → YieldAt Fence.wide 3 P l vs W1 fun e W' =>
      (e = .returned (.bool true) ∧ J (pre ++ [x]) W' ∧ ∀ b, I b → Cel W1 b → W'.heap[b]? = W1.heap[b]?) ∨ (e = .returned (.bool false) ∧ Jx (pre ++ [x]) W')
  grow : ∀ pre W W', J pre W → Ext W W' → J pre W'
  growx : ∀ pre W W', Jx pre W → Ext W W' → Jx pre W'

def qH (I : Nat → Prop) {m : Nat} (J Jx : List (Fin m) → World → Prop) (s : St) (σ : Sg m) (a : Act) (w : World) : Prop :=
  s.os = [] ∧ s.nx = 0 ∧ match σ.2 with
    | true => Rel [] (G0 I) s a w ∧ J σ.1 w
    | false => Rel [] (G0 fun _ => False) s a w ∧ Jx σ.1 w

def SY (P : Program) (n : Nat) (I : Nat → Prop) {m : Nat} (J Jx : List (Fin m) → World → Prop) (c : Code) (Q : Exit → St → Sg m → Prop) (s : St) (σ : Sg m) : Prop :=
  ∀ a w, qH I J Jx s σ a w → a.tmps.size = n → c.wpIn Fence.wide 4 P (fun e a' w' => ∃ s' σ', Q e s' σ' ∧ qH I J Jx s' σ' a' w' ∧ a'.tmps.size = n) a w

def qat (o : Oper) (s : St) (l : Nat) : Option (List D) := match o.op with
  | .call c => match c.callee with
    | .value f => match s.ev f with
      | .fn (.yield l') [] [] => if l' = l then some (c.args.toList.map s.ev) else none
      | _ => none
    | _ => none
  | _ => none
def zab : List Nat → List (Nat × D) → List (Nat × D)
  | _, [] => []
  | seen, (t, d) :: l => if seen.contains t = true then zab seen l else if d.uan = true then (t, d) :: zab (t :: seen) l else zab (t :: seen) l
def St.qaH (s : St) : St := ⟨zab [] s.tm, [], 0⟩
def qac (P : Program) (T : Tab) (l : Nat) {m : Nat} (ys : Fin m → List D) (K : St → Sg m → Prop) : List Oper → St → Sg m → Prop
  | [], s, σ => K s σ
  | o :: rest, s, σ => o.guard = none ∧ match qat o s l with
    | some ds => σ.2 = true ∧ σ.1.length < m ∧ ∃ x, ds = ys x ∧ qac P T l ys K rest (s.put o.dst (.bool true)) (σ.1 ++ [x], true) ∧ qac P T l ys K rest (s.qaH.put o.dst (.bool false)) (σ.1 ++ [x], false)
    | none => yA P T o s fun s' => qac P T l ys K rest s' σ

variable {I : Nat → Prop} {ys : Fin m → List D} {J Jx : List (Fin m) → World → Prop}

theorem Rel.uc4 {I : Nat → Prop} (hr : Rel [] (G0 I) s a w) (hext : Ext w w') : Rel [] (G0 I) s a w' := by
  obtain ⟨h1, h2⟩ := hr.o.grow hext (I := I) (fun b hb => hb) (fun b _ hb => hb) (fun b hb => (hr.o.cel b hb).keep (hext.2.1 b (hr.o.imm b hb).1))
  exact ⟨fun t d ht => let ⟨v, h3, h4⟩ := hr.tm t d ht; ⟨v, h3, h2.xbf hr.o h4⟩, hr.defers, h1⟩

theorem qH.put {σ : Sg m} (h : qH I J Jx s σ a w) (t : Option Tmp) {v : Value} {d : D} (hv : ∀ g, (σ.2 = true → g = G0 I) → (σ.2 = false → g = G0 fun _ => False) → ga g w v d) (ht : ∀ x, t = some x → x < a.tmps.size) : qH I J Jx (s.put t d) σ (a.put t v) w := by
  obtain ⟨h1, h2, h3⟩ := h
  refine ⟨by cases t <;> exact h1, by cases t <;> exact h2, ?_⟩
  obtain ⟨pre, b⟩ := σ
  cases b
  · exact ⟨h3.1.put t (hv _ (fun h => by cases h) fun _ => rfl) ht, h3.2⟩
  · exact ⟨h3.1.put t (hv _ (fun _ => rfl) fun h => by cases h) ht, h3.2⟩

theorem qH.ext {σ : Sg m} (hY : YOk P l I ys J Jx) (h : qH I J Jx s σ a w) (hext : Ext w w') : qH I J Jx s σ a w' := by
  obtain ⟨h1, h2, h3⟩ := h
  refine ⟨h1, h2, ?_⟩
  obtain ⟨pre, b⟩ := σ
  cases b
  · exact ⟨h3.1.uc4 hext, hY.growx _ _ _ h3.2 hext⟩
  · exact ⟨h3.1.uc4 hext, hY.grow _ _ _ h3.2 hext⟩

theorem opY (hT : ya P T) (hY : YOk P l I ys J Jx) {σ : Sg m} {o : Oper} {K : St → Prop} (h : yA P T o s K) (hr : qH I J Jx s σ a w) (hn : a.tmps.size = n) (hd : ∀ x, o.dst = some x → x < n) {KK : Act → World → Prop} {Q : Exit → Act → World → Prop}
    (hK : ∀ s' a' w', K s' → qH I J Jx s' σ a' w' → a'.tmps.size = n → KK a' w') : o.wpIn Fence.wide 4 P a w KK Q := by
  have main : ∃ (v : Value) (d : D), jb5 P o a w v ∧ K (s.put o.dst d) ∧ ∀ w', Ext w w' → qH I J Jx (s.put o.dst d) σ (a.put o.dst v) w' := by
    obtain ⟨h1, h2, h3⟩ := hr
    obtain ⟨pre, b⟩ := σ
    cases b
    · obtain ⟨v, d, h4, h5, h6⟩ := x6 hT o h h3.1
      refine ⟨v, d, h4, h6, fun w' hext => qH.ext hY (σ := (pre, false)) (qH.put (σ := (pre, false)) ⟨h1, h2, h3⟩ o.dst (fun g _ hg => by rw [hg rfl]; exact h5) (fun x hx => by rw [hn]; exact hd x hx)) hext⟩
    · obtain ⟨v, d, h4, h5, h6⟩ := x6 hT o h h3.1
      refine ⟨v, d, h4, h6, fun w' hext => qH.ext hY (σ := (pre, true)) (qH.put (σ := (pre, true)) ⟨h1, h2, h3⟩ o.dst (fun g hg _ => by rw [hg rfl]; exact h5) (fun x hx => by rw [hn]; exact hd x hx)) hext⟩
  obtain ⟨v, d, h4, h5, h6⟩ := main
  refine ⟨fun f _ => trivial, ?_⟩
  have hq := h4 w (.refl w)
  unfold Oper.quietAt at hq
  have hsem : Oper.semAt Fence.wide.round a.eval o = execOp a.eval o := rfl
  rw [hsem]
  generalize (execOp a.eval o).run P w = r at hq ⊢
  have fin : ∀ w', Ext w w' → KK (a.put o.dst v) w' := fun w' hext => hK _ _ _ h5 (h6 w' hext) (by rw [je, hn])
  cases r with
  | ok nx w1 =>
    cases nx with
    | value u => obtain ⟨rfl, rfl⟩ := hq; exact fin _ (.refl _)
    | skip => obtain ⟨rfl, rfl⟩ := hq; exact fin _ (.refl _)
    | enter f args =>
      obtain ⟨rfl, hc⟩ := hq
      refine ⟨fun hh => (by cases hh), callsIn_wide.2 (hc.mono ?_)⟩
      rintro e w2 ⟨rfl, hext⟩
      exact fin w2 hext
    | _ => exact hq.elim
  | halt x w1 => exact hq.elim

theorem j6 {t : Nat} {d : D} : ∀ (tm : List (Nat × D)) (seen : List Nat), lk t (zab seen tm) = some d → seen.contains t = false ∧ lk t tm = some d ∧ d.uan = true
  | [], seen, h => by cases h
  | (u, e) :: l, seen, h => by
    simp only [zab] at h
    split at h
    · rename_i hc
      obtain ⟨h1, h2, h3⟩ := j6 l seen h
      refine ⟨h1, ?_, h3⟩
      rw [gb, if_neg (fun e => by subst e; rw [h1] at hc; cases hc)]
      exact h2
    · rename_i hc
      split at h
      · rename_i hs
        rw [gb] at h
        split at h
        · rename_i e'
          cases h
          subst e'
          exact ⟨by simpa using hc, by rw [gb, if_pos rfl], hs⟩
        · rename_i hne
          obtain ⟨h1, h2, h3⟩ := j6 l _ h
          exact ⟨by simp at h1 ⊢; exact h1.2, by rw [gb, if_neg hne]; exact h2, h3⟩
      · obtain ⟨h1, h2, h3⟩ := j6 l _ h
        have hne : ¬ t = u := by simp at h1; exact h1.1
        exact ⟨by simp at h1 ⊢; exact h1.2, by rw [gb, if_neg hne]; exact h2, h3⟩

theorem gbO (hY : YOk P l I ys J Jx) {pre : List (Fin m)} {o : Oper} {ds : List D} (hy : qat o s l = some ds) (hlen : pre.length < m) {x : Fin m} (hx : ds = ys x) (hr : qH I J Jx s (pre, true) a w) (hn : a.tmps.size = n) (hd : ∀ t, o.dst = some t → t < n)
    {KK : Act → World → Prop} {Q : Exit → Act → World → Prop}
    (hK : ∀ w', qH I J Jx (s.put o.dst (.bool true)) (pre ++ [x], true) (a.put o.dst (.bool true)) w' → KK (a.put o.dst (.bool true)) w')
    (hK' : ∀ w', qH I J Jx (s.qaH.put o.dst (.bool false)) (pre ++ [x], false) (a.put o.dst (.bool false)) w' → KK (a.put o.dst (.bool false)) w') : o.wpIn Fence.wide 4 P a w KK Q := by
  obtain ⟨h1, h2, h3, h4⟩ := hr
  unfold qat at hy
  split at hy <;> try cases hy
  rename_i c ho
  split at hy <;> try cases hy
  rename_i f hc
  split at hy <;> try cases hy
  rename_i l' hf
  split at hy <;> cases hy
  rename_i hl
  subst hl
  have hff := h3.ev f
  rw [hf] at hff
  generalize hfv : a.eval f = fv at hff
  cases hff with
  | fn _ fiv cav _ _ h5 h6 h7 h8 =>
  have e1 : fiv = #[] := Array.eq_empty_of_size_eq_zero (by simpa using h5)
  have e2 : cav = #[] := Array.eq_empty_of_size_eq_zero (by simpa using h6)
  subst e1; subst e2
  obtain ⟨h9, h10⟩ := zq h3 c.args
  have hvs : ∀ (j : Nat) (v : Value) (d : D), (c.args.map a.eval)[j]? = some v → (ys x)[j]? = some d → ga (G0 I) w v d := fun j v d hv hd => h10 j v d hv (by rw [hx]; exact hd)
  obtain ⟨fn, tmps, assign, body, hrun, hround⟩ := hY.round pre x (c.args.map a.eval) w h4 hlen (by rw [h9, hx]) hvs
  refine ⟨fun f _ => trivial, ?_⟩
  have hsem : Oper.semAt Fence.wide.round a.eval o = execOp a.eval o := rfl
  rw [hsem]
  have hex : (execOp a.eval o).run P w = .ok (.round l' fn tmps assign body) w := by
    unfold execOp
    simp [ho, resolve, hc, hfv, Deferred.ofValue, invoke, hrun]
  rw [hex]
  refine ⟨fun hh => (by cases hh), hround.mono ?_⟩
  rintro e w' (⟨rfl, hj, hkp⟩ | ⟨rfl, hj⟩)
  · refine hK w' (qH.put (σ := (pre ++ [x], true)) ⟨h1, h2, ?_, hj⟩ o.dst (fun g _ _ => .c _ _ (.bool _)) fun t ht => by rw [hn]; exact hd t ht)
    have hk : jo I w w' := fun b hb => hkp b hb (h3.o.cel b hb)
    refine ⟨fun t d ht => let ⟨v, h11, h12⟩ := h3.tm t d ht; ⟨v, h11, h12.mono hk (.refl _)⟩, h3.defers, ⟨fun id o h => ?_, fun id o id' o' b h => ?_, fun id _ => ⟨rfl, rfl⟩, fun b hb => ⟨((h3.o.cel b hb).keep (hk b hb)).lt, (h3.o.imm b hb).2⟩, fun b hb => (h3.o.cel b hb).keep (hk b hb)⟩⟩
    · rw [h1] at h; cases h
    · rw [h1] at h; cases h
  · refine hK' w' (qH.put (σ := (pre ++ [x], false)) ⟨rfl, rfl, ⟨fun t d ht => ?_, h3.defers, ⟨fun id o h => (by cases h), fun id o id' o' b h => (by cases h), fun id _ => ⟨rfl, rfl⟩, fun b hb => hb.elim, fun b hb => hb.elim⟩⟩, hj⟩ o.dst (fun g _ _ => .c _ _ (.bool _)) fun t ht => by rw [hn]; exact hd t ht)
    obtain ⟨_, h11, h12⟩ := j6 _ _ ht
    obtain ⟨v, h13, h14⟩ := h3.tm t d h11
    exact ⟨v, h13, h14.any h12⟩

theorem zy (hT : ya P T) (hY : YOk P l I ys J Jx) (all : Array Oper) {K : St → Sg m → Prop} {Q : Exit → Act → World → Prop} : ∀ (ops : List Oper) {s : St} {σ : Sg m} {a : Act} {w : World}, (∀ o ∈ ops, xm n o = true) → qac P T l ys K ops s σ → qH I J Jx s σ a w → a.tmps.size = n →
    (∀ s' σ' a' w', K s' σ' → qH I J Jx s' σ' a' w' → a'.tmps.size = n → Q .normal a' w') → wpListIn Fence.wide 4 P all Q ops a w
  | [], s, σ, a, w, _, h, hr, hn, hQ => hQ _ _ _ _ h hr hn
  | o :: rest, s, σ, a, w, hd, h, hr, hn, hQ => by
    have hdo : ∀ x, o.dst = some x → x < n := fun x hx => by
      have := hd o (by simp)
      unfold xm at this
      rw [hx] at this
      simpa using this
    have hrest : ∀ o ∈ rest, xm n o = true := fun o ho => hd o (by simp [ho])
    obtain ⟨hg, h⟩ := h
    have hw : Region.wanted o (yielded all a.tmps) = true := by simp [Region.wanted, hg]
    simp only [wpListIn, hw, if_true]
    split at h
    · rename_i ds hds
      obtain ⟨hlive, hlen, x, hx, h1, h2⟩ := h
      obtain ⟨pre, b⟩ := σ
      have hb : b = true := hlive
      subst hb
      exact gbO hY hds hlen hx hr hn hdo (fun w' hr' => zy hT hY all rest hrest h1 hr' (by rw [je, hn]) hQ) (fun w' hr' => zy hT hY all rest hrest h2 hr' (by rw [je, hn]) hQ)
    · exact opY hT hY h hr hn hdo fun s' a' w' hK hr' hn' => zy hT hY all rest hrest hK hr' hn' hQ

theorem qH.sub {σ : Sg m} (h : qH I J Jx s σ a w) (hs : s'.os = [] ∧ s'.nx = 0 ∧ gbD s.tm s'.tm) : qH I J Jx s' σ a w := by
  obtain ⟨h1, h2, h3⟩ := h
  have key : ∀ {I : Nat → Prop}, Rel [] (G0 I) s a w → Rel [] (G0 I) s' a w := fun hr => ⟨fun t d ht => by
    obtain ⟨d', h4, h5⟩ := zac hs.2.2 ht
    obtain ⟨v, h6, h7⟩ := hr.tm t d' h4
    exact ⟨v, h6, h7.le h5⟩, hr.defers, ⟨fun id o h => (by rw [hs.1] at h; cases h), fun id o id' o' b h => (by rw [hs.1] at h; cases h), fun id _ => ⟨rfl, rfl⟩, fun b hb => ⟨(hr.o.imm b hb).1, fun ⟨id, o, h, _⟩ => by rw [hs.1] at h; cases h⟩, hr.o.cel⟩⟩
  refine ⟨hs.1, hs.2.1, ?_⟩
  obtain ⟨pre, b⟩ := σ
  cases b
  · exact ⟨key h3.1, h3.2⟩
  · exact ⟨key h3.1, h3.2⟩

theorem SY.region (hT : ya P T) (hY : YOk P l I ys J Jx) {i : Nat} {ops : Array Oper} {Q : Exit → St → Sg m → Prop} {σ : Sg m} (hd : ops.toList.all (xm n) = true) (h : qac P T l ys (Q .normal) ops.toList s σ) : SY P n I J Jx (.region i ops false) Q s σ := fun a w hr hn =>
  wpIn_region_list (zy hT hY ops ops.toList (fun o ho => List.all_eq_true.1 hd o ho) h hr hn fun s' σ' a' w' h1 h2 h3 => ⟨s', σ', h1, h2, h3⟩)
theorem SY.seq {x y : Code} {Q : Exit → St → Sg m → Prop} {σ : Sg m} (h : SY P n I J Jx x (fun e s σ => match e with | .normal => SY P n I J Jx y Q s σ | e => Q e s σ) s σ) : SY P n I J Jx (.seq x y) Q s σ := fun a w hr hn => by
  refine wpIn_seq (wpIn_mono (h a w hr hn) fun e a' w' ⟨s', σ', h1, h2, h3⟩ => ?_)
  cases e with
  | normal => exact h1 a' w' h2 h3
  | _ => exact ⟨s', σ', h1, h2, h3⟩
theorem qH.ev {σ : Sg m} (h : qH I J Jx s σ a w) {c : Operand} {b : Bool} (hc : s.ev c = .bool b) : a.eval c = .bool b := by
  obtain ⟨h1, h2, h3⟩ := h
  obtain ⟨pre, b'⟩ := σ
  cases b'
  · have := h3.1.ev c; rw [hc] at this; exact this.jl
  · have := h3.1.ev c; rw [hc] at this; exact this.jl
theorem SY.cond {c : Operand} {x y : Code} {b : Bool} {Q : Exit → St → Sg m → Prop} {σ : Sg m} (hc : s.ev c = .bool b) (h1 : b = true → SY P n I J Jx x Q s σ) (h2 : b = false → SY P n I J Jx y Q s σ) : SY P n I J Jx (.cond c x y) Q s σ := fun a w hr hn => by
  refine wpIn_cond (hr.ev hc) ?_
  cases b with
  | true => exact h1 rfl a w hr hn
  | false => exact h2 rfl a w hr hn
theorem SY.skip {Q : Exit → St → Sg m → Prop} {σ : Sg m} (h : Q .normal s σ) : SY P n I J Jx .skip Q s σ := fun a w hr hn => wpIn_skip ⟨s, σ, h, hr, hn⟩
theorem SY.ret {Q : Exit → St → Sg m → Prop} {σ : Sg m} (h : Q .ret s σ) : SY P n I J Jx .ret Q s σ := fun a w hr hn => wpIn_ret ⟨s, σ, h, hr, hn⟩
theorem SY.exit {i : Nat} {Q : Exit → St → Sg m → Prop} {σ : Sg m} (h : Q (.exit i) s σ) : SY P n I J Jx (.exit i) Q s σ := fun a w hr hn => wpIn_exit ⟨s, σ, h, hr, hn⟩
theorem SY.block {i : Nat} {c : Code} {Q : Exit → St → Sg m → Prop} {σ : Sg m} (h : SY P n I J Jx c (fun e s σ => match e with | .exit j => if j = i then Q .normal s σ else Q (.exit j) s σ | e => Q e s σ) s σ) : SY P n I J Jx (.block i c) Q s σ := fun a w hr hn => by
  refine wpIn_block (wpIn_mono (h a w hr hn) fun e a' w' ⟨s', σ', h1, h2, h3⟩ => ?_)
  cases e with
  | exit j =>
    simp only [Exit.inBlock]
    dsimp only at h1
    split
    · rename_i hj; rw [if_pos hj] at h1; exact ⟨s', σ', h1, h2, h3⟩
    · rename_i hj; rw [if_neg hj] at h1; exact ⟨s', σ', h1, h2, h3⟩
  | _ => exact ⟨s', σ', h1, h2, h3⟩
theorem SY.loop {c : Code} {Q : Exit → St → Sg m → Prop} {σ : Sg m} (k : Nat) (S : Nat → St) (G' : Nat → Sg m) (i0 : Nat) (h0 : ∀ a w, qH I J Jx s σ a w → qH I J Jx (S i0) (G' i0) a w) (hi0 : i0 ≤ k)
    (hround : ∀ i, i ≤ k → SY P n I J Jx c (fun e s' σ' => match e with | .normal => i < k ∧ σ' = G' (i + 1) ∧ (S (i + 1)).os = [] ∧ (S (i + 1)).nx = 0 ∧ gbD s'.tm (S (i + 1)).tm | e => Q e s' σ') (S i) (G' i)) : SY P n I J Jx (.loop c) Q s σ := by
  have key : ∀ (j i : Nat) (a : Act) (w : World), i ≤ k → k - i = j → qH I J Jx (S i) (G' i) a w → a.tmps.size = n →
      Code.roundsIn Fence.wide 4 P c (fun e a' w' => ∃ s' σ', Q e s' σ' ∧ qH I J Jx s' σ' a' w' ∧ a'.tmps.size = n) (j + 1) a w := by
    intro j
    induction j with
    | zero =>
      intro i a w hi hj hr hn
      refine wpIn_mono (hround i hi a w hr hn) fun e a' w' ⟨s', σ', h1, h2, h3⟩ => ?_
      cases e with
      | normal => have := h1.1; omega
      | _ => exact ⟨s', σ', h1, h2, h3⟩
    | succ j ih =>
      intro i a w hi hj hr hn
      refine wpIn_mono (hround i hi a w hr hn) fun e a' w' ⟨s', σ', h1, h2, h3⟩ => ?_
      cases e with
      | normal =>
        obtain ⟨h4, rfl, h5, h6, h7⟩ := h1
        exact ih (i + 1) a' w' h4 (by omega) (h2.sub ⟨h5, h6, h7⟩) h3
      | _ => exact ⟨s', σ', h1, h2, h3⟩
  exact fun a w hr hn => wpIn_loop_rounds (k - i0 + 1) (key (k - i0) i0 a w hi0 rfl (h0 a w hr) hn)
end
end Dm
namespace Dm
open Go
section
variable {P : Program} {T : Tab} {g : G} {s s' : St} {a : Act} {w w' : World} {n l m : Nat}

theorem xag.of {gf : FuncId} {fn : Func} {c : Code} {caps : List D} {ys : Fin m → List D} {order : List (Fin m)}
    (hf : P.funcs[gf]? = some fn) (hname : (fn.name == "runtime.NumGoroutine") = false) (hb : fn.body = some c) (hn : fn.ntmps = n) (hl : caps.length + 1 ≤ n) (hrs : fn.results.toList = [])
    (h : ∀ (l : Nat) (I : Nat → Prop) (J Jx : List (Fin m) → World → Prop), YOk P l I ys J Jx →
      SY P n I J Jx c (fun e _ σ => (e = .normal ∨ e = .ret) ∧ ((σ.2 = true ∧ σ.1 = order) ∨ (σ.2 = false ∧ σ.1 <+: order))) ⟨prm 0 (.fn (.yield l) [] [] :: caps), [], 0⟩ ([], true)) : xag P gf caps ys order := by
  refine ⟨Go.Proofs.enters_of hf hname hb, fun I w lb hI hsz hv => ?_⟩
  · intro l J Jx W hbel hJ hJx hround h0
    refine callsIn_of_wp hf hb trivial ?_
    subst hn
    have hY : YOk P l I ys J Jx :=
      ⟨hround, hJ, hJx⟩
    have hcel : ∀ b, I b → Cel W b := fun b hb => (hI b hb).keep (hbel.block b (hI b hb).lt)
    have hk : jo I w W := fun b hb => hbel.block b (hI b hb).lt
    have hr : Rel [] (G0 I) ⟨prm 0 (.fn (.yield l) [] [] :: caps), [], 0⟩ { tmps := (#[Value.func (.yield l) #[] #[]] ++ lb) ++ Array.replicate (fn.ntmps - (#[Value.func (.yield l) #[] #[]] ++ lb).size) undef, defers := [] } W := by
      refine ⟨fun t d ht => ?_, rfl, (uj.none I W hcel).tm⟩
      obtain ⟨_, h2⟩ := jaz _ 0 t d ht
      rw [Nat.sub_zero] at h2
      have hs : (#[Value.func (.yield l) #[] #[]] ++ lb).size = caps.length + 1 := by simp [hsz]; omega
      have ht : t < (#[Value.func (.yield l) #[] #[]] ++ lb).size := by
        rw [hs]
        have := (List.getElem?_eq_some_iff.1 h2).1
        simpa using this
      refine ⟨(#[Value.func (.yield l) #[] #[]] ++ lb)[t], by rw [Array.getElem?_append_left ht, Array.getElem?_eq_getElem ht], ?_⟩
      cases t with
      | zero =>
        simp at h2
        subst h2
        simp
        exact .fn _ _ _ _ _ rfl rfl (fun i v d h => by simp at h) (fun i v d h => by simp at h)
      | succ t =>
        have h3 : caps[t]? = some d := by simpa using h2
        have h4 : lb[t]? = some (#[Value.func (.yield l) #[] #[]] ++ lb)[t + 1] := by
          rw [Array.getElem_append_right (by simp)]
          simp
        exact (hv t _ d h4 h3).mono hk (.refl _)
    refine wpIn_mono (h l I J Jx hY _ W ⟨rfl, rfl, hr, h0⟩ (by simp [hsz]; omega)) ?_
    rintro e a' w' ⟨s', σ', ⟨h1, h2⟩, h3, h4⟩
    have fin : a'.defers = [] ∧ ∃ v, (results fn a'.tmps).run P w' = .ok v w' ∧ ((∃ u, Ending.returned v = .returned u) ∧ ((∃ xs, xs = order ∧ J xs w') ∨ (∃ pre, pre <+: order ∧ Jx pre w'))) := by
      obtain ⟨h5, h6, h7⟩ := h3
      obtain ⟨pre, b⟩ := σ'
      cases b
      · obtain ⟨h8, h9⟩ := h7
        obtain ⟨v, h10, _⟩ := wJ h8 fn hrs (d := .tup []) rfl
        refine ⟨h8.defers, v, h10, ⟨v, rfl⟩, .inr ⟨pre, ?_, h9⟩⟩
        rcases h2 with ⟨h, _⟩ | ⟨_, h⟩
        · cases h
        · exact h
      · obtain ⟨h8, h9⟩ := h7
        obtain ⟨v, h10, _⟩ := wJ h8 fn hrs (d := .tup []) rfl
        refine ⟨h8.defers, v, h10, ⟨v, rfl⟩, .inl ⟨pre, ?_, h9⟩⟩
        rcases h2 with ⟨_, h⟩ | ⟨h, _⟩
        · exact h
        · cases h
    rcases h1 with rfl | rfl
    · exact fin
    · exact fin
end
end Dm
namespace Dm
open Go Go.Proofs Go.Shelf Go.RowKit Go.Lib Go.Sort
section
variable {P : Program} {ρ : Ren} {w w' : World}
theorem baY (h : Ext w w') : ∃ q os', w' = Sort.grow (w.drewN q) os' := by
  refine ⟨w'.drawn - w.drawn, w'.heap.extract w.heap.size w'.heap.size, ?_⟩
  obtain ⟨h1, h2, h3⟩ := h
  have e1 : w'.heap = w.heap ++ w'.heap.extract w.heap.size w'.heap.size := by
    apply Array.ext_getElem?
    intro i
    rw [Array.getElem?_append]
    split
    · rename_i hi; exact h2 i hi
    · rename_i hi
      rw [Array.getElem?_extract]
      by_cases hi2 : i < w'.heap.size
      · rw [if_pos (by omega), show w.heap.size + (i - w.heap.size) = i by omega]
      · rw [if_neg (by omega), Array.getElem?_eq_none (by omega)]
  have e2 : w'.drawn = w.drawn + (w'.drawn - w.drawn) := by have := h3.drw; omega
  obtain ⟨a1, a2, a3, a4, a5⟩ := w'
  obtain ⟨b1, b2, b3, b4, b5⟩ := w
  have h31 := h3.os
  have h32 := h3.out
  have h33 := h3.tape
  simp only at e1 e2 h31 h32 h33
  subst h31; subst h32; subst h33
  simp only [Sort.grow, World.drewN, World.mk.injEq, and_self, and_true, true_and]
  exact ⟨e1, e2⟩
theorem gO {off : Nat} {F cells : Array Value} {t : Nat} (ht : t < cells.size) : (putCells id off F cells)[t]? = if off ≤ t ∧ t < off + F.size then some F[t - off]! else cells[t]? := by
  unfold putCells
  rw [Array.getElem?_mapIdx, Array.getElem?_eq_getElem ht]
  simp only [Option.map_some, id]
  split <;> rfl
theorem kaq {enc : Nat → List Value} {k blk off m : Nat} {dk : Array Nat} {os : Array Obj} {cells : Array Value} {e : TypeId} {fz : Nat × Nat} (hb : w.heap[blk]? = some (.cells cells e fz)) {j : Nat} (hj : j < w.heap.size) :
    (sortWorldK enc k w blk off m dk os).heap[j]? = if j = blk then some (.cells (putCells id off (flatK enc k dk) cells) e fz) else w.heap[j]? := by
  unfold sortWorldK putRowK putRow mapBlock Sort.grow Sort.ahead
  have hs : (w.heap.modify blk (onCells (putCells id off (flatK enc k dk)))).size = w.heap.size := by simp
  simp only
  rw [Array.getElem?_append_left (by rw [hs]; exact hj), Array.getElem?_modify]
  by_cases h : j = blk
  · subst h
    rw [if_pos rfl, if_pos rfl, hb]; rfl
  · rw [if_neg (fun e => h e.symm), if_neg h]
theorem zbo {enc : Nat → List Value} {k blk off m : Nat} {dk : Array Nat} {os : Array Obj} : w.heap.size ≤ (sortWorldK enc k w blk off m dk os).heap.size := by
  unfold sortWorldK putRowK putRow mapBlock Sort.grow Sort.ahead
  simp
theorem bb3 {enc : Nat → List Value} {k blk off m : Nat} {dk : Array Nat} {os : Array Obj} : Env w (sortWorldK enc k w blk off m dk os) := ⟨rfl, rfl, rfl, Nat.le_add_right _ _⟩
theorem va.sort (L : SlLaysF0.n6 P ρ) {k : Nat} (hk0 : 0 < k) (aE : ∀ w, (isAgg (ρ.t 24)).run P w = .ok true w) (zE : ∀ w, (Go.sizeOf (ρ.t 24)).run P w = .ok k w)
    {f g : FuncId} (hf : ρ.f 6 = f) {cf : List C → List C → Int} {id e nx n : Nat} {h0 : Bool} {els : List (List C)} {os : List (Nat × Ob)} {Q : D → List (Nat × Ob) → Nat → Prop}
    (hi : lk id os = some (.vec h0 k e els)) (hn : n = els.length) (hsz : n < 4611686018427387904)
    (hcmp : ∀ x ∈ els, ∀ y ∈ els, yb P g [.agg (x.map .c), .agg (y.map .c)] (.int .i64 (cf x y)))

    (h1 : ∀ x ∈ els, ¬ cf x x < 0) (h2 : ∀ x ∈ els, ∀ y ∈ els, ∀ z ∈ els, cf x y < 0 → cf y z < 0 → cf x z < 0) (h3 : ∀ x ∈ els, ∀ y ∈ els, ∀ z ∈ els, ¬ cf x y < 0 → ¬ cf y z < 0 → ¬ cf x z < 0)
    (hQ : ∀ els' : List (List C), List.Perm els' els → els'.Pairwise (fun x y => ¬ cf y x < 0) → Q (.tup []) (upd id (.vec h0 k e els') os) nx) : va P f [.vec id n, .fn (.func g) [] []] os nx Q := by
  subst hf
  refine ⟨?_, fun g0 w vs ho hsv hv => ?_⟩
  · obtain ⟨nm, hnm, hfn⟩ := L.f6
    exact ⟨_, hfn, hnm, rfl⟩
  have hlen : vs.size = 2 := hsv
  have hv0 := hv 0 vs[0] _ (Array.getElem?_eq_getElem (by omega)) rfl
  have hv1 := hv 1 vs[1] _ (Array.getElem?_eq_getElem (by omega)) rfl
  have hvs : vs = #[vs[0], vs[1]] := by
    apply Array.ext
    · simpa using hlen
    · intro i hi1 hi2
      have : i = 0 ∨ i = 1 := by omega
      rcases this with rfl | rfl <;> rfl
  have hfn : vs[1] = .func (.func g) #[] #[] := by
    generalize vs[1] = u at hv1
    cases hv1 with
    | fn _ fi ca _ _ hs1 hs2 =>
      have e1 : fi = #[] := Array.eq_empty_of_size_eq_zero (by simpa using hs1)
      have e2 : ca = #[] := Array.eq_empty_of_size_eq_zero (by simpa using hs2)
      rw [e1, e2]
  rw [hfn] at hvs
  obtain ⟨a, cap, hκ, hle, hcm, hw, hob⟩ := ho.ok id _ hi
  obtain ⟨a', cap', hva, hcase⟩ : ∃ a' cap', vs[0] = .slice a' n cap' ∧ (a' = a ∧ cap' = cap) := by
    generalize vs[0] = u at hv0
    cases hv0 with
    | vec a' cap' _ _ a0 len cap0 hk hle' hm ha hvq =>
      rw [hκ] at hk
      cases hk
      exact ⟨a', cap', rfl, hvq hn⟩
  obtain ⟨rfl, rfl⟩ := hcase
  rw [hva] at hvs
  clear hv0 hv1 hv hva hfn
  subst hvs
  have hrt : ∀ g' w', ga g' w' (.tuple #[]) (.tup []) := fun g' w' => .tup #[] [] rfl (fun i v d hv => by simp at hv)
  by_cases hn0 : n = 0
  · have hels : els = [] := List.eq_nil_of_length_eq_zero (by omega)
    have hcon := AnyF.slices_SortFunc_none L a' cap' (.func (.func g) #[] #[]) w
    subst hn0
    refine hcon.mono ?_
    rintro ex w' ⟨rfl, rfl⟩
    subst hels
    have hq := hQ [] (.refl _) .nil
    obtain ⟨hr1, hr2⟩ := ho.replace hi (.vec h0 k e []) [] (.refl g0) (fun _ h => h) (fun _ _ => rfl) (fun _ _ => rfl) (Nat.le_refl _) (fun _ _ _ => rfl) (ho.ok id _ hi) (fun b hb => .inl hb)
    exact ⟨_, _, g0, _, nx, rfl, hq, hr1, hrt _ _, hr2⟩
  rcases hob with ⟨_, hc0⟩ | ⟨b, off, cells, vals, rfl, hblk, hsz2, ⟨hhd, hone⟩, hcell⟩
  · omega
  have hlt : b < w.heap.size := (Array.getElem?_eq_some_iff.1 hblk).1
  let ix : Nat → Nat := fun i => if i < n then i else 0
  have hix : ∀ i, ix i < n := fun i => by show (if i < n then i else 0) < n; split <;> omega
  let E : Nat → List C := fun i => els.getD (ix i) []
  have hE : ∀ i, E i ∈ els := fun i => by
    have h4 : ix i < els.length := by rw [← hn]; exact hix i
    show els.getD (ix i) [] ∈ els
    rw [List.getD_eq_getElem?_getD, List.getElem?_eq_getElem h4]
    exact List.getElem_mem h4
  have hE2 : ∀ i, els[ix i]? = some (E i) := fun i => by
    have h4 : ix i < els.length := by rw [← hn]; exact hix i
    show els[ix i]? = some (els.getD (ix i) [])
    rw [List.getD_eq_getElem?_getD, List.getElem?_eq_getElem h4]; rfl
  let enc : Nat → List Value := fun i => (List.range k).map (vals (ix i))
  have henc : ∀ x, (enc x).length = k := fun x => by simp [enc]
  have hcl : ∀ i j, j < k → ∃ y, (E i)[j]? = some y ∧ cells[off + ix i * k + j]? = some (vals (ix i) j) ∧ gl g0.I w (vals (ix i) j) y := fun i j hj => by
    have hwd : (E i).length = k := hw _ (hE i)
    have h4 : (E i)[j]? = some ((E i)[j]'(by omega)) := List.getElem?_eq_getElem (by omega)
    exact ⟨_, h4, hcell (ix i) j _ _ (hE2 i) h4⟩
  have hO : SWO (ltOf fun i j => cf (E i) (E j)) := by
    refine ⟨fun x => ?_, fun x y z hx hy => ?_, fun x y z hx hy => ?_⟩
    · unfold ltOf; exact decide_eq_false (h1 _ (hE x))
    · unfold ltOf at *
      exact decide_eq_true (h2 _ (hE x) _ (hE y) _ (hE z) (of_decide_eq_true hx) (of_decide_eq_true hy))
    · unfold ltOf at *
      exact decide_eq_false (h3 _ (hE x) _ (hE y) _ (hE z) (of_decide_eq_false hx) (of_decide_eq_false hy))
  have hmem0 : E 0 ∈ els := hE 0
  have eg : ∀ args w, (callFunc g args).run P w = .ok (.enter g args) w := by
    obtain ⟨⟨fn, h4, h5, h6⟩, _⟩ := hcmp _ hmem0 _ hmem0
    cases hb : fn.body with
    | none => rw [hb] at h6; cases h6
    | some c => exact enters_of h4 h5 hb
  have hIb : ∀ b', g0.I b' → b' < w.heap.size ∧ b' ≠ b := fun b' hb' => ⟨(ho.imm b' hb').1, fun e => (ho.imm b' hb').2 ⟨id, _, hi, by rw [e]; simp [G.blk, hκ]⟩⟩
  have hkeep : ∀ (m : Nat) (dk : Array Nat) (os' : Array Obj), jo g0.I w (sortWorldK enc k w b off m dk os') := fun m dk os' b' hb' => by
    rw [kaq hblk (hIb b' hb').1, if_neg (hIb b' hb').2]
  have hcl2 : CmpLays P g #[] enc k (fun i j => cf (E i) (E j)) b off n w := by
    intro m os' dk hdk x y
    have harg : ∀ (i : Nat) (v : Value) (d : D), (#[Value.agg (enc x).toArray, .agg (enc y).toArray] : Array Value)[i]? = some v → [D.agg ((E x).map .c), .agg ((E y).map .c)][i]? = some d → ga (G0 g0.I) (sortWorldK enc k w b off m dk os') v d := by
      have one : ∀ x, ga (G0 g0.I) (sortWorldK enc k w b off m dk os') (.agg (enc x).toArray) (.agg ((E x).map .c)) := fun x => by
        have hwd : (E x).length = k := hw _ (hE x)
        refine .agg _ _ (by simp [henc, hwd]) fun i v d hv hd => ?_
        simp only [List.getElem?_toArray, enc, List.getElem?_map] at hv
        have hik : i < k := by
          rcases Nat.lt_or_ge i k with h | h
          · exact h
          · rw [List.getElem?_eq_none (by simpa using h)] at hv; cases hv
        rw [List.getElem?_range hik] at hv
        simp only [Option.map_some, Option.some.injEq] at hv
        obtain ⟨z, h4, h5, h6⟩ := hcl x i hik
        rw [List.getElem?_map, h4] at hd
        simp only [Option.map_some, Option.some.injEq] at hd
        subst hv; subst hd
        exact .c _ _ (h6.mono (hkeep m dk os') fun b hb => hb)
      intro i v d hv hd
      have : i = 0 ∨ i = 1 ∨ 2 ≤ i := by omega
      rcases this with rfl | rfl | h
      · simp at hv hd; subst hv; subst hd; exact one x
      · simp at hv hd; subst hv; subst hd; exact one y
      · rw [List.getElem?_eq_none (by simpa using h)] at hd; cases hd
    have hc := (hcmp _ (hE x) _ (hE y)).2 g0.I (sortWorldK enc k w b off m dk os') #[.agg (enc x).toArray, .agg (enc y).toArray] (fun b' hb' => (ho.cel b' hb').keep (hkeep m dk os' b' hb')) rfl harg
    refine hc.mono ?_
    rintro ex w' ⟨v, I', rfl, hvr, hext, _⟩
    have := hvr.ki
    subst this
    exact ⟨rfl, baY hext⟩
  have hflat : ∀ (d : Array Nat) (t : Nat), t < d.size * k → (flatK enc k d)[t]! = vals (ix d[t / k]!) (t % k) := fun d t ht => by
    rw [get_flatK _ _ _ _ ht]
    have : t % k < k := Nat.mod_lt _ hk0
    simp [enc, this]
  have hH : HoldsK enc k w b off (Array.range n) := by
    intro t ht
    simp only [size_flatK, Array.size_range] at ht
    have h4 : t / k < n := (Nat.div_lt_iff_lt_mul hk0).2 ht
    rw [hflat _ _ (by simpa using ht)]
    have h5 : (Array.range n)[t / k]! = t / k := by simp [h4]
    rw [h5]
    have h6 : ix (t / k) = t / k := by show (if t / k < n then t / k else 0) = t / k; rw [if_pos h4]
    obtain ⟨y, h7, h8, h9⟩ := hcl (t / k) (t % k) (Nat.mod_lt _ hk0)
    rw [h6, show off + t / k * k + t % k = off + t by rw [Nat.add_assoc, Nat.div_add_mod']] at h8
    rw [h6]
    refine ⟨by simp only [World.cell?, hblk]; simpa using h8, by simp [World.frozen?, hblk]⟩
  have hcon := AnyQ.slices_SortFunc L k aE zE enc henc (fun x v hv => by
    simp only [enc, List.mem_map, List.mem_range] at hv
    obtain ⟨j, hj, rfl⟩ := hv
    obtain ⟨y, h7, h8, h9⟩ := hcl x j hj
    exact hone _ (Array.mem_toList_iff.2 (Array.mem_of_getElem? h8))) (fun i j => cf (E i) (E j)) hO g #[] b off cap' (Array.range n) w eg (by simpa using hcl2) hH hlt (by simpa using hsz)
  rw [Array.size_range] at hcon
  refine hcon.mono ?_
  rintro ex w' ⟨rfl, d', m, os', ⟨hp1, _, hp2⟩, hso, rfl⟩
  rw [Array.size_range] at hp1
  have hperm : d'.toList.Perm (List.range n) := by
    have e1 : d'.extract 0 n = d' := by rw [← hp1, Array.extract_size]
    have e2 : (Array.range n).extract 0 n = Array.range n := by
      have : (Array.range n).size = n := Array.size_range
      conv => lhs; arg 3; rw [← this]
      exact Array.extract_size
    rw [e1, e2, Array.toList_range] at hp2
    exact hp2
  have hEr : (List.range n).map E = els := by
    apply List.ext_getElem?
    intro i
    rw [List.getElem?_map]
    by_cases hin : i < n
    · rw [List.getElem?_range hin, Option.map_some, ← hE2 i]
      show els[ix i]? = _
      have : ix i = i := by show (if i < n then i else 0) = i; rw [if_pos hin]
      rw [this]
    · rw [List.getElem?_eq_none (by simpa using hin), List.getElem?_eq_none (by omega)]; rfl
  have hpe : (d'.toList.map E).Perm els := by
    have := hperm.map E
    rwa [hEr] at this
  have hlen' : (d'.toList.map E).length = n := by rw [hpe.length_eq]; exact hn.symm
  have hpw : (d'.toList.map E).Pairwise (fun x y => ¬ cf y x < 0) := by
    rw [List.pairwise_map, List.pairwise_iff_getElem]
    intro i j hi hj hij
    have hi' : i < d'.size := by simpa using hi
    have hj' : j < d'.size := by simpa using hj
    have := hso i j (Nat.zero_le _) hij (by omega)
    rw [getElem!_pos d' i hi', getElem!_pos d' j hj'] at this
    have := of_decide_eq_false this
    simpa using this
  have hq := hQ _ hpe hpw
  have hdn : ∀ i, i < n → d'[i]! < n := fun i hi => by
    have hi' : i < d'.size := by omega
    rw [getElem!_pos d' i hi']
    exact List.mem_range.1 (hperm.mem_iff.1 (by simp))
  have hok : OK g0 (sortWorldK enc k w b off m d' os') id (.vec h0 k e (d'.toList.map E)) := by
    refine ⟨some ⟨b, off, none⟩, cap', by rw [hlen', hn]; exact hκ, by omega, hcm, fun x hx => hw x (hpe.mem_iff.1 hx), .inr ⟨b, off, putCells _root_.id off (flatK enc k d') cells, fun i j => vals (ix d'[i]!) j, rfl, by rw [kaq hblk hlt, if_pos rfl], ?_, ⟨?_, ?_⟩, ?_⟩⟩
    · simpa [putCells] using hsz2
    · intro h
      have := hhd h
      simpa [putCells] using this
    · intro v hv
      rw [Array.mem_toList_iff] at hv
      obtain ⟨t, ht, htv⟩ := Array.mem_iff_getElem.1 hv
      have ht' : t < cells.size := by simpa [putCells] using ht
      have h4 := gO (off := off) (F := flatK enc k d') ht'
      rw [Array.getElem?_eq_getElem ht, htv] at h4
      split at h4
      · rename_i h5
        simp only [Option.some.injEq] at h4
        rw [size_flatK] at h5
        rw [h4, hflat _ _ (by omega)]
        obtain ⟨y, h7, h8, h9⟩ := hcl (d'[(t - off) / k]!) ((t - off) % k) (Nat.mod_lt _ hk0)
        exact hone _ (Array.mem_toList_iff.2 (Array.mem_of_getElem? h8))
      · exact hone _ (Array.mem_toList_iff.2 (Array.mem_of_getElem? h4.symm))
    · intro i j x y hx hy
      rw [List.getElem?_map] at hx
      have hin : i < n := by
        rcases Nat.lt_or_ge i n with h | h
        · exact h
        · rw [List.getElem?_eq_none (by simp; omega)] at hx; cases hx
      have hi' : i < d'.size := by omega
      have h4 : d'.toList[i]? = some d'[i]! := by rw [getElem!_pos d' i hi', Array.getElem?_toList, Array.getElem?_eq_getElem hi']
      rw [h4] at hx
      simp only [Option.map_some, Option.some.injEq] at hx
      subst hx
      have hjk : j < k := by
        have hwd := hw _ (hE d'[i]!)
        have := (List.getElem?_eq_some_iff.1 hy).1
        omega
      obtain ⟨z, h7, h8, h9⟩ := hcl d'[i]! j hjk
      rw [h7] at hy
      cases hy
      have hb1 : i * k + j < n * k := by
        have := Nat.mul_le_mul_right k (show i + 1 ≤ n from hin)
        rw [Nat.add_mul, Nat.one_mul] at this; omega
      have hb2 : n * k ≤ cap' * k := Nat.mul_le_mul_right k (by omega)
      have h10 : off + i * k + j < cells.size := by omega
      rw [gO h10, if_pos ⟨by omega, by rw [size_flatK, hp1]; omega⟩, show off + i * k + j - off = i * k + j by omega, hflat _ _ (by rw [hp1]; exact hb1)]
      have e1 : (i * k + j) / k = i := by rw [Nat.add_comm, Nat.add_mul_div_right _ _ hk0, Nat.div_eq_of_lt hjk, Nat.zero_add]
      have e2 : (i * k + j) % k = j := by rw [Nat.add_comm, Nat.add_mul_mod_self_right, Nat.mod_eq_of_lt hjk]
      rw [e1, e2]
      exact ⟨rfl, h9.mono (hkeep m d' os') fun b hb => hb⟩
  obtain ⟨hr1, hr2⟩ := ho.replace hi (.vec h0 k e (d'.toList.map E)) [] (.refl g0) (fun _ h => h) (fun _ _ => rfl) (fun _ _ => rfl) zbo (fun b' hb' hne => by
    rw [kaq hblk hb', if_neg fun e => hne (by rw [e]; simp [G.blk, hκ])]) hok (fun b' hb' => .inl (by simpa [G.blk, hκ] using hb')) bb3
  exact ⟨_, _, g0, _, nx, rfl, hq, hr1, hrt _ _, hr2⟩
end
end Dm
namespace Dm
open Go
def fzB (o : Option Ob) (id n t : Nat) (s : St) (K : St → Prop) : Prop := match o with
  | some (.vec _ _ _ els) => n = els.length ∧ K ⟨upd t (.c (.sl els)) s.tm, rmv s.os [id], s.nx⟩
  | _ => False
def fzA (x : Option D) (t : Nat) (s : St) (K : St → Prop) : Prop := match x with
  | some (.vec id n) => fzB (lk id s.os) id n t s K
  | some _ => K s
  | none => False
def fzK : List Nat → St → (St → Prop) → Prop
  | [], s, K => K s
  | t :: l, s, K => fzA (lk t s.tm) t s (fun s => fzK l s K)
section
variable {δ : List Deferred} {P : Program} {g g' : G} {s s' : St} {a : Act} {w w' : World} {n N : Nat} {K : St → Prop}
@[congr] theorem bbO {x x' : Option D} {t : Nat} (h : x = x') : fzA x t s K = fzA x' t s K := by rw [h]
@[congr] theorem bbW {x x' : Option Ob} {id n t : Nat} (h : x = x') : fzB x id n t s K = fzB x' id n t s K := by rw [h]
@[congr] theorem wb2 {l : List Nat} (h : s = s') : fzK l s K = fzK l s' K := by rw [h]
@[go_sem] theorem ucG : fzK [] s K = K s := rfl
@[go_sem] theorem qce {t : Nat} {l : List Nat} : fzK (t :: l) s K = fzA (lk t s.tm) t s (fun s => fzK l s K) := rfl
@[go_sem] theorem wcw {id m t : Nat} : fzA (some (.vec id m)) t s K = fzB (lk id s.os) id m t s K := rfl
@[go_sem] theorem zdj {x : C} {t : Nat} : fzA (some (.c x)) t s K = K s := rfl
@[go_sem] theorem xcA {t : Nat} : fzA (some .nil) t s K = K s := rfl
@[go_sem] theorem bcH {id m t : Nat} {hd : Bool} {z : Nat} {e : TypeId} {els : List (List C)} : fzB (some (.vec hd z e els)) id m t s K = (m = els.length ∧ K ⟨upd t (.c (.sl els)) s.tm, rmv s.os [id], s.nx⟩) := rfl
def lpF {ι : Type} (fz : List Nat) (N : Nat) (S : ι → St) (μ : ι → Nat) (m : Nat) (Q : Exit → St → Prop) : Exit → St → Prop
  | .normal, s => fzK fz s fun s => ∃ i, μ i < m ∧ Sub N s (S i)
  | e, s => Q e s
variable {Q : Exit → St → Prop}
@[congr] theorem gbT {ι : Type} {fz : List Nat} {S : ι → St} {μ : ι → Nat} {m : Nat} {e : Exit} (h' : s = s') : lpF fz N S μ m Q e s = lpF fz N S μ m Q e s' := by rw [h']
@[go_sem] theorem jdh {ι : Type} {fz : List Nat} {S : ι → St} {μ : ι → Nat} {m : Nat} : lpF fz N S μ m Q .normal s = fzK fz s fun s => ∃ i, μ i < m ∧ Sub N s (S i) := rfl
@[go_sem] theorem vdg {ι : Type} {fz : List Nat} {S : ι → St} {μ : ι → Nat} {m : Nat} : lpF fz N S μ m Q .ret s = Q .ret s := rfl
@[go_sem] theorem gdf {ι : Type} {fz : List Nat} {S : ι → St} {μ : ι → Nat} {m i : Nat} : lpF fz N S μ m Q (.exit i) s = Q (.exit i) s := rfl
end
end Dm
namespace Dm
open Go
section
variable {δ : List Deferred} {P : Program} {T : Tab} {g g' : G} {s s' r e : St} {a : Act} {w : World} {n N : Nat} {F F' : Nat → Prop} {all : Array Oper}
theorem gN {k : Nat} (hk : k < all.size) (hanc : ∀ j, j < k → Anc all j k) (hch : ∀ t, k < t → t < all.size → ∃ o ed, all[t]? = some o ∧ ed ∈ o.after ∧ Region.binds .any ed = true ∧ ed.on = t - 1) (hT : waH P T) (hd : all.toList.all (xm n) = true) (hE : ∀ (i : Nat) o, all[i]? = some o → ∀ ed ∈ o.after, Region.binds .any ed = true → ed.on < i) {Q : Exit → Act → World → Prop} : ∀ (fuel : Nat) (listed : Array Bool) (l : List Ent) (g : G) (s : St) (a : Act) (w : World),
    l.length = fuel → listed.size = all.size → Down all listed → (∀ i, i < k → (listed.getD i true = false ↔ ∃ x ∈ l, x.i = i)) → (∀ i, k ≤ i → i < all.size → listed.getD i true = false) → (∀ x ∈ l, x.i < k ∧ all[x.i]? = some x.o) → l.Pairwise (Two all) → (∀ x ∈ l, x.r.nx ≤ e.nx ∧ x.B ≤ x.r.nx) →
    Tr P T all l s e → jP (qcm l e) δ g s a w → a.tmps.size = n → (∀ g' (listed' : Array Bool) a' w', listed'.size = all.size → (∀ i, i < all.size → listed'.getD i true = decide (i < k)) → jP (fun id => e.nx ≤ id) δ g' e a' w' → a'.tmps.size = n → Step g s w g' e w' → wpAny P .any all Q (all.size - k) listed' a' w') →
    wpAny P .any all Q (fuel + (all.size - k)) listed a w
  | 0, listed, l, g, s, a, w, hl, hsz, hdn, hli, hlk, ho, hp, hnx, htr, hr, hn, hQ => by
    have : l = [] := List.eq_nil_of_length_eq_zero hl
    subst this
    rw [Nat.zero_add]
    refine hQ g listed a w hsz (fun i hi => ?_) ((hr.eqv htr).less fun id hid => .inr hid) hn (Step.eqv htr.2)
    by_cases hik : i < k
    · have : listed.getD i true ≠ false := fun h => by
        obtain ⟨x, hx, _⟩ := (hli i hik).1 h
        cases hx
      rw [decide_eq_true hik]
      simpa using this
    · rw [decide_eq_false hik]; exact hlk i (by omega) hi
  | fuel + 1, listed, l, g, s, a, w, hl, hsz, hdn, hli, hlk, ho0, hp, hnx, htr, hr, hn, hQ => by
    have ho : ∀ x ∈ l, all[x.i]? = some x.o := fun x hx => (ho0 x hx).2
    have hlk' : ∀ x ∈ l, x.i < k := fun x hx => (ho0 x hx).1
    have hlt : ∀ x ∈ l, x.i < all.size := fun x hx => (Array.getElem?_eq_some_iff.1 (ho x hx)).1
    rw [show fuel + 1 + (all.size - k) = fuel + (all.size - k) + 1 by omega]
    refine ⟨fun h0 => ?_, fun i hi => ?_⟩
    · -- there is always one that may come up
      cases l with
      | nil => simp at hl
      | cons y l =>
        exfalso
        have hy := ho y (by simp)
        have hyl := hlt y (by simp)
        have : y.i ∈ Region.ready .any all listed := by
          rw [Region.ready, List.mem_filter]
          refine ⟨List.mem_range.2 hyl, ?_⟩
          have h1 : listed.getD y.i true = false := (hli y.i (hlk' y (by simp))).2 ⟨y, by simp, rfl⟩
          rw [h1, hy]
          simp only [Bool.not_false, Option.map_some, Option.getD_some, Bool.true_and, Array.all_eq_true_iff_forall_mem]
          intro ed hed
          by_cases hb : Region.binds .any ed = true
          · have h2 := hE y.i y.o hy ed hed hb
            have h3 : listed.getD ed.on true ≠ false := fun h => by
              obtain ⟨z, hz, hzi⟩ := (hli ed.on (by have := hlk' y (by simp); omega)).1 h
              rcases List.mem_cons.1 hz with rfl | hz
              · omega
              · have := (List.rel_of_pairwise_cons hp hz).1
                omega
            have h4 : ed.on < listed.size := by omega
            have h5 : listed.getD ed.on true = true := by simpa using h3
            have h6 : listed.getD ed.on false = true := by
              simp only [Array.getD, h4, dif_pos] at h5 ⊢
              exact h5
            simp [hb, h6]
          · simp [hb]
        rw [h0] at this
        cases this
    · rw [Region.ready, List.mem_filter] at hi
      obtain ⟨hi1, hi2⟩ := hi
      have hi1' := List.mem_range.1 hi1
      simp only [Bool.and_eq_true, Bool.not_eq_true'] at hi2
      obtain ⟨hi3, hi4⟩ := hi2
      have hik : i < k := by
        rcases Nat.lt_or_ge i k with h | h
        · exact h
        exfalso
        have hgo : ∀ o ed, all[i]? = some o → ed ∈ o.after → Region.binds .any ed = true → listed.getD ed.on false = true := fun o ed ho' hed hb => by
          rw [ho'] at hi4
          simp only [Option.map_some, Option.getD_some, Array.all_eq_true_iff_forall_mem] at hi4
          have := hi4 ed hed
          rw [hb] at this
          simpa using this
        rcases Nat.eq_or_lt_of_le h with h5 | h5
        · subst h5
          cases l with
          | nil => simp at hl
          | cons y l =>
            have h6 := hanc y.i (hlk' y (by simp))
            have h7 : listed.getD y.i false = true := by
              obtain ⟨o, ed, ho', he', hb, h⟩ := h6.inv
              rcases h with h | h
              · rw [← h]; exact hgo _ _ ho' he' hb
              · exact h.listed hdn (hgo _ _ ho' he' hb)
            have h8 : listed.getD y.i true = false := (hli y.i (hlk' y (by simp))).2 ⟨y, by simp, rfl⟩
            have h9 : y.i < listed.size := by rw [hsz]; exact hlt y (by simp)
            simp only [Array.getD, h9, dif_pos] at h7 h8
            rw [h7] at h8
            cases h8
        · obtain ⟨o, ed, ho', hed, hb, hon⟩ := hch i h5 hi1'
          have h6 := hgo o ed ho' hed hb
          rw [hon] at h6
          have h8 := hlk (i - 1) (by omega) (by omega)
          have h9 : i - 1 < listed.size := by omega
          simp only [Array.getD, h9, dif_pos] at h6 h8
          rw [h6] at h8
          cases h8
      obtain ⟨x, hx, rfl⟩ := (hli i hik).1 hi3
      have hxo := ho x hx
      rw [hxo] at hi4
      simp only [Option.map_some, Option.getD_some, Array.all_eq_true_iff_forall_mem] at hi4
      obtain ⟨pre, post, rfl⟩ := List.append_of_mem hx
      have hpp := List.pairwise_append.1 hp
      have hind : ∀ y ∈ pre, Ind all y x ∨ (cmB all y.o x.o = true ∧ y.r.nx = y.B) := fun y hy => by
        obtain ⟨h1, _, _, h2⟩ := hpp.2.2 y hy x (by simp)
        refine h2.resolve_left fun he => ?_
        have hgo : ∀ ed ∈ x.o.after, Region.binds .any ed = true → listed.getD ed.on false = true := fun ed hed hb => by
          have := hi4 ed hed
          rw [hb] at this
          simpa using this
        have h5 : listed.getD y.i false = true := by
          obtain ⟨o, ed, ho', he', hb, h⟩ := he.inv
          rw [hxo] at ho'; cases ho'
          rcases h with h | h
          · rw [← h]; exact hgo _ he' hb
          · exact h.listed hdn (hgo _ he' hb)
        have h6 : listed.getD y.i true = false := (hli y.i (hlk' y (by simp [hy]))).2 ⟨y, by simp [hy], rfl⟩
        have h7 : y.i < listed.size := by rw [hsz]; exact hlt y (by simp [hy])
        simp only [Array.getD, h7, dif_pos] at h5 h6
        rw [h5] at h6
        cases h6
      obtain ⟨hgx, pre', hsim, htr'⟩ := Tr.front (fun y hy => (hind y hy).imp_right (·.1)) htr
      have hn1 : ∀ y ∈ pre, ∀ id ∈ x.T, ¬ (y.B ≤ id ∧ id < y.r.nx) := fun y hy id hid => by
        rcases hind y hy with h | h
        · exact h.n1 id hid
        · omega
      have hsim2 : (pre' ++ post).map Ent.sh = (pre ++ post).map Ent.sh := by rw [List.map_append, List.map_append, hsim]
      have hback : ∀ y' ∈ pre' ++ post, ∃ y ∈ pre ++ post, y'.sh = y.sh := fun y' hy' => gac hsim2 hy'
      have hpost : ∀ y ∈ post, x.r.nx ≤ y.B := fun y hy => (List.rel_of_pairwise_cons hpp.2.1 hy).2.1
      have hpre : ∀ y ∈ pre, y.r.nx ≤ x.B := fun y hy => (hpp.2.2 y hy x (by simp)).2.1
      have hxnx := hnx x (by simp)
      have hlow := hgx.facts.2.2
      unfold wpOp
      rw [hxo]
      refine wad (F' := qcm (pre' ++ post) e) hT hgx (List.all_eq_true.1 hd x.o (by simpa using Array.mem_of_getElem? hxo)) hr hn (fun id h1 h2 => .inl ⟨x, by simp, h1, h2⟩) (fun id hid => ?_) fun g' a' w' hr' hn' hst => ?_
      · rcases hid with ⟨y', hy', h1, h2⟩ | h1
        · obtain ⟨y, hy, hyy⟩ := hback y' hy'
          obtain ⟨_, _, _, _, a5, a6⟩ := vJ hyy
          rw [a5] at h1
          rw [a6] at h2
          rcases List.mem_append.1 hy with hy | hy
          · have h3 := hpre y hy
            exact ⟨.inl ⟨y, by simp [hy], h1, h2⟩, .inl (by omega), fun hm => hn1 y hy id hm ⟨h1, h2⟩⟩
          · have h3 := hpost y hy
            exact ⟨.inl ⟨y, by simp [hy], h1, h2⟩, .inr (by omega), fun hm => by have := hlow id hm; omega⟩
        · exact ⟨.inr h1, .inr (by omega), fun hm => by have := hlow id hm; omega⟩
      · have hlen' : pre'.length = pre.length := by simpa using congrArg List.length hsim
        refine gN hk hanc hch hT hd hE fuel _ (pre' ++ post) g' _ a' w' (by simp at hl ⊢; omega) (by simpa using hsz) ?_ (fun i hi => ?_) (fun i h1 h2 => by rw [getD_set_ne true (by omega)]; exact hlk i h1 h2) (fun y' hy' => ?_) ?_ (fun y' hy' => ?_) htr' hr' hn'
          (fun g'' l'' a'' w'' h0 h0' h1 h2 h3 => hQ g'' l'' a'' w'' h0 h0' h1 h2 (hst.trans h3))
        · intro i o hi ho' ed hed hb
          have hset : ∀ k : Nat, listed.getD k false = true → (listed.setIfInBounds x.i true).getD k false = true := fun k hk => by
            by_cases hkx : k = x.i
            · subst hkx
              simp [Array.getD, hsz, hi1']
            · rw [getD_set_ne false (fun h => hkx h.symm)]; exact hk
          refine hset _ ?_
          by_cases hix : i = x.i
          · subst hix
            rw [hxo] at ho'; cases ho'
            have := hi4 ed hed
            rw [hb] at this
            simpa using this
          · rw [getD_set_ne false (fun h => hix h.symm)] at hi
            exact hdn i o hi ho' ed hed hb
        · have hne : ∀ y ∈ pre ++ post, y.i ≠ x.i := fun y hy => by
            rcases List.mem_append.1 hy with hy | hy
            · have := (hpp.2.2 y hy x (by simp)).1; omega
            · have := (List.rel_of_pairwise_cons hpp.2.1 hy).1; omega
          by_cases hix : i = x.i
          · subst hix
            have h7 : x.i < listed.size := by omega
            constructor
            · intro h
              simp [Array.getD, h7] at h
            · rintro ⟨y', hy', hyi⟩
              obtain ⟨y, hy, hyy⟩ := hback y' hy'
              exact absurd ((vJ hyy).1.symm.trans hyi) (hne y hy)
          · have : (listed.setIfInBounds x.i true).getD i true = listed.getD i true := by
              have hix' : x.i ≠ i := fun h => hix h.symm
              simp only [Array.getD, Array.size_setIfInBounds]
              split
              · simp only [Array.getInternal_eq_getElem]
                exact Array.getElem_setIfInBounds_ne _ hix'
              · rfl
            rw [this, hli i hi]
            constructor
            · rintro ⟨y, hy, hyi⟩
              have hy2 : y ∈ pre ++ post := by
                simp at hy ⊢
                rcases hy with h | h | h
                · exact .inl h
                · subst h; exact absurd hyi.symm hix
                · exact .inr h
              obtain ⟨y', hy', hyy⟩ := gac hsim2.symm hy2
              exact ⟨y', hy', (vJ hyy).1.symm.trans hyi⟩
            · rintro ⟨y', hy', hyi⟩
              obtain ⟨y, hy, hyy⟩ := hback y' hy'
              exact ⟨y, by simp at hy ⊢; rcases hy with h | h <;> simp [h], (vJ hyy).1.symm.trans hyi⟩
        · obtain ⟨y, hy, hyy⟩ := hback y' hy'
          obtain ⟨a1, a2, _⟩ := vJ hyy
          rw [a1, a2]
          exact ho0 y (by simp at hy ⊢; rcases hy with h | h <;> simp [h])
        · exact baQ (fun _ _ _ _ h1 h2 h3 => h3.sim h1 h2) hsim2 (hp.sublist (by simp))
        · obtain ⟨y, hy, hyy⟩ := hback y' hy'
          obtain ⟨_, _, _, _, a5, a6⟩ := vJ hyy
          rw [a5, a6]
          exact hnx y (by simp at hy ⊢; rcases hy with h | h <;> simp [h])
def jb3 (all : Array Oper) (us : List Nat) (k : Nat) : Bool := decide (k < all.size) && ((List.range k).all fun j => bF (us.getD k 0) j) && (List.range all.size).all fun t => decide (t ≤ k) || Region.waitsFor .any all t (t - 1)
def kbL (k m : Nat) : Array Bool := (Array.range m).map fun i => decide (i < k)
theorem qbp {k : Nat} {listed : Array Bool} (h : ∀ i, i < listed.size → listed.getD i true = decide (i < k)) : listed = kbL k listed.size := by
  apply Array.ext
  · simp [kbL]
  · intro i h1 h2
    have := h i h1
    simp only [Array.getD, h1, dif_pos] at this
    simp [kbL]
    simpa using this
theorem uc.tail (k : Nat) (us : List Nat) (hT : ya P T) {i : Nat} {ops : Array Oper} {Q : Exit → St → Prop} (hm : P.follows .mixedOrders = true) (hB : vbi ops 0 [] [] ops.toList us = true) (hd : ops.toList.all (xm n) = true)
    (hk : jb3 ops us k = true) (hq : Region.seqB .any ops (ops.size - k) k (kbL k ops.size) = true)
    (h : dx P T ops (ops.toList.take k) us 0 [] (fun e => zJ P T ops (ops.toList.drop k) e (Q .normal)) s) : uc P n N i ops Q s := by
  intro δ g a w hr hn
  obtain ⟨l, e, hK, ho⟩ := qaA _ _ _ _ _ h
  obtain ⟨hp1, _, hp3, hp4⟩ := vT hB rfl (fun j p h => by simp [yK] at h) (fun j => by simp)
  simp only [jb3, Bool.and_eq_true, decide_eq_true_eq] at hk
  obtain ⟨⟨hk1, hk2⟩, hk3⟩ := hk
  have htk : ∀ j o, (ops.toList.take k)[j]? = some o → j < k ∧ ops[j]? = some o := fun j o hj => by
    rw [List.getElem?_take] at hj
    split at hj
    · rename_i hjk; exact ⟨hjk, by simpa using hj⟩
    · cases hj
  have hof : ∀ x ∈ l, x.i < k ∧ ops[x.i]? = some x.o := fun x hx => by
    obtain ⟨j, h1, h2⟩ := ho.of x hx
    have : x.i = j := by omega
    rw [this]
    exact htk j _ h2
  have hC : Ext w { w with drawn := w.drawn + 1 } := ⟨Nat.le_refl _, fun _ _ => rfl, rfl, rfl, rfl, Nat.le_succ _⟩
  obtain ⟨h6, h7⟩ := hr.o.grow hC (I := g.I) (fun b hb => hb) (fun b _ hb => hb) (fun b hb => (hr.o.cel b hb).keep (hC.2.1 b (hr.o.imm b hb).1))
  have hr' : Rel δ (g.imm g.I) s a { w with drawn := w.drawn + 1 } := hr.of h6 h7.tm rfl
  have hlen : l.length = k := by
    have hnd : (l.map (·.i)).Pairwise (· < ·) := (List.pairwise_map).2 (ho.two.imp fun h => h.1)
    have h1 : l.map (·.i) = List.range k := by
      refine List.Perm.eq_of_pairwise (le := (· < ·)) (fun a b _ _ h h' => by omega) hnd List.pairwise_lt_range ?_
      refine (List.perm_ext_iff_of_nodup (hnd.imp fun h => Nat.ne_of_lt h) List.nodup_range).2 fun q => ?_
      rw [List.mem_map, List.mem_range]
      constructor
      · rintro ⟨x, hx, rfl⟩
        exact (hof x hx).1
      · intro hq
        obtain ⟨x, hx, hxi⟩ := ho.qaH q ops[q] (by rw [List.getElem?_take_of_lt hq]; simp [show q < ops.size by omega])
        exact ⟨x, hx, by omega⟩
    have h2 := congrArg List.length h1
    simpa using h2
  have hanc : ∀ j, j < k → Anc ops j k := fun j hj => by
    have hb := List.all_eq_true.1 hk2 j (List.mem_range.2 hj)
    have := hp4 k ops[k] (by simp [hk1]) j hb
    rwa [Nat.zero_add] at this
  have hch : ∀ t, k < t → t < ops.size → ∃ o ed, ops[t]? = some o ∧ ed ∈ o.after ∧ Region.binds .any ed = true ∧ ed.on = t - 1 := fun t h1 h2 => by
    have hb := List.all_eq_true.1 hk3 t (List.mem_range.2 h2)
    rw [decide_eq_false (by omega), Bool.false_or] at hb
    obtain ⟨o, h3, ed, h4, h5, h6⟩ := Region.waitsFor_spec hb
    exact ⟨o, ed, h3, h4, h5, h6⟩
  have hfuel : ops.size = l.length + (ops.size - k) := by omega
  refine wp_region_any hm ?_
  have key := gN (e := e) (Q := fun x a' w' => ∃ g' s', Q x s' ∧ Rel δ g' s' a' w' ∧ a'.tmps.size = n ∧ jh N g s w g' s' w') hk1 hanc hch hT.toS hd (fun i o hi ed hed hb => by
    have := hp1 i o (by simpa using hi) ed hed hb
    omega) l.length (Array.replicate ops.size false) l (g.imm g.I) s a { w with drawn := w.drawn + 1 } rfl (by simp) (fun i o hi => by by_cases hsz : i < ops.size <;> simp [Array.getD, hsz] at hi) (fun i hi => ?_) (fun i h1 h2 => by simp [Array.getD, h2]) hof ?_ (fun x hx => ⟨(ho.lo x hx).2.2, (ho.lo x hx).2.1⟩) ho.tr (hr'.toP.less fun id hid => ?_) hn (fun g' listed' a' w' hsz hls h1 h2 h3 => ?_)
  · rw [← hfuel] at key; exact key
  · constructor
    · intro _
      obtain ⟨x, hx, hxi⟩ := ho.qaH i ops[i] (by rw [List.getElem?_take_of_lt hi]; simp [show i < ops.size by omega])
      exact ⟨x, hx, by omega⟩
    · intro _
      simp [Array.getD, show i < ops.size by omega]
  · refine ho.two.imp_of_mem fun {y x} hy hx h => ⟨h.1, h.2.1, h.2.2.1, ?_⟩
    rw [Nat.sub_zero] at h
    by_cases hed : bF (us.getD x.i 0) y.i = true
    · left
      have := hp4 x.i x.o (by simpa using (hof x hx).2) y.i hed
      rwa [Nat.zero_add] at this
    · right; left
      have h8 := zan (h.2.2.2.resolve_right hed)
      have h9 := hp3 y.i x.i y.o x.o h.1 (by simpa using (hof y hy).2) (by simpa using (hof x hx).2)
      rw [Nat.zero_add] at h9
      exact ⟨h9.resolve_left hed, h8.1, h8.2.1, h8.2.2, h.2.1, h.2.2.1⟩
  · rcases hid with ⟨x, hx, h1, h2⟩ | h1
    · have := ho.lo x hx; omega
    · have := ho.nx; omega
  · have hle : listed' = kbL k ops.size := by rw [← hsz]; exact qbp fun i hi => hls i (by omega)
    have hrel : Rel δ g' e a' w' := h1.toR fun id hid => hid
    have h10 : Step g s w (g.imm g.I) s { w with drawn := w.drawn + 1 } := h7.tm
    have hdl : (ops.toList.drop k).length = ops.size - k := by simp
    have := wpAny_of_seq (P := P) (md := .any) (ops := ops) (Q' := fun x a' w' => ∃ g' s', Q x s' ∧ Rel δ g' s' a' w' ∧ a'.tmps.size = n ∧ jh N g s w g' s' w') (ops.toList.drop k) k listed' a' w' (fun j => by simp) (by rw [hdl, hle]; exact hq)
      (jF hT.toS ops _ (fun o ho => List.all_eq_true.1 hd o (List.mem_of_mem_drop ho)) hK hrel h2 fun a'' w'' ⟨g'', s'', q1, q2, q3, q4⟩ => ⟨g'', s'', q1, q2, q3, ((h10.trans h3).trans q4).toN⟩)
    rwa [hdl] at this
end
end Dm
namespace Dm
open Go
def qP (T : TypeId → List C → Prop) : List Field → List C → Prop
  | [], xs => xs = []
  | f :: r, xs => ∃ ys zs, xs = ys ++ zs ∧ T f.type ys ∧ qP T r zs
def bcB (T : List C → Prop) : Nat → List C → Prop
  | 0, xs => xs = []
  | n + 1, xs => ∃ ys zs, xs = ys ++ zs ∧ T ys ∧ bcB T n zs
def Typ (P : Program) : Nat → TypeId → List C → Prop
  | 0, _, _ => False
  | k + 1, t, xs => match P.underlying t with
    | some .bool => ∃ b, xs = [.bool b]
    | some (.int kd) => ∃ n, xs = [.int kd n] ∧ (Lit.int kd n).wf = true
    | some (.float kd) => ∃ n, xs = [.flt kd (flo kd n)] ∧ (Lit.float kd n).wf = true
    | some .string => ∃ s, xs = [.str s] ∧ s.size ≤ maxLen
    | some (.slice e) => ∃ els, xs = [.sl els] ∧ els.length ≤ maxLen ∧ ∀ x ∈ els, Typ P k e x
    | some (.struct fs) => qP (Typ P k) fs.toList xs
    | some (.array n e) => bcB (Typ P k e) n xs
    | _ => False
def qA (P : Program) (ok : TypeId → Bool) : Nat → List Field → Option Nat
  | o, [] => some o
  | o, f :: r => if f.offset = o ∧ ok f.type = true then qA P ok (o + P.cellsOf f.type) r else none
def plain (P : Program) : Nat → TypeId → Bool
  | 0, _ => false
  | k + 1, t => match P.underlying t with
    | some .bool => true
    | some (.int _) => true
    | some (.float _) => true
    | some .string => true
    | some (.slice e) => plain P k e && P.cellsOf e != 0
    | some (.struct fs) => qA P (plain P k) 0 fs.toList == some (P.cellsOf t)
    | some (.array n e) => plain P k e && n * P.cellsOf e == P.cellsOf t
    | _ => false

section
variable {H : Type} {enc : TypeId × Value → H} {P : Program} {w : World} {spare : Nat → Bool} {held : Bool}

def below (w : World) (b : Nat) : Prop := Cel w b
def Reads (w : World) (cs : List Value) (xs : List C) : Prop := xs.length = cs.length ∧ ∀ (i : Nat) (v : Value) (y : C), cs[i]? = some v → xs[i]? = some y → gl (below w) w v y

theorem Reads.one {v : Value} {y : C} (h : gl (below w) w v y) : Reads w [v] [y] := ⟨rfl, fun i u z hu hz => by
  cases i with
  | zero => simp at hu hz; subst hu; subst hz; exact h
  | succ i => simp at hu⟩
theorem Reads.app {cs ds : List Value} {xs ys : List C} (h : Reads w cs xs) (h' : Reads w ds ys) : Reads w (cs ++ ds) (xs ++ ys) := by
  refine ⟨by simp [h.1, h'.1], fun i v y hv hy => ?_⟩
  rw [List.getElem?_append] at hv hy
  rw [h.1] at hy
  split at hv
  · rename_i hlt; rw [if_pos hlt] at hy; exact h.2 i v y hv hy
  · rename_i hlt; rw [if_neg hlt] at hy; exact h'.2 _ v y hv hy

theorem vu {α β : Type} {f : α → Option β} {a : α} {l : List α} {r : List β} (h : (a :: l).mapM f = some r) : ∃ b bs, f a = some b ∧ l.mapM f = some bs ∧ r = b :: bs := by
  rw [List.mapM_cons] at h
  cases hf : f a with
  | none => simp [hf] at h
  | some b =>
    cases hl : l.mapM f with
    | none => simp [hf, hl] at h
    | some bs => simp [hf, hl] at h; exact ⟨b, bs, rfl, rfl, h.symm⟩

theorem qX {ok : TypeId → Bool} : ∀ {fs : List Field} {o e : Nat}, qA P ok o fs = some e → o ≤ e
  | [], o, e, h => by simp only [qA, Option.some.injEq] at h; omega
  | f :: r, o, e, h => by
    simp only [qA] at h
    split at h
    · have := qX h; omega
    · cases h

theorem vU {k fuel : Nat} {cs : List Value} (IH : ∀ (t : TypeId) (cs : List Value) (x : DataW H × List MemPlace), DataW.trod enc P w 0 spare held fuel t cs = some x → plain P k t = true → ∃ xs, Typ P k t xs ∧ Reads w cs xs) :
    ∀ (fs : List Field) (o : Nat) (ys : List (DataW H × List MemPlace)), qA P (plain P k) o fs = some cs.length → fs.mapM (fun f => DataW.trod enc P w 0 spare held fuel f.type ((cs.drop f.offset).take (P.cellsOf f.type))) = some ys →
      ∃ xs, qP (Typ P k) fs xs ∧ Reads w (cs.drop o) xs
  | [], o, ys, h, _ => by
    simp only [qA, Option.some.injEq] at h
    exact ⟨[], rfl, by simp [Reads, h]⟩
  | f :: r, o, ys, h, hm => by
    simp only [qA] at h
    split at h
    · rename_i hc
      obtain ⟨hc1, hc2⟩ := hc
      have hle := qX h
      obtain ⟨b, bs, h1, h2, _⟩ := vu hm
      obtain ⟨xs, h3, h4⟩ := IH _ _ _ h1 hc2
      obtain ⟨zs, h5, h6⟩ := vU IH r _ bs h h2
      refine ⟨xs ++ zs, ⟨xs, zs, rfl, h3, h5⟩, ?_⟩
      have e : cs.drop o = (cs.drop f.offset).take (P.cellsOf f.type) ++ cs.drop (o + P.cellsOf f.type) := by
        rw [hc1, ← List.drop_drop, List.take_append_drop]
      rw [e]
      exact h4.app h6
    · cases h

theorem zZ {k fuel n sz : Nat} {e : TypeId} {cs : List Value} (IH : ∀ (t : TypeId) (cs : List Value) (x : DataW H × List MemPlace), DataW.trod enc P w 0 spare held fuel t cs = some x → plain P k t = true → ∃ xs, Typ P k t xs ∧ Reads w cs xs) (he : plain P k e = true) :
    ∀ (m j : Nat), j + m = n → n * sz = cs.length → (∀ i, i < n → ∃ x, DataW.trod enc P w 0 spare held fuel e ((cs.drop (i * sz)).take sz) = some x) → ∃ xs, bcB (Typ P k e) m xs ∧ Reads w (cs.drop (j * sz)) xs
  | 0, j, hj, hn, _ => ⟨[], rfl, by
      have : j = n := by omega
      subst this
      simp [Reads, hn]⟩
  | m + 1, j, hj, hn, hall => by
    obtain ⟨x, hx⟩ := hall j (by omega)
    obtain ⟨xs, h3, h4⟩ := IH _ _ _ hx he
    obtain ⟨zs, h5, h6⟩ := zZ IH he m (j + 1) (by omega) hn hall
    refine ⟨xs ++ zs, ⟨xs, zs, rfl, h3, h5⟩, ?_⟩
    have e : cs.drop (j * sz) = (cs.drop (j * sz)).take sz ++ cs.drop ((j + 1) * sz) := by
      rw [Nat.add_mul, Nat.one_mul, ← List.drop_drop, List.take_append_drop]
    rw [e]
    exact h4.app h6

theorem ku {β : Type} {f : Nat → Option β} {n : Nat} {r : List β} (h : (List.range n).mapM f = some r) (i : Nat) (hi : i < n) : ∃ y, f i = some y ∧ r[i]? = some y := by
  have key : ∀ (l : List Nat) (r : List β), l.mapM f = some r → ∀ (i x : Nat), l[i]? = some x → ∃ y, f x = some y ∧ r[i]? = some y := by
    intro l
    induction l with
    | nil => intro r _ i x hx; simp at hx
    | cons a l ih =>
      intro r hr i x hx
      obtain ⟨b, bs, h1, h2, rfl⟩ := vu hr
      cases i with
      | zero => simp at hx; subst hx; exact ⟨b, h1, rfl⟩
      | succ i => exact ih bs h2 i x (by simpa using hx)
  exact key _ _ h i i (by simp [hi])

theorem qav {α β : Type} {f : α → Option β} : ∀ {l : List α} {r : List β}, l.mapM f = some r → r.length = l.length
  | [], r, h => by simp at h; simp [h]
  | a :: l, r, h => by
    obtain ⟨b, bs, _, h2, rfl⟩ := vu h
    simp [qav h2]

theorem kal : ∀ (fuel k : Nat) (t : TypeId) (cs : List Value) (x : DataW H × List MemPlace), DataW.trod enc P w 0 spare held fuel t cs = some x → plain P k t = true → ∃ xs, Typ P k t xs ∧ Reads w cs xs
  | 0, k, t, cs, x, h, _ => by simp [DataW.trod] at h
  | fuel + 1, 0, t, cs, x, h, hp => by cases hp
  | fuel + 1, k + 1, t, cs, x, h, hp => by
    have IH := fun t cs x => kal fuel k t cs x
    simp only [plain] at hp
    simp only [Typ]
    unfold DataW.trod at h
    split at h
    · rename_i b hu; rw [hu]; exact ⟨[.bool b], ⟨b, rfl⟩, .one (.bool b)⟩
    · rename_i kd k' n hu
      rw [hu]
      split at h
      · rename_i hc; obtain ⟨rfl, hc⟩ := hc
        exact ⟨[.int _ n], ⟨n, rfl, hc⟩, .one (.int _ n)⟩
      · cases h
    · rename_i kd k' n hu
      rw [hu]
      split at h
      · rename_i hc; obtain ⟨rfl, hc⟩ := hc
        exact ⟨[.flt _ (flo _ n)], ⟨n, rfl, hc⟩, .one (.flt _ n)⟩
      · cases h
    · rename_i s hu
      rw [hu]
      split at h
      · rename_i hc
        exact ⟨[.str s], ⟨s, rfl, hc⟩, .one (.str s)⟩
      · cases h
    · rename_i hu; rw [hu] at hp; cases hp
    · rename_i hu; rw [hu] at hp; cases hp
    · rename_i e hu
      rw [hu]
      exact ⟨[.sl []], ⟨[], rfl, by simp, by simp⟩, .one (.slnil _ _ (by simp [maxLen]))⟩
    · rename_i e a len cap hu
      rw [hu] at hp ⊢
      simp only [Bool.and_eq_true, bne_iff_ne, ne_eq] at hp
      obtain ⟨hp1, hp2⟩ := hp
      split at h
      · rename_i hc
        obtain ⟨_, hlc, hcm⟩ := hc
        cases hm : (List.range len).mapM (fun i => (w.cells? 0 (a.add (i * P.cellsOf e)) (P.cellsOf e)).bind (DataW.trod enc P w 0 spare held fuel e)) with
        | none => dsimp only at h; rw [hm] at h; cases h
        | some elems =>
          have hel : ∀ i, i < len → ∃ ci xi, w.cells? 0 (a.add (i * P.cellsOf e)) (P.cellsOf e) = some ci ∧ Typ P k e xi ∧ Reads w ci xi := by
            intro i hi
            obtain ⟨y, h1, _⟩ := ku hm i hi
            cases hcs : w.cells? 0 (a.add (i * P.cellsOf e)) (P.cellsOf e) with
            | none => rw [hcs] at h1; cases h1
            | some ci =>
              rw [hcs] at h1
              obtain ⟨xi, h2, h3⟩ := IH e ci y h1 hp1
              exact ⟨ci, xi, rfl, h2, h3⟩
          have hch : ∃ (cf : Nat → List Value) (xf : Nat → List C), ∀ i, i < len → w.cells? 0 (a.add (i * P.cellsOf e)) (P.cellsOf e) = some (cf i) ∧ Typ P k e (xf i) ∧ Reads w (cf i) (xf i) := by
            refine ⟨fun i => if h : i < len then (hel i h).choose else [], fun i => if h : i < len then (hel i h).choose_spec.choose else [], fun i hi => ?_⟩
            simp only [dif_pos hi]
            exact (hel i hi).choose_spec.choose_spec
          obtain ⟨cf, xf, hf⟩ := hch
          have hlen : ∀ i, i < len → (cf i).length = P.cellsOf e ∧ ∀ j, j < P.cellsOf e → w.cell? ((a.add (i * P.cellsOf e)).add j) = (cf i)[j]? := by
            intro i hi
            have h1 := (hf i hi).1
            unfold World.cells? at h1
            rw [if_pos (Nat.zero_le _)] at h1
            refine ⟨by have := qav h1; simpa using this, fun j hj => ?_⟩
            obtain ⟨y, h2, h3⟩ := ku h1 j hj
            rw [h2, h3]
          refine ⟨[.sl ((List.range len).map xf)], ⟨_, rfl, by simp; omega, fun x hx => ?_⟩, .one ?_⟩
          · obtain ⟨i, hi, rfl⟩ := List.mem_map.1 hx
            exact (hf i (by simpa using hi)).2.1
          · by_cases h0 : len = 0
            · subst h0; exact .slnil _ _ hcm
            · have h00 := (hlen 0 (by omega))
              have hpos : 0 < P.cellsOf e := by omega
              have hc0 := h00.2 0 hpos
              have hs : ∃ v, w.cell? a = some v := by
                have : (cf 0)[0]? = some ((cf 0)[0]'(by omega)) := List.getElem?_eq_getElem _
                rw [this] at hc0
                simp only [Nat.zero_mul, Addr.add, Nat.add_zero] at hc0
                exact ⟨_, hc0⟩
              obtain ⟨v0, hv0⟩ := hs
              have hspot : a.spot = none ∧ Cel w a.block := by
                unfold World.cell? at hv0
                split at hv0
                · rename_i c _ _ hb
                  split at hv0
                  · cases hv0
                  · rename_i hsp
                    exact ⟨by simpa using hsp, .of hb⟩
                · cases hv0
              obtain ⟨ab, ao, asp⟩ := a
              simp only at hspot
              obtain ⟨rfl, hb⟩ := hspot
              have he : len = ((List.range len).map xf).length := by simp
              have hget : ∀ (i : Nat) (x : List C), ((List.range len).map xf)[i]? = some x → i < len ∧ x = xf i := fun i x hx => by
                simp only [List.getElem?_map, Option.map_eq_some_iff] at hx
                obtain ⟨j, hj, rfl⟩ := hx
                have := List.getElem?_eq_some_iff.1 hj
                obtain ⟨h1, h2⟩ := this
                simp at h1 h2
                subst h2
                exact ⟨h1, rfl⟩
              conv => arg 3; rw [he]
              refine .sl ab ao cap (P.cellsOf e) _ (fun i j => (cf i).getD j .nilFunc) hb (by simpa using hlc) hcm (fun x hx => ?_) (fun i j x y hx hy => ?_) (fun i j x y hx hy => ?_)
              · obtain ⟨i, hi, rfl⟩ := List.mem_map.1 hx
                have hi : i < len := by simpa using hi
                rw [(hf i hi).2.2.1, (hlen i hi).1]
              · obtain ⟨hi, rfl⟩ := hget i x hx
                have hj : j < (cf i).length := by
                  rw [← (hf i hi).2.2.1]
                  exact (List.getElem?_eq_some_iff.1 hy).1
                have h1 := (hlen i hi).2 j (by rw [← (hlen i hi).1]; exact hj)
                rw [yh, yh] at h1
                rw [h1, List.getD_eq_getElem?_getD, List.getElem?_eq_getElem hj]
                rfl
              · obtain ⟨hi, rfl⟩ := hget i x hx
                have hj : j < (cf i).length := by
                  rw [← (hf i hi).2.2.1]
                  exact (List.getElem?_eq_some_iff.1 hy).1
                refine (hf i hi).2.2.2 j _ y ?_ hy
                rw [List.getD_eq_getElem?_getD, List.getElem?_eq_getElem hj]
                rfl
      · cases h
    · rename_i cs0 _ _ fs hu
      rw [hu] at hp ⊢
      split at h
      · rename_i hc
        simp only [beq_iff_eq] at hp
        rw [← hc] at hp
        cases hm : fs.toList.mapM (fun f => DataW.trod enc P w 0 spare held fuel f.type ((cs0.drop f.offset).take (P.cellsOf f.type))) with
        | none => rw [hm] at h; simp at h
        | some ys =>
          obtain ⟨xs, h1, h2⟩ := vU IH fs.toList 0 ys hp hm
          exact ⟨xs, h1, by simpa using h2⟩
      · cases h
    · rename_i cs0 _ _ n e hu
      rw [hu] at hp ⊢
      simp only [Bool.and_eq_true, beq_iff_eq] at hp
      split at h
      · rename_i hc
        cases hm : (List.range n).mapM (fun i => DataW.trod enc P w 0 spare held fuel e ((cs0.drop (i * P.cellsOf e)).take (P.cellsOf e))) with
        | none => rw [hm] at h; simp at h
        | some ys =>
          obtain ⟨xs, h1, h2⟩ := zZ (n := n) (sz := P.cellsOf e) (cs := cs0) IH hp.1 n 0 (by omega) (by rw [hp.2, hc]) (fun i hi => by
            obtain ⟨y, h3, _⟩ := ku hm i hi
            exact ⟨y, h3⟩)
          exact ⟨xs, h1, by simpa using h2⟩
      · cases h
    all_goals (rename_i hu; first | (rw [hu] at hp; cases hp; done) | (cases h; done) | skip)

def yda : List C → D
  | [x] => .c x
  | _ => .undef
def bc1 (P : Program) (t : TypeId) (xs : List C) : D := match P.underlying t with
  | some (.struct _) => .agg (xs.map .c)
  | some (.array _ _) => .agg (xs.map .c)
  | _ => yda xs
theorem Reads.agg {cs : Array Value} {xs : List C} (h : Reads w cs.toList xs) : ga (G0 (below w)) w (.agg cs) (.agg (xs.map .c)) := by
  refine .agg cs _ (by simpa using h.1.symm) fun i v d hv hd => ?_
  simp only [List.getElem?_map, Option.map_eq_some_iff] at hd
  obtain ⟨y, hy, rfl⟩ := hd
  exact .c _ _ (h.2 i v y (by simpa using hv) hy)
theorem zay {r : Reach} {base k : Nat} {t : TypeId} {v : Value} {d : DataW H} {ps : List MemPlace} (hv : Value.okWide P w r base t v) (h : DataW.Trod enc P w 0 spare held t v d ps) (hp : plain P k t = true) :
    ∃ xs, Typ P k t xs ∧ ga (G0 (below w)) w v (bc1 P t xs) := by
  obtain ⟨fuel, h⟩ := h
  obtain ⟨xs, h1, h2⟩ := kal fuel k t _ _ h hp
  refine ⟨xs, h1, ?_⟩
  have one : ∀ (hc : v.cells = #[v]), ga (G0 (below w)) w v (yda xs) := by
    intro hc
    rw [hc] at h2
    match xs, h2 with
    | [], _ => exact .undef _
    | [x], h2 => exact .c _ _ (h2.2 0 v x rfl rfl)
    | _ :: _ :: _, _ => exact .undef _
  unfold bc1
  unfold Value.okWide at hv
  split
  · rename_i fs hu
    rw [hu] at hv
    obtain ⟨cs, rfl, _⟩ := hv
    exact h2.agg
  · rename_i n e hu
    rw [hu] at hv
    obtain ⟨cs, rfl, _⟩ := hv
    exact h2.agg
  · rename_i hn1 hn2
    refine one ?_
    cases v <;> try rfl
    rename_i cs
    exfalso
    cases k with
    | zero => cases hp
    | succ k =>
      simp only [plain] at hp
      split at hv
      · rename_i fs hu; exact hn1 fs hu
      · rename_i n e hu; exact hn2 n e hu
      · unfold Cell.okWide at hv
        split at hp <;> rename_i hu <;> first | (rw [hu] at hv; simp [Cell.ok, hu] at hv; done) | (exact absurd hu (hn1 _)) | (exact absurd hu (hn2 _ _)) | cases hp
theorem ka2 (w w' : World) (h : Ext w w') : RowKit.Below w.heap.size w w' := ⟨h.2.2.os, h.2.2.tape, h.2.2.out, h.1, h.2.1⟩
end
end Dm
namespace Dm
open Go
section
variable {P : Program} {n N : Nat}
theorem vbc {id k c sz t : Nat} : ∀ {tm : List (Nat × D)}, lk t (tm.map fun x => (x.1, ba2 id k c sz x.2)) = (lk t tm).map (ba2 id k c sz)
  | [] => rfl
  | (u, d) :: tm => by
    rw [List.map_cons, gb, gb]
    split
    · rfl
    · exact vbc
theorem SWm.opn {code : Code} {Q : Exit → St → Prop} {s : St} (id : Nat) {hd : Bool} {sz : Nat} {e : TypeId} {els : List (List C)} (ho : lk id s.os = some (.vec hd sz e els))
    (h : ∀ c, els.length ≤ c → c ≤ 9223372036854775807 → SWm P n N code Q ⟨s.tm.map fun x => (x.1, ba2 id els.length c sz x.2), upd id (.vec hd sz e (fit c sz els)) s.os, s.nx⟩) : SWm P n N code Q s := fun δ g a w hr hn => by
  obtain ⟨c, g', h1, h2, h3, h4, h5⟩ := zaT (nx := s.nx) hr.o.tm ho
  have hr' : Rel δ g' ⟨s.tm.map fun x => (x.1, ba2 id els.length c sz x.2), upd id (.vec hd sz e (fit c sz els)) s.os, s.nx⟩ a w := by
    refine ⟨fun t d ht => ?_, hr.defers, h3.tm⟩
    rw [vbc, Option.map_eq_some_iff] at ht
    obtain ⟨d0, hd0, rfl⟩ := ht
    obtain ⟨v, hv1, hv2⟩ := hr.tm t d0 hd0
    exact ⟨v, hv1, h5 v d0 hv2⟩
  have h4' : jh N g s w g' ⟨s.tm.map fun x => (x.1, ba2 id els.length c sz x.2), upd id (.vec hd sz e (fit c sz els)) s.os, s.nx⟩ w := (h4.toN (N := N)).tm
  refine wp_mono (h c h1 h2 δ g' a w hr' hn) fun e a' w' ⟨Ds, g2, s', q1, q2, q3, q4, q5, q6⟩ => ⟨Ds, g2, s', q1, q2, q3, q4, q5, h4'.trans q6⟩
end
end Dm
namespace Dm
open Go
theorem Cd.mk {a b : Prop} (h : a) (h1 : b) : a ∧ b := ⟨h, h1⟩
theorem cdA : type_of% (Cd.mk @kc6 (Cd.mk @xcZ (Cd.mk @kbf (Cd.mk @xbb (Cd.mk @vbe (Cd.mk @gbL (Cd.mk @bbg (Cd.mk @gbf (Cd.mk @qba (Cd.mk @wbc (Cd.mk @zbf (Cd.mk @wbf (Cd.mk @jbb @bbf))))))))))))) := Cd.mk @kc6 (Cd.mk @xcZ (Cd.mk @kbf (Cd.mk @xbb (Cd.mk @vbe (Cd.mk @gbL (Cd.mk @bbg (Cd.mk @gbf (Cd.mk @qba (Cd.mk @wbc (Cd.mk @zbf (Cd.mk @wbf (Cd.mk @jbb @bbf))))))))))))
theorem cdB : type_of% (Cd.mk @decide_true (Cd.mk @Bool.and_self (Cd.mk @Bool.true_and (Cd.mk @Ob.map.injEq (Cd.mk @Ob.it.injEq (Cd.mk @true_and @and_true)))))) := Cd.mk @decide_true (Cd.mk @Bool.and_self (Cd.mk @Bool.true_and (Cd.mk @Ob.map.injEq (Cd.mk @Ob.it.injEq (Cd.mk @true_and @and_true)))))
theorem cdN : type_of% (Cd.mk @false_implies (Cd.mk @true_implies (Cd.mk @not_false_eq_true @not_true_eq_false))) := Cd.mk @false_implies (Cd.mk @true_implies (Cd.mk @not_false_eq_true @not_true_eq_false))
end Dm
namespace Dm
open Go Go.Proofs Go.IntWalk
theorem qa : Tryz.prog.follows .mixedOrders = true := by kernel_rfl
@[go_sem] def xaU (x : Nat) : D := .bool false
@[go_sem] abbrev ucx : FuncId := 214
@[go_sem] def gbj : Tab := []
theorem gaF : ya Tryz.prog gbj := ya.nil
set_option maxRecDepth 8000 in
set_option maxHeartbeats 1000000 in
theorem xa9 (x : Nat)  : yb Tryz.prog 214 [.c (.int .u64 (x : Int))] (xaU x) := by
  refine .of (qcu gaF (Nat.le_of_ble_eq_true rfl) ?_)
  simp -implicitDefEqProofs only [cdA, go_sem, Go.Proofs.Tryz.f214, reduceIte, reduceCtorEq, Nat.reduceEqDiff, Nat.reduceAdd, Nat.reduceLeDiff, Nat.reduceSub, Nat.reduceMul, Nat.reduceLT, Nat.reduceShiftRight, Nat.reduceMod, Int.reduceLE, Int.reduceLT, Int.reduceToNat, List.cons.injEq, cdB]
def yJ : List D → Option (Prop × D × Fr)
  | [.c (.int .u64 z1)] => some (z1 = (z1.toNat : Int), xaU z1.toNat, [])
  | _ => none
attribute [go_sem] yJ
theorem gV : ∀ rs p r fr, yJ rs = some (p, r, fr) → p → zg Tryz.prog 214 rs r fr := by
  intro rs p r fr h hp
  unfold yJ at h
  split at h <;> cases h
  have hc0 := hp
  rename_i z1
  obtain ⟨z1, rfl⟩ : ∃ m : Nat, z1 = m := ⟨_, hc0⟩
  simp only [Int.toNat_natCast]
  exact xa9 z1
@[go_sem] def vbW (x : Nat) (y : Nat) : D := .int .i64 (vad x y)
@[go_sem] abbrev wdj : FuncId := 129
@[go_sem] def ycA : Tab := [(214, yJ)]
theorem ya7 : ya Tryz.prog ycA := (ya.cons gV ya.nil)
set_option maxRecDepth 8000 in
set_option maxHeartbeats 1000000 in
theorem xbW (x : Nat) (y : Nat)  : yb Tryz.prog 129 [.c (.int .u64 (x : Int)), .c (.int .u64 (y : Int))] (vbW x y) := by
  refine .of (bcI ya7 (Nat.le_of_ble_eq_true rfl) ?_)
  simp -implicitDefEqProofs only [cdA, go_sem, Go.Proofs.Tryz.f129, reduceIte, reduceCtorEq, Nat.reduceEqDiff, Nat.reduceAdd, Nat.reduceLeDiff, Nat.reduceSub, Nat.reduceMul, Nat.reduceLT, Nat.reduceShiftRight, Nat.reduceMod, Int.reduceLE, Int.reduceLT, Int.reduceToNat, List.cons.injEq, cdB]
  refine ⟨fun h => ?_, fun h => ⟨fun h1 => ?_, fun h1 => ?_⟩⟩ <;> simp [vad] <;> omega
def xO : List D → Option (Prop × D × Fr)
  | [.c (.int .u64 z2), .c (.int .u64 z3)] => some (z2 = (z2.toNat : Int) ∧ z3 = (z3.toNat : Int), vbW z2.toNat z3.toNat, [])
  | _ => none
attribute [go_sem] xO
theorem wC : ∀ rs p r fr, xO rs = some (p, r, fr) → p → zg Tryz.prog 129 rs r fr := by
  intro rs p r fr h hp
  unfold xO at h
  split at h <;> cases h
  obtain ⟨hc0, hc1⟩ := hp
  rename_i z2 z3
  obtain ⟨z2, rfl⟩ : ∃ m : Nat, z2 = m := ⟨_, hc0⟩
  obtain ⟨z3, rfl⟩ : ∃ m : Nat, z3 = m := ⟨_, hc1⟩
  simp only [Int.toNat_natCast]
  exact xbW z2 z3
def orS (l : List Int) : Int := (l.find? fun x => decide (¬ x = 0)).getD 0
@[go_sem] def gaN (l : List Int) : D := .int .i64 (orS l)
@[go_sem] abbrev jcE : FuncId := 127
@[go_sem] def ybs : Tab := []
theorem gZ : ya Tryz.prog ybs := ya.nil
set_option maxRecDepth 8000 in
set_option maxHeartbeats 1000000 in
theorem ua8 (l : List Int)  : yb Tryz.prog 127 [.sl (qad l)] (gaN l) := by
  refine .of (xcw gZ (Nat.le_of_ble_eq_true rfl) ?_)
  simp -implicitDefEqProofs only [cdA, go_sem, Go.Proofs.Tryz.f127, reduceIte, reduceCtorEq, Nat.reduceEqDiff, Nat.reduceAdd, Nat.reduceLeDiff, Nat.reduceSub, Nat.reduceMul, Nat.reduceLT, Nat.reduceShiftRight, Nat.reduceMod, Int.reduceLE, Int.reduceLT, Int.reduceToNat, List.cons.injEq, cdB]
  refine fun hl => SWp.loop (ι := { i : Nat // i ≤ l.length ∧ ∀ j, j < i → l.getD j default = 0 }) (fun i => ⟨[(3, .int .i64 0), (6, .sl (qad l)), (7, .int .i64 l.length), (8, .int .i64 i.1)], [], 0⟩) (fun i => l.length - i.1) ⟨0, by simp⟩ ?_ ?_
  · simp [go_sem]
  · rintro ⟨i, hi, hall⟩
    refine qb gZ.toS ubk _ _ _ rfl ?_
    simp -implicitDefEqProofs only [cdA, go_sem, reduceIte, reduceCtorEq, Nat.reduceEqDiff, Nat.reduceAdd, Nat.reduceLeDiff, Nat.reduceSub, Nat.reduceMul, Nat.reduceLT, Nat.reduceShiftRight, Nat.reduceMod, Int.reduceLE, Int.reduceLT, Int.reduceToNat, List.cons.injEq, cdB]
    refine ⟨fun h => ⟨by omega, fun h1 => ⟨⟨i + 1, by omega, fun j hj => ?_⟩, by dsimp only; omega, i64_in _ (by omega)⟩, fun h1 => ?_⟩, fun h => ?_⟩
    · by_cases hji : j = i
      · subst hji; exact h1
      · exact hall j (by omega)
    · have hi' : i < l.length := by omega
      have : l.find? (fun x => decide (¬ x = 0)) = some (l.getD i default) := by
        rw [List.find?_eq_some_iff_getElem]
        refine ⟨by simpa using h1, i, hi', (ve hi').symm, fun j hj => ?_⟩
        have := hall j hj
        rw [ve (by omega)] at this
        simpa using this
      rw [orS, this]; rfl
    · have : l.find? (fun x => decide (¬ x = 0)) = none := by
        rw [List.find?_eq_none]
        intro x hx
        obtain ⟨j, hj, rfl⟩ := jb.1 hx
        simpa using hall j (by omega)
      rw [orS, this]; rfl
def yQ : List D → Option (Prop × D × Fr)
  | [.c (.sl z4)] => some (z4 = qad (vaZ z4), gaN (vaZ z4), [])
  | _ => none
attribute [go_sem] yQ
theorem xar : ∀ rs p r fr, yQ rs = some (p, r, fr) → p → zg Tryz.prog 127 rs r fr := by
  intro rs p r fr h hp
  unfold yQ at h
  split at h <;> cases h
  have hc0 := hp
  rename_i z4
  obtain ⟨z4, rfl⟩ : ∃ m, z4 = qad m := ⟨_, hc0⟩
  simp only [uaB]
  exact ua8 z4
def ja8 (l : List Nat) : Nat := l.foldl max 0
theorem gah {l : List Nat} {i : Nat} (h : i < l.length) : ja8 (l.take (i + 1)) = max (ja8 (l.take i)) (l.getD i default) := by
  rw [take_succ h, ja8, List.foldl_append]; rfl
@[go_sem] def qbd (l : List Nat) : D := .int .u64 (ja8 l : Int)
@[go_sem] abbrev jc2 : FuncId := 130
@[go_sem] def ybK : Tab := [(214, yJ)]
theorem gae : ya Tryz.prog ybK := (ya.cons gV ya.nil)
set_option maxRecDepth 8000 in
set_option maxHeartbeats 1000000 in
theorem jbp (l : List Nat) (h : 0 < l.length) : yb Tryz.prog 130 [.sl (wv l)] (qbd l) := by
  refine .of (zcT gae (Nat.le_of_ble_eq_true rfl) ?_)
  simp -implicitDefEqProofs only [cdA, go_sem, Go.Proofs.Tryz.f130, reduceIte, reduceCtorEq, Nat.reduceEqDiff, Nat.reduceAdd, Nat.reduceLeDiff, Nat.reduceSub, Nat.reduceMul, Nat.reduceLT, Nat.reduceShiftRight, Nat.reduceMod, Int.reduceLE, Int.reduceLT, Int.reduceToNat, List.cons.injEq, cdB]
  refine fun hl => ⟨fun h1 => by omega, fun h1 => ⟨by omega, ?_⟩⟩
  refine SWp.loop (ι := { i : Nat // 0 < i ∧ i ≤ l.length }) (fun i => ⟨[(0, .sl (wv l)), (3, .int .u64 (ja8 (l.take i.1) : Nat)), (4, .int .i64 i.1)], [], 0⟩) (fun i => l.length - i.1) ⟨1, by omega⟩ ?_ ?_
  · have : ja8 (l.take 1) = l.getD 0 default := by rw [gah h]; simp [ja8]
    simp [go_sem, this]
  · rintro ⟨i, hi0, hi⟩
    refine qb gae.toS ubs _ _ _ rfl ?_
    simp -implicitDefEqProofs only [cdA, go_sem, reduceIte, reduceCtorEq, Nat.reduceEqDiff, Nat.reduceAdd, Nat.reduceLeDiff, Nat.reduceSub, Nat.reduceMul, Nat.reduceLT, Nat.reduceShiftRight, Nat.reduceMod, Int.reduceLE, Int.reduceLT, Int.reduceToNat, List.cons.injEq, cdB]
    refine fun _ => ⟨fun h2 => ⟨by omega, ⟨i + 1, by omega, by omega⟩, by dsimp only; omega, ?_, i64_in _ (by omega)⟩, fun h2 => ?_⟩
    · rw [gah (by omega)]; omega
    · rw [List.take_of_length_le (by omega)]
@[go_sem] def xbh (l : List Nat) : Prop := (0 < l.length)
def waa : List D → Option (Prop × D × Fr)
  | [.c (.sl z5)] => some (z5 = wv (wab z5) ∧ xbh (wab z5), qbd (wab z5), [])
  | _ => none
attribute [go_sem] waa
theorem waG : ∀ rs p r fr, waa rs = some (p, r, fr) → p → zg Tryz.prog 130 rs r fr := by
  intro rs p r fr h hp
  unfold waa at h
  split at h <;> cases h
  obtain ⟨hc0, hp⟩ := hp
  rename_i z5
  obtain ⟨z5, rfl⟩ : ∃ m, z5 = wv m := ⟨_, hc0⟩
  simp only [bD]
  simp only [bD, xbh] at hp
  exact jbp z5 hp
def wS (l : List Nat) : Int := if l.all (fun n => decide (n ≤ 4611686018427387904)) = true then 0 else 1
theorem ubh {l : List Nat} {m : Nat} : l.foldl max m ≤ 4611686018427387904 ↔ m ≤ 4611686018427387904 ∧ l.all (fun n => decide (n ≤ 4611686018427387904)) = true := by
  induction l generalizing m with
  | nil => simp
  | cons x l ih =>
    rw [List.foldl_cons, ih, List.all_cons]
    simp only [Bool.and_eq_true, decide_eq_true_eq, ← and_assoc]
    refine and_congr_left fun _ => ?_
    omega
@[go_sem] def k3 (l : List Nat) : D := .int .i64 (wS l)
@[go_sem] abbrev bbI : FuncId := 49
@[go_sem] def vaC : Tab := [(130, waa)]
theorem x9 : ya Tryz.prog vaC := (ya.cons waG ya.nil)
set_option maxRecDepth 8000 in
set_option maxHeartbeats 1000000 in
theorem yau (l : List Nat)  : yb Tryz.prog 49 [.sl (wv l)] (k3 l) := by
  refine .of (udf x9 (Nat.le_of_ble_eq_true rfl) ?_)
  simp -implicitDefEqProofs only [cdA, go_sem, Go.Proofs.Tryz.f49, reduceIte, reduceCtorEq, Nat.reduceEqDiff, Nat.reduceAdd, Nat.reduceLeDiff, Nat.reduceSub, Nat.reduceMul, Nat.reduceLT, Nat.reduceShiftRight, Nat.reduceMod, Int.reduceLE, Int.reduceLT, Int.reduceToNat, List.cons.injEq, cdB]
  have hm := ubh (l := l) (m := 0)
  refine fun h => ⟨fun h1 => ⟨by omega, fun h2 => ?_, fun h2 => ?_⟩, fun h1 => ?_⟩
  · rw [wS, if_neg]; intro h3; have := hm.2 ⟨by omega, h3⟩; unfold ja8 at h2; omega
  · rw [wS, if_pos]; unfold ja8 at h2; exact (hm.1 (by omega)).2
  · have : l = [] := List.eq_nil_of_length_eq_zero (by omega)
    subst this; rfl
def yg : List D → Option (Prop × D × Fr)
  | [.c (.sl z6)] => some (z6 = wv (wab z6), k3 (wab z6), [])
  | _ => none
attribute [go_sem] yg
theorem uf : ∀ rs p r fr, yg rs = some (p, r, fr) → p → zg Tryz.prog 49 rs r fr := by
  intro rs p r fr h hp
  unfold yg at h
  split at h <;> cases h
  have hc0 := hp
  rename_i z6
  obtain ⟨z6, rfl⟩ : ∃ m, z6 = wv m := ⟨_, hc0⟩
  simp only [bD]
  exact yau z6
def ban (l : List Nat) : Nat × Int := if wS l = 0 then (if l.sum ≤ 4611686018427387904 then (l.sum, 0) else (0, 8)) else (0, 1)
theorem ya0 {l : List Nat} {i : Nat} (h : i < l.length) : (l.take (i + 1)).sum = (l.take i).sum + l.getD i default := by
  rw [take_succ h]; simp
theorem zbS {l : List Nat} {i : Nat} : (l.take i).sum ≤ l.sum := by
  conv => rhs; rw [← List.take_append_drop i l]
  rw [List.sum_append]
  omega
theorem wa6 {l : List Nat} (h : wS l = 0) {i : Nat} (hi : i < l.length) : l.getD i default ≤ 4611686018427387904 := by
  unfold wS at h
  split at h
  · rename_i h1
    have := List.all_eq_true.1 h1 _ (jb.2 ⟨i, hi, rfl⟩)
    simpa using this
  · cases h
theorem ybO {l : List Nat} (h : ¬ wS l = 0) : wS l = 1 := by
  unfold wS at *; split <;> simp_all
@[go_sem] def bax (l : List Nat) : D := .tup [.int .u64 ((ban l).1 : Int), .int .i64 (ban l).2]
@[go_sem] abbrev xcb : FuncId := 145
@[go_sem] def baZ : Tab := [(49, yg)]
theorem bT : ya Tryz.prog baZ := (ya.cons uf ya.nil)
set_option maxRecDepth 8000 in
set_option maxHeartbeats 1000000 in
theorem gaT (l : List Nat)  : yb Tryz.prog 145 [.sl (wv l)] (bax l) := by
  refine .of (gcC bT (Nat.le_of_ble_eq_true rfl) ?_)
  simp -implicitDefEqProofs only [cdA, go_sem, Go.Proofs.Tryz.f145, reduceIte, reduceCtorEq, Nat.reduceEqDiff, Nat.reduceAdd, Nat.reduceLeDiff, Nat.reduceSub, Nat.reduceMul, Nat.reduceLT, Nat.reduceShiftRight, Nat.reduceMod, Int.reduceLE, Int.reduceLT, Int.reduceToNat, List.cons.injEq, cdB]
  refine ⟨fun h hl => ?_, fun h => ?_⟩
  · refine SWp.loop (ι := { i : Nat // i ≤ l.length ∧ (l.take i).sum ≤ 4611686018427387904 }) (fun i => ⟨[(2, .int .u64 ((l.take i.1).sum : Nat)), (11, .sl (wv l)), (12, .int .i64 l.length), (13, .int .i64 i.1)], [], 0⟩) (fun i => l.length - i.1) ⟨0, by simp⟩ ?_ ?_
    · simp [go_sem]
    · rintro ⟨i, hi, hs⟩
      refine qb bT.toS xbl _ _ _ rfl ?_
      simp -implicitDefEqProofs only [cdA, go_sem, reduceIte, reduceCtorEq, Nat.reduceEqDiff, Nat.reduceAdd, Nat.reduceLeDiff, Nat.reduceSub, Nat.reduceMul, Nat.reduceLT, Nat.reduceShiftRight, Nat.reduceMod, Int.reduceLE, Int.reduceLT, Int.reduceToNat, List.cons.injEq, cdB]
      refine ⟨fun h1 => ?_, fun h1 => ?_⟩
      · have hi' : i < l.length := by omega
        have hg := wa6 h hi'
        have hst := ya0 hi'
        have hle := zbS (l := l) (i := i + 1)
        rw [u64_in _ (by omega)]
        refine ⟨by omega, fun h2 => ?_, fun h2 => ⟨⟨i + 1, by omega, by omega⟩, by dsimp only; omega, by dsimp only; omega, i64_in _ (by omega)⟩⟩
        rw [ban, if_pos h, if_neg (by omega)]; exact ⟨rfl, rfl⟩
      · rw [List.take_of_length_le (by omega)] at hs ⊢
        rw [ban, if_pos h, if_pos hs]; exact ⟨rfl, rfl⟩
  · rw [ban, if_neg h]
    exact ⟨rfl, ybO h⟩
def gB : List D → Option (Prop × D × Fr)
  | [.c (.sl z7)] => some (z7 = wv (wab z7), bax (wab z7), [])
  | _ => none
attribute [go_sem] gB
theorem bN : ∀ rs p r fr, gB rs = some (p, r, fr) → p → zg Tryz.prog 145 rs r fr := by
  intro rs p r fr h hp
  unfold gB at h
  split at h <;> cases h
  have hc0 := hp
  rename_i z7
  obtain ⟨z7, rfl⟩ : ∃ m, z7 = wv m := ⟨_, hc0⟩
  simp only [bD]
  exact gaT z7
theorem ydg (n : Nat) : wS [n] = if n ≤ 4611686018427387904 then 0 else 1 := by simp [wS]
theorem van {n : Nat} : wS [n] = 0 ↔ n ≤ 4611686018427387904 := by rw [ydg]; split <;> simp_all
theorem wda (a b : Nat) : wS [a, b] = if a ≤ 4611686018427387904 ∧ b ≤ 4611686018427387904 then 0 else 1 := by simp [wS]
theorem jX {l : List Nat} : (ban l).2 = 0 ↔ (∀ x ∈ l, x ≤ 4611686018427387904) ∧ l.sum ≤ 4611686018427387904 := by
  unfold ban wS
  simp only [List.all_eq_true, decide_eq_true_eq]
  by_cases h : ∀ x ∈ l, x ≤ 4611686018427387904
  · rw [if_pos h]
    by_cases h2 : l.sum ≤ 4611686018427387904
    · simp [h2]; exact h
    · simp [h2]
  · rw [if_neg h]; simp [h]
theorem vaU {l : List Nat} (h : (ban l).2 = 0) : (ban l).1 = l.sum := by
  have h1 := jX.1 h
  unfold ban wS
  simp only [List.all_eq_true, decide_eq_true_eq]
  rw [if_pos h1.1, if_pos rfl, if_pos h1.2]
def xb1 (a b : Nat) : Nat × Int := if a ≤ 4611686018427387904 ∧ b ≤ 4611686018427387904 then (if b ≤ a then (a - b, 0) else (0, 9)) else (0, 1)
@[go_sem] def uay (a : Nat) (b : Nat) : D := .tup [.int .u64 ((xb1 a b).1 : Int), .int .i64 (xb1 a b).2]
@[go_sem] abbrev gcp : FuncId := 207
@[go_sem] def va3 : Tab := [ovk 240, (49, yg)]
theorem bat : ya Tryz.prog va3 := (ya.cons (waD 240) (ya.cons uf ya.nil))
set_option maxRecDepth 8000 in
set_option maxHeartbeats 1000000 in
theorem baV (a : Nat) (b : Nat)  : yb Tryz.prog 207 [.c (.int .u64 (a : Int)), .c (.int .u64 (b : Int))] (uay a b) := by
  refine .of (gcQ bat (Nat.le_of_ble_eq_true rfl) ?_)
  simp -implicitDefEqProofs only [cdA, go_sem, Go.Proofs.Tryz.f207, reduceIte, reduceCtorEq, Nat.reduceEqDiff, Nat.reduceAdd, Nat.reduceLeDiff, Nat.reduceSub, Nat.reduceMul, Nat.reduceLT, Nat.reduceShiftRight, Nat.reduceMod, Int.reduceLE, Int.reduceLT, Int.reduceToNat, List.cons.injEq, cdB]
  refine ⟨⟨_, rfl, rfl, rfl, rfl, by kernel_rfl⟩, ?_⟩
  rw [wda, xb1]
  by_cases h : a ≤ 4611686018427387904 ∧ b ≤ 4611686018427387904
  · simp only [if_pos h]
    refine ⟨fun _ => ⟨fun h1 => ?_, fun h1 => ?_⟩, fun h1 => absurd trivial h1⟩
    · have : ¬ b ≤ a := fun h2 => by rw [if_neg (by omega)] at h1; omega
      rw [if_neg this]; exact ⟨rfl, rfl⟩
    · have : b ≤ a := by
        refine Classical.byContradiction fun h2 => ?_
        rw [if_pos (by omega)] at h1; omega
      rw [if_pos this]; exact ⟨by dsimp only; omega, rfl⟩
  · simp only [if_neg h]
    refine ⟨fun h => ?_, fun _ => by simp⟩
    first | exact absurd h (by decide) | cases h
def qB : List D → Option (Prop × D × Fr)
  | [.c (.int .u64 z8), .c (.int .u64 z9)] => some (z8 = (z8.toNat : Int) ∧ z9 = (z9.toNat : Int), uay z8.toNat z9.toNat, [])
  | _ => none
attribute [go_sem] qB
theorem uO : ∀ rs p r fr, qB rs = some (p, r, fr) → p → zg Tryz.prog 207 rs r fr := by
  intro rs p r fr h hp
  unfold qB at h
  split at h <;> cases h
  obtain ⟨hc0, hc1⟩ := hp
  rename_i z8 z9
  obtain ⟨z8, rfl⟩ : ∃ m : Nat, z8 = m := ⟨_, hc0⟩
  obtain ⟨z9, rfl⟩ : ∃ m : Nat, z9 = m := ⟨_, hc1⟩
  simp only [Int.toNat_natCast]
  exact baV z8 z9
end Dm
namespace Dm
open Go Go.Proofs Go.IntWalk
structure Hd where
  id : Nat
  n : Nat
deriving DecidableEq, Inhabited
@[go_sem] def Hd.enc (e : Hd) : List C := [.int .u64 (e.id : Int), .int .u64 (e.n : Int)]
def Hd.dec : List C → Hd
  | [.int .u64 z11, .int .u64 z12] => (⟨z11.toNat, z12.toNat⟩ : Hd)
  | _ => default
def hds (l : List Hd) : List (List C) := l.map Hd.enc
def um (l : List (List C)) : List Hd := l.map Hd.dec
@[simp, go_sem] theorem yd (l : List Hd) : (hds l).length = l.length := by simp [hds]
@[go_sem] theorem bcL (l : List Hd) (i : Nat) : (hds l).getD i [.int .u64 0, .int .u64 0] = (l.getD i default).enc := by
  simp only [hds, List.getD_eq_getElem?_getD, List.getElem?_map]
  cases l[i]? <;> rfl
@[go_sem] theorem k8 (l : List Hd) : vh 2 (hds l) = True := by
  simp [vh, hds, Hd.enc]
theorem Hd.zh (e : Hd) : Hd.dec e.enc = e := by
  simp [Hd.enc, Hd.dec]
@[go_sem] theorem ze (l : List Hd) : um (hds l) = l := by
  simp only [um, hds, List.map_map]
  exact List.map_id'' (fun e => Hd.zh e) l
@[go_sem] theorem wcx (a b : List Hd) : hds a ++ hds b = hds (a ++ b) := by simp [hds]
@[go_sem] theorem qb9 (l : List Hd) (k : Nat) : (hds l).drop k = hds (l.drop k) := by simp [hds]
@[go_sem] theorem kb7 (l : List Hd) (k : Nat) : (hds l).take k = hds (l.take k) := by simp [hds]
@[go_sem] theorem bcK (z13 : Int) (z14 : Int) (hz13 : 0 ≤ z13) (hz14 : 0 ≤ z14) : [[C.int .u64 z13, C.int .u64 z14]] = hds [⟨z13.toNat, z14.toNat⟩] := by simp [hds, Hd.enc, Int.toNat_of_nonneg hz13, Int.toNat_of_nonneg hz14]
@[go_sem] theorem vct (l : List Hd) (i : Nat) (z13 : Int) (z14 : Int) (hz13 : 0 ≤ z13) (hz14 : 0 ≤ z14) : (hds l).set i [C.int .u64 z13, C.int .u64 z14] = hds (l.set i ⟨z13.toNat, z14.toNat⟩) := by simp [hds, List.map_set, Hd.enc, Int.toNat_of_nonneg hz13, Int.toNat_of_nonneg hz14]
@[go_sem] theorem vcc (l : List Hd) (z13 : Int) (z14 : Int) (hz13 : 0 ≤ z13) (hz14 : 0 ≤ z14) : [C.int .u64 z13, C.int .u64 z14] :: hds l = hds (⟨z13.toNat, z14.toNat⟩ :: l) := by simp [hds, Hd.enc, Int.toNat_of_nonneg hz13, Int.toNat_of_nonneg hz14]
@[go_sem] theorem xci (l : List Hd) : kah (hds l) = True := eq_true fun x hx c hc => by
  obtain ⟨e, _, rfl⟩ := List.mem_map.1 hx
  simp only [Hd.enc, List.mem_cons, List.not_mem_nil, or_false] at hc
  rcases hc with rfl | rfl <;> rfl
@[go_sem] theorem Hd.eta {e : Hd} : (⟨e.id, e.n⟩ : Hd) = e := rfl
structure Ch where
  id : Nat
  loc : Nat
  rem : Nat
  res : Nat
  most : Nat
  holds : List Hd
  op : Bool
deriving DecidableEq, Inhabited
@[go_sem] def Ch.enc (e : Ch) : List C := [.int .u64 (e.id : Int), .int .u64 (e.loc : Int), .int .u64 (e.rem : Int), .int .u64 (e.res : Int), .int .u64 (e.most : Int), .sl (hds e.holds), .bool e.op]
def Ch.dec : List C → Ch
  | [.int .u64 z16, .int .u64 z17, .int .u64 z18, .int .u64 z19, .int .u64 z20, .sl z21, .bool z22] => (⟨z16.toNat, z17.toNat, z18.toNat, z19.toNat, z20.toNat, (um z21), z22⟩ : Ch)
  | _ => default
def chs (l : List Ch) : List (List C) := l.map Ch.enc
def xh (l : List (List C)) : List Ch := l.map Ch.dec
@[simp, go_sem] theorem qi (l : List Ch) : (chs l).length = l.length := by simp [chs]
@[go_sem] theorem xcH (l : List Ch) (i : Nat) : (chs l).getD i [.int .u64 0, .int .u64 0, .int .u64 0, .int .u64 0, .int .u64 0, .sl [], .bool false] = (l.getD i default).enc := by
  simp only [chs, List.getD_eq_getElem?_getD, List.getElem?_map]
  cases l[i]? <;> rfl
@[go_sem] theorem ka9 (l : List Ch) : vh 7 (chs l) = True := by
  simp [vh, chs, Ch.enc]
theorem Ch.zh (e : Ch) : Ch.dec e.enc = e := by
  simp [Ch.enc, Ch.dec, ze]
@[go_sem] theorem xb (l : List Ch) : xh (chs l) = l := by
  simp only [xh, chs, List.map_map]
  exact List.map_id'' (fun e => Ch.zh e) l
@[go_sem] theorem wcL (a b : List Ch) : chs a ++ chs b = chs (a ++ b) := by simp [chs]
@[go_sem] theorem kck (l : List Ch) (k : Nat) : (chs l).drop k = chs (l.drop k) := by simp [chs]
@[go_sem] theorem zci (l : List Ch) (k : Nat) : (chs l).take k = chs (l.take k) := by simp [chs]
@[go_sem] theorem bcS (z23 : Int) (z24 : Int) (z25 : Int) (z26 : Int) (z27 : Int) (z28 : List Hd) (z29 : Bool) (hz23 : 0 ≤ z23) (hz24 : 0 ≤ z24) (hz25 : 0 ≤ z25) (hz26 : 0 ≤ z26) (hz27 : 0 ≤ z27) : [[C.int .u64 z23, C.int .u64 z24, C.int .u64 z25, C.int .u64 z26, C.int .u64 z27, C.sl (hds z28), C.bool z29]] = chs [⟨z23.toNat, z24.toNat, z25.toNat, z26.toNat, z27.toNat, z28, z29⟩] := by simp [chs, Ch.enc, Int.toNat_of_nonneg hz23, Int.toNat_of_nonneg hz24, Int.toNat_of_nonneg hz25, Int.toNat_of_nonneg hz26, Int.toNat_of_nonneg hz27]
@[go_sem] theorem wcO (l : List Ch) (i : Nat) (z23 : Int) (z24 : Int) (z25 : Int) (z26 : Int) (z27 : Int) (z28 : List Hd) (z29 : Bool) (hz23 : 0 ≤ z23) (hz24 : 0 ≤ z24) (hz25 : 0 ≤ z25) (hz26 : 0 ≤ z26) (hz27 : 0 ≤ z27) : (chs l).set i [C.int .u64 z23, C.int .u64 z24, C.int .u64 z25, C.int .u64 z26, C.int .u64 z27, C.sl (hds z28), C.bool z29] = chs (l.set i ⟨z23.toNat, z24.toNat, z25.toNat, z26.toNat, z27.toNat, z28, z29⟩) := by simp [chs, List.map_set, Ch.enc, Int.toNat_of_nonneg hz23, Int.toNat_of_nonneg hz24, Int.toNat_of_nonneg hz25, Int.toNat_of_nonneg hz26, Int.toNat_of_nonneg hz27]
@[go_sem] theorem uce (l : List Ch) (z23 : Int) (z24 : Int) (z25 : Int) (z26 : Int) (z27 : Int) (z28 : List Hd) (z29 : Bool) (hz23 : 0 ≤ z23) (hz24 : 0 ≤ z24) (hz25 : 0 ≤ z25) (hz26 : 0 ≤ z26) (hz27 : 0 ≤ z27) : [C.int .u64 z23, C.int .u64 z24, C.int .u64 z25, C.int .u64 z26, C.int .u64 z27, C.sl (hds z28), C.bool z29] :: chs l = chs (⟨z23.toNat, z24.toNat, z25.toNat, z26.toNat, z27.toNat, z28, z29⟩ :: l) := by simp [chs, Ch.enc, Int.toNat_of_nonneg hz23, Int.toNat_of_nonneg hz24, Int.toNat_of_nonneg hz25, Int.toNat_of_nonneg hz26, Int.toNat_of_nonneg hz27]
@[go_sem] theorem Ch.eta {e : Ch} : (⟨e.id, e.loc, e.rem, e.res, e.most, e.holds, e.op⟩ : Ch) = e := rfl
def Hd.key (h : Hd) : Nat := h.id
def held (l : List Hd) : Nat := (l.map Hd.n).sum
abbrev ltN (a b : Nat) : Prop := a < b
abbrev MM : Nat := 4611686018427387904
def yl (c : Ch) : Prop := c.res ≤ MM ∧ c.most ≤ MM ∧ c.holds.length ≤ 64 ∧ (c.op = false → c.holds = []) ∧ (∀ h ∈ c.holds, h.n ≠ 0) ∧ Srt.Chn Hd.key ltN c.holds ∧ held c.holds ≤ c.most ∧ c.loc ≤ MM ∧ c.rem ≤ MM ∧ held c.holds + c.loc + c.rem ≤ MM
instance (l : List Hd) : Decidable (Srt.Chn Hd.key ltN l) := by unfold Srt.Chn; infer_instance
instance (c : Ch) : Decidable (yl c) := by unfold yl; infer_instance
def xg (c : Ch) : Nat × Nat × Int := if yl c then (held c.holds, held c.holds + c.loc + c.rem, 0) else (0, 0, 1)
@[go_sem] def vaz (h : Hd) (id : Nat) : D := .int .i64 (vad h.id id)
@[go_sem] abbrev jcg : FuncId := 218
@[go_sem] def ya8 : Tab := [(129, xO)]
theorem qar : ya Tryz.prog ya8 := (ya.cons wC ya.nil)
set_option maxRecDepth 8000 in
set_option maxHeartbeats 1000000 in
theorem baO (h : Hd) (id : Nat)  : yb Tryz.prog 218 [.agg [.c (.int .u64 (h.id : Int)), .c (.int .u64 (h.n : Int))], .c (.int .u64 (id : Int))] (vaz h id) := by
  refine .of (zcF qar (Nat.le_of_ble_eq_true rfl) ?_)
  simp -implicitDefEqProofs only [cdA, go_sem, Go.Proofs.Tryz.f218, reduceIte, reduceCtorEq, Nat.reduceEqDiff, Nat.reduceAdd, Nat.reduceLeDiff, Nat.reduceSub, Nat.reduceMul, Nat.reduceLT, Nat.reduceShiftRight, Nat.reduceMod, Int.reduceLE, Int.reduceLT, Int.reduceToNat, List.cons.injEq, cdB]
def ur : List D → Option (Prop × D × Fr)
  | [.agg [.c (.int .u64 z31), .c (.int .u64 z32)], .c (.int .u64 z33)] => some (z31 = (z31.toNat : Int) ∧ z32 = (z32.toNat : Int) ∧ z33 = (z33.toNat : Int), vaz (⟨z31.toNat, z32.toNat⟩ : Hd) z33.toNat, [])
  | _ => none
attribute [go_sem] ur
theorem qt : ∀ rs p r fr, ur rs = some (p, r, fr) → p → zg Tryz.prog 218 rs r fr := by
  intro rs p r fr h hp
  unfold ur at h
  split at h <;> cases h
  obtain ⟨hc0, hc1, hc2⟩ := hp
  rename_i z31 z32 z33
  obtain ⟨z31, rfl⟩ : ∃ m : Nat, z31 = m := ⟨_, hc0⟩
  obtain ⟨z32, rfl⟩ : ∃ m : Nat, z32 = m := ⟨_, hc1⟩
  obtain ⟨z33, rfl⟩ : ∃ m : Nat, z33 = m := ⟨_, hc2⟩
  simp only [Int.toNat_natCast]
  exact baO ⟨z31, z32⟩ z33
@[go_sem] def yaX (c : Ch) : D := .tup [.int .u64 ((xg c).1 : Int), .int .u64 ((xg c).2.1 : Int), .int .i64 (xg c).2.2]
@[go_sem] abbrev kcz : FuncId := 203
@[go_sem] def gbv : Tab := [(49, yg), (145, gB), (218, ur)]
theorem zN : ya Tryz.prog gbv := (ya.cons uf (ya.cons bN (ya.cons qt ya.nil)))
set_option maxRecDepth 8000 in
set_option maxHeartbeats 1000000 in
theorem ga9 (c : Ch)  : yb Tryz.prog 203 [.agg [.c (.int .u64 (c.id : Int)), .c (.int .u64 (c.loc : Int)), .c (.int .u64 (c.rem : Int)), .c (.int .u64 (c.res : Int)), .c (.int .u64 (c.most : Int)), .sl (hds c.holds), .c (.bool c.op)]] (yaX c) := by
  refine .of (qcI zN (Nat.le_of_ble_eq_true rfl) ?_)
  simp -implicitDefEqProofs only [cdA, go_sem, Go.Proofs.Tryz.f203, reduceIte, reduceCtorEq, Nat.reduceEqDiff, Nat.reduceAdd, Nat.reduceLeDiff, Nat.reduceSub, Nat.reduceMul, Nat.reduceLT, Nat.reduceShiftRight, Nat.reduceMod, Int.reduceLE, Int.reduceLT, Int.reduceToNat, List.cons.injEq, cdB]
  have hbad : ¬ yl c → 0 = ((xg c).1 : Int) ∧ 0 = ((xg c).2.1 : Int) ∧ 1 = (xg c).2.2 := fun h => by simp [xg, if_neg h]
  have hmon : wS [c.res, c.most] = 0 ↔ c.res ≤ MM ∧ c.most ≤ MM := by rw [wda]; split <;> simp_all
  rw [hmon]
  refine ⟨fun h1 hl => ⟨fun h2 => ⟨fun h3 _ => ⟨fun h4 => hbad fun h => ?_, fun h4 _ => ?_⟩, fun h3 _ => ?_⟩, fun h2 => hbad fun h => ?_⟩, fun h1 => hbad fun h => h1 ⟨h.1, h.2.1⟩⟩
  · have := h.2.2.2.1 (by simpa using h3)
    rw [this] at h4; simp at h4
  rotate_left 2
  · have := h.2.2.1; omega
  all_goals
    have hop : c.op = false → c.holds = [] := fun h => by first | (rw [h] at h3; cases h3; done) | exact List.eq_nil_of_length_eq_zero (by omega)
    refine SWp.loop (ι := { i : Nat // i ≤ c.holds.length ∧ held (c.holds.take i) ≤ c.most ∧ (∀ j, j < i → (c.holds.getD j default).n ≠ 0 ∧ (0 < j → (c.holds.getD (j - 1) default).id < (c.holds.getD j default).id)) }) (fun i => ⟨[(1, .ref 0 0), (2, .int .u64 (held (c.holds.take i.1) : Nat)), (32, .sl (hds c.holds)), (33, .int .i64 c.holds.length), (34, .int .i64 i.1)],
      [(0, .box [.int .u64 c.id, .int .u64 c.loc, .int .u64 c.rem, .int .u64 c.res, .int .u64 c.most, .sl (hds c.holds), .bool c.op])], 2⟩) (fun i => c.holds.length - i.1) ⟨0, by simp [held]⟩ ?_ ?_
    · simp [go_sem, held]
    · rintro ⟨i, hi, hs, hall⟩
      refine qb zN.toS xbq _ _ _ rfl ?_
      simp -implicitDefEqProofs only [cdA, go_sem, reduceIte, reduceCtorEq, Nat.reduceEqDiff, Nat.reduceAdd, Nat.reduceLeDiff, Nat.reduceSub, Nat.reduceMul, Nat.reduceLT, Nat.reduceShiftRight, Nat.reduceMod, Int.reduceLE, Int.reduceLT, Int.reduceToNat, List.cons.injEq, cdB]
      have hst : i < c.holds.length → held (c.holds.take (i + 1)) = held (c.holds.take i) + (c.holds.getD i default).n := fun h => by rw [take_succ h, held, List.map_append, List.sum_append]; simp [held]
      have hle : held (c.holds.take (i + 1)) ≤ held c.holds := by
        conv => rhs; rw [← List.take_append_drop (i + 1) c.holds, held, List.map_append, List.sum_append]
        exact Nat.le_add_right _ _
      refine ⟨fun h5 => ⟨by omega, ?_⟩, fun h5 => ?_⟩
      · refine uc.run gbu zN qa (by kernel_rfl) (by kernel_rfl) ?_
        simp -implicitDefEqProofs only [cdA, go_sem, reduceIte, reduceCtorEq, Nat.reduceEqDiff, Nat.reduceAdd, Nat.reduceLeDiff, Nat.reduceSub, Nat.reduceMul, Nat.reduceLT, Nat.reduceShiftRight, Nat.reduceMod, Int.reduceLE, Int.reduceLT, Int.reduceToNat, List.cons.injEq, cdB]
        have hi' : i < c.holds.length := by omega
        have hst := hst hi'
        have hnext : (0 < i → (c.holds.getD (i - 1) default).id < (c.holds.getD i default).id) → (c.holds.getD i default).n ≠ 0 →
            ((ban [held (c.holds.take i), (c.holds.getD i default).n]).2 = 0 →
              ((c.most : Int) < ((ban [held (c.holds.take i), (c.holds.getD i default).n]).1 : Int) → 0 = ((xg c).1 : Int) ∧ 0 = ((xg c).2.1 : Int) ∧ 1 = (xg c).2.2) ∧
              (¬ (c.most : Int) < ((ban [held (c.holds.take i), (c.holds.getD i default).n]).1 : Int) → ∃ i_1 : { i : Nat // i ≤ c.holds.length ∧ held (c.holds.take i) ≤ c.most ∧ (∀ j, j < i → (c.holds.getD j default).n ≠ 0 ∧ (0 < j → (c.holds.getD (j - 1) default).id < (c.holds.getD j default).id)) },
                c.holds.length - i_1.val < c.holds.length - i ∧ ((ban [held (c.holds.take i), (c.holds.getD i default).n]).1 : Int) = (held (c.holds.take i_1.val) : Nat) ∧ IntKind.i64.wrap ((i : Int) + 1) = i_1.val)) ∧
            (¬ (ban [held (c.holds.take i), (c.holds.getD i default).n]).2 = 0 → 0 = ((xg c).1 : Int) ∧ 0 = ((xg c).2.1 : Int) ∧ 1 = (xg c).2.2) := fun ho hn => by
          refine ⟨fun h6 => ?_, fun h6 => hbad fun h => h6 (jX.2 ?_)⟩
          · have h7 := vaU h6
            simp only [List.sum_cons, List.sum_nil, Nat.add_zero] at h7
            rw [h7]
            refine ⟨fun h8 => hbad fun h => ?_, fun h8 => ⟨⟨i + 1, hi', by omega, fun j hj => ?_⟩, by dsimp only; omega, by dsimp only; omega, i64_in _ (by omega)⟩⟩
            · have := h.2.2.2.2.2.2.1; omega
            · by_cases hji : j = i
              · subst hji; exact ⟨hn, ho⟩
              · exact hall j (by omega)
          · have := h.2.2.2.2.2.2.1
            have := h.2.1
            simp only [List.mem_cons, List.not_mem_nil, or_false, forall_eq_or_imp, forall_eq, List.sum_cons, List.sum_nil]
            unfold MM at *
            omega
        refine ⟨fun h6 => ⟨fun h7 => ?_, fun h7 => hnext (fun h => absurd h (by omega)) (by omega)⟩, fun h6 => hbad fun h => h.2.2.2.2.1 _ (jb.2 ⟨i, hi', rfl⟩) (by omega)⟩
        rw [i64_in _ (by omega), show ((i : Int) - 1).toNat = i - 1 by omega]
        have hc : ∀ a b : Nat, 0 ≤ vad a b ↔ ¬ a < b := fun a b => by
          have := xk (x := a) (y := b); omega
        rw [hc]
        refine ⟨by omega, fun h8 => hbad fun h => h8 (h.2.2.2.2.2.1 i hi' (by omega)), fun h8 => hnext (fun _ => by omega) (by omega)⟩
      · have hi' : i = c.holds.length := by omega
        subst hi'
        rw [List.take_length] at hs ⊢
        refine ⟨fun h6 => ?_, fun h6 => hbad fun h => h6 (jX.2 ?_)⟩
        · have h7 := vaU h6
          have h8 := jX.1 h6
          simp only [List.mem_cons, List.not_mem_nil, or_false, forall_eq_or_imp, forall_eq, List.sum_cons, List.sum_nil] at h7 h8
          have hok : yl c := ⟨h1.1, h1.2, by omega, hop, fun x hx => by obtain ⟨j, hj, rfl⟩ := jb.1 hx; exact (hall j hj).1, fun j hj h0 => (hall j hj).2 h0, hs, h8.1.2.1, h8.1.2.2, by unfold MM; omega⟩
          rw [xg, if_pos hok, h7]
          exact ⟨rfl, by dsimp only; omega, rfl⟩
        · have := h.2.2.2.2.2.2
          have := h.2.1
          simp only [List.mem_cons, List.not_mem_nil, or_false, forall_eq_or_imp, forall_eq, List.sum_cons, List.sum_nil]
          unfold MM at *
          omega
def jt : List D → Option (Prop × D × Fr)
  | [.agg [.c (.int .u64 z35), .c (.int .u64 z36), .c (.int .u64 z37), .c (.int .u64 z38), .c (.int .u64 z39), .c (.sl z40), .c (.bool z41)]] => some (z35 = (z35.toNat : Int) ∧ z36 = (z36.toNat : Int) ∧ z37 = (z37.toNat : Int) ∧ z38 = (z38.toNat : Int) ∧ z39 = (z39.toNat : Int) ∧ z40 = hds (um z40), yaX (⟨z35.toNat, z36.toNat, z37.toNat, z38.toNat, z39.toNat, (um z40), z41⟩ : Ch), [])
  | _ => none
attribute [go_sem] jt
theorem jr : ∀ rs p r fr, jt rs = some (p, r, fr) → p → zg Tryz.prog 203 rs r fr := by
  intro rs p r fr h hp
  unfold jt at h
  split at h <;> cases h
  obtain ⟨hc0, hc1, hc2, hc3, hc4, hc5⟩ := hp
  rename_i z35 z36 z37 z38 z39 z40 z41
  obtain ⟨z35, rfl⟩ : ∃ m : Nat, z35 = m := ⟨_, hc0⟩
  obtain ⟨z36, rfl⟩ : ∃ m : Nat, z36 = m := ⟨_, hc1⟩
  obtain ⟨z37, rfl⟩ : ∃ m : Nat, z37 = m := ⟨_, hc2⟩
  obtain ⟨z38, rfl⟩ : ∃ m : Nat, z38 = m := ⟨_, hc3⟩
  obtain ⟨z39, rfl⟩ : ∃ m : Nat, z39 = m := ⟨_, hc4⟩
  obtain ⟨z40, rfl⟩ : ∃ m, z40 = hds m := ⟨_, hc5⟩
  simp only [Int.toNat_natCast, ze]
  exact ga9 ⟨z35, z36, z37, z38, z39, z40, z41⟩
theorem gG {c : Ch} : (xg c).2.2 = 0 ↔ yl c := by unfold xg; split <;> simp_all
@[go_sem] def gbc (c : Ch) : D := .tup [.int .u64 ((xg c).2.1 : Int), .int .i64 (xg c).2.2]
@[go_sem] abbrev jdc : FuncId := 143
@[go_sem] def bbQ : Tab := [(203, jt)]
theorem vaL : ya Tryz.prog bbQ := (ya.cons jr ya.nil)
set_option maxRecDepth 8000 in
set_option maxHeartbeats 1000000 in
theorem gbw (c : Ch)  : yb Tryz.prog 143 [.agg [.c (.int .u64 (c.id : Int)), .c (.int .u64 (c.loc : Int)), .c (.int .u64 (c.rem : Int)), .c (.int .u64 (c.res : Int)), .c (.int .u64 (c.most : Int)), .sl (hds c.holds), .c (.bool c.op)]] (gbc c) := by
  refine .of (qcL vaL (Nat.le_of_ble_eq_true rfl) ?_)
  simp -implicitDefEqProofs only [cdA, go_sem, Go.Proofs.Tryz.f143, reduceIte, reduceCtorEq, Nat.reduceEqDiff, Nat.reduceAdd, Nat.reduceLeDiff, Nat.reduceSub, Nat.reduceMul, Nat.reduceLT, Nat.reduceShiftRight, Nat.reduceMod, Int.reduceLE, Int.reduceLT, Int.reduceToNat, List.cons.injEq, cdB]
def zW : List D → Option (Prop × D × Fr)
  | [.agg [.c (.int .u64 z43), .c (.int .u64 z44), .c (.int .u64 z45), .c (.int .u64 z46), .c (.int .u64 z47), .c (.sl z48), .c (.bool z49)]] => some (z43 = (z43.toNat : Int) ∧ z44 = (z44.toNat : Int) ∧ z45 = (z45.toNat : Int) ∧ z46 = (z46.toNat : Int) ∧ z47 = (z47.toNat : Int) ∧ z48 = hds (um z48), gbc (⟨z43.toNat, z44.toNat, z45.toNat, z46.toNat, z47.toNat, (um z48), z49⟩ : Ch), [])
  | _ => none
attribute [go_sem] zW
theorem j4 : ∀ rs p r fr, zW rs = some (p, r, fr) → p → zg Tryz.prog 143 rs r fr := by
  intro rs p r fr h hp
  unfold zW at h
  split at h <;> cases h
  obtain ⟨hc0, hc1, hc2, hc3, hc4, hc5⟩ := hp
  rename_i z43 z44 z45 z46 z47 z48 z49
  obtain ⟨z43, rfl⟩ : ∃ m : Nat, z43 = m := ⟨_, hc0⟩
  obtain ⟨z44, rfl⟩ : ∃ m : Nat, z44 = m := ⟨_, hc1⟩
  obtain ⟨z45, rfl⟩ : ∃ m : Nat, z45 = m := ⟨_, hc2⟩
  obtain ⟨z46, rfl⟩ : ∃ m : Nat, z46 = m := ⟨_, hc3⟩
  obtain ⟨z47, rfl⟩ : ∃ m : Nat, z47 = m := ⟨_, hc4⟩
  obtain ⟨z48, rfl⟩ : ∃ m, z48 = hds m := ⟨_, hc5⟩
  simp only [Int.toNat_natCast, ze]
  exact gbw ⟨z43, z44, z45, z46, z47, z48, z49⟩
def zU (c : Ch) : Nat × Int := if yl c then (if c.op = true ∧ c.holds.length ≠ 64 ∧ c.res ≤ c.loc then (min (c.loc - c.res) (c.most - held c.holds), 0) else (0, 0)) else (0, 1)
@[go_sem] def uaQ (c : Ch) : D := .tup [.int .u64 ((zU c).1 : Int), .int .i64 (zU c).2]
@[go_sem] abbrev zcH : FuncId := 120
@[go_sem] def jbu : Tab := [(203, jt), (207, qB)]
theorem kaE : ya Tryz.prog jbu := (ya.cons jr (ya.cons uO ya.nil))
set_option maxRecDepth 8000 in
set_option maxHeartbeats 1000000 in
theorem wa5 (c : Ch)  : yb Tryz.prog 120 [.agg [.c (.int .u64 (c.id : Int)), .c (.int .u64 (c.loc : Int)), .c (.int .u64 (c.rem : Int)), .c (.int .u64 (c.res : Int)), .c (.int .u64 (c.most : Int)), .sl (hds c.holds), .c (.bool c.op)]] (uaQ c) := by
  refine .of (ucz kaE (Nat.le_of_ble_eq_true rfl) ?_)
  simp -implicitDefEqProofs only [cdA, go_sem, Go.Proofs.Tryz.f120, reduceIte, reduceCtorEq, Nat.reduceEqDiff, Nat.reduceAdd, Nat.reduceLeDiff, Nat.reduceSub, Nat.reduceMul, Nat.reduceLT, Nat.reduceShiftRight, Nat.reduceMod, Int.reduceLE, Int.reduceLT, Int.reduceToNat, List.cons.injEq, cdB]
  rw [gG]
  by_cases h : yl c
  · have h1 : c.loc ≤ MM := h.2.2.2.2.2.2.2.1
    have h2 := h.1
    have h3 := h.2.1
    have h4 := h.2.2.2.2.2.2.1
    have e : (xg c).2.2 = 0 := gG.2 h
    have e1 : (xg c).1 = held c.holds := by rw [xg, if_pos h]
    unfold MM at *
    rw [u64_in _ (by omega), e, e1, zU, if_pos h]
    refine ⟨fun _ => ⟨fun h5 _ => ⟨fun h6 => ?_, fun h6 => ?_⟩, fun h5 => ?_⟩, fun h' => absurd h h'⟩
    · rw [if_neg (by omega)]; exact ⟨rfl, rfl⟩
    · have h5' : c.op = true := by simpa using h5
      rw [xb1, if_pos ⟨h1, h2⟩]
      by_cases h7 : c.res ≤ c.loc
      · rw [if_pos h7, if_pos ⟨h5', by omega, h7⟩]
        refine ⟨fun h => absurd (show (0 : Int) = 9 from h) (by decide), fun _ => ⟨by dsimp only; omega, rfl⟩⟩
      · rw [if_neg h7, if_neg (fun h => h7 h.2.2)]
        exact ⟨fun _ => ⟨rfl, rfl⟩, fun h => absurd rfl h⟩
    · have h5' : c.op = false := by simpa using h5
      rw [if_neg (fun h => by rw [h5'] at h; exact absurd h.1 (by decide))]; exact ⟨rfl, rfl⟩
  · have e : xg c = (0, 0, 1) := by rw [xg, if_neg h]
    rw [e, zU, if_neg h]
    exact ⟨fun h' => absurd h' h, fun _ => ⟨rfl, rfl⟩⟩
def vK : List D → Option (Prop × D × Fr)
  | [.agg [.c (.int .u64 z51), .c (.int .u64 z52), .c (.int .u64 z53), .c (.int .u64 z54), .c (.int .u64 z55), .c (.sl z56), .c (.bool z57)]] => some (z51 = (z51.toNat : Int) ∧ z52 = (z52.toNat : Int) ∧ z53 = (z53.toNat : Int) ∧ z54 = (z54.toNat : Int) ∧ z55 = (z55.toNat : Int) ∧ z56 = hds (um z56), uaQ (⟨z51.toNat, z52.toNat, z53.toNat, z54.toNat, z55.toNat, (um z56), z57⟩ : Ch), [])
  | _ => none
attribute [go_sem] vK
theorem wV : ∀ rs p r fr, vK rs = some (p, r, fr) → p → zg Tryz.prog 120 rs r fr := by
  intro rs p r fr h hp
  unfold vK at h
  split at h <;> cases h
  obtain ⟨hc0, hc1, hc2, hc3, hc4, hc5⟩ := hp
  rename_i z51 z52 z53 z54 z55 z56 z57
  obtain ⟨z51, rfl⟩ : ∃ m : Nat, z51 = m := ⟨_, hc0⟩
  obtain ⟨z52, rfl⟩ : ∃ m : Nat, z52 = m := ⟨_, hc1⟩
  obtain ⟨z53, rfl⟩ : ∃ m : Nat, z53 = m := ⟨_, hc2⟩
  obtain ⟨z54, rfl⟩ : ∃ m : Nat, z54 = m := ⟨_, hc3⟩
  obtain ⟨z55, rfl⟩ : ∃ m : Nat, z55 = m := ⟨_, hc4⟩
  obtain ⟨z56, rfl⟩ : ∃ m, z56 = hds m := ⟨_, hc5⟩
  simp only [Int.toNat_natCast, ze]
  exact wa5 ⟨z51, z52, z53, z54, z55, z56, z57⟩
end Dm
