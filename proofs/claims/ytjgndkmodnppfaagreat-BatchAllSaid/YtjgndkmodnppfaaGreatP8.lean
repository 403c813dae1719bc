import Derived.Test.YtjgndkmodnppfaaGreatP7
import Derived.Below
import Derived.ChangeOld
set_option linter.unusedSimpArgs false
set_option linter.unusedVariables false
set_option linter.unusedSectionVars false
namespace Dm
open Go
def TypFs (T : TypeId → List C → Prop) : List Field → List C → Prop
  | [], xs => xs = []
  | f :: r, xs => ∃ ys zs, xs = ys ++ zs ∧ T f.type ys ∧ TypFs T r zs
def TypR (T : List C → Prop) : Nat → List C → Prop
  | 0, xs => xs = []
  | n + 1, xs => ∃ ys zs, xs = ys ++ zs ∧ T ys ∧ TypR T n zs
def Typ (P : Program) : Nat → TypeId → List C → Prop
  | 0, _, _ => False
  | k + 1, t, xs => match P.underlying t with
    | some .bool => ∃ b, xs = [.bool b]
    | some (.int kd) => ∃ n, xs = [.int kd n] ∧ (Lit.int kd n).wf = true
    | some (.float kd) => ∃ n, xs = [.flt kd (flo kd n)] ∧ (Lit.float kd n).wf = true
    | some .string => ∃ s, xs = [.str s] ∧ s.size ≤ maxLen
    | some (.slice e) => ∃ els, xs = [.sl els] ∧ els.length ≤ maxLen ∧ ∀ x ∈ els, Typ P k e x
    | some (.struct fs) => TypFs (Typ P k) fs.toList xs
    | some (.array n e) => TypR (Typ P k e) n xs
    | _ => False
def plainFs (P : Program) (ok : TypeId → Bool) : Nat → List Field → Option Nat
  | o, [] => some o
  | o, f :: r => if f.offset = o ∧ ok f.type = true then plainFs P ok (o + P.cellsOf f.type) r else none
def plain (P : Program) : Nat → TypeId → Bool
  | 0, _ => false
  | k + 1, t => match P.underlying t with
    | some .bool => true
    | some (.int _) => true
    | some (.float _) => true
    | some .string => true
    | some (.slice e) => plain P k e && P.cellsOf e != 0
    | some (.struct fs) => plainFs P (plain P k) 0 fs.toList == some (P.cellsOf t)
    | some (.array n e) => plain P k e && n * P.cellsOf e == P.cellsOf t
    | _ => false

section
variable {H : Type} {enc : TypeId × Value → H} {P : Program} {w : World} {spare : Nat → Bool} {held : Bool}

def below (w : World) (b : Nat) : Prop := Cel w b
def Reads (w : World) (cs : List Value) (xs : List C) : Prop := xs.length = cs.length ∧ ∀ (i : Nat) (v : Value) (y : C), cs[i]? = some v → xs[i]? = some y → CRel (below w) w v y

theorem Reads.one {v : Value} {y : C} (h : CRel (below w) w v y) : Reads w [v] [y] := ⟨rfl, fun i u z hu hz => by
  cases i with
  | zero => simp at hu hz; subst hu; subst hz; exact h
  | succ i => simp at hu⟩
theorem Reads.app {cs ds : List Value} {xs ys : List C} (h : Reads w cs xs) (h' : Reads w ds ys) : Reads w (cs ++ ds) (xs ++ ys) := by
  refine ⟨by simp [h.1, h'.1], fun i v y hv hy => ?_⟩
  rw [List.getElem?_append] at hv hy
  rw [h.1] at hy
  split at hv
  · rename_i hlt; rw [if_pos hlt] at hy; exact h.2 i v y hv hy
  · rename_i hlt; rw [if_neg hlt] at hy; exact h'.2 _ v y hv hy

theorem mapM_cons_some {α β : Type} {f : α → Option β} {a : α} {l : List α} {r : List β} (h : (a :: l).mapM f = some r) : ∃ b bs, f a = some b ∧ l.mapM f = some bs ∧ r = b :: bs := by
  rw [List.mapM_cons] at h
  cases hf : f a with
  | none => simp [hf] at h
  | some b =>
    cases hl : l.mapM f with
    | none => simp [hf, hl] at h
    | some bs => simp [hf, hl] at h; exact ⟨b, bs, rfl, rfl, h.symm⟩

theorem plainFs_le {ok : TypeId → Bool} : ∀ {fs : List Field} {o e : Nat}, plainFs P ok o fs = some e → o ≤ e
  | [], o, e, h => by simp only [plainFs, Option.some.injEq] at h; omega
  | f :: r, o, e, h => by
    simp only [plainFs] at h
    split at h
    · have := plainFs_le h; omega
    · cases h

theorem fields_conv {k fuel : Nat} {cs : List Value} (IH : ∀ (t : TypeId) (cs : List Value) (x : DataW H × List MemPlace), DataW.trod enc P w 0 spare held fuel t cs = some x → plain P k t = true → ∃ xs, Typ P k t xs ∧ Reads w cs xs) :
    ∀ (fs : List Field) (o : Nat) (ys : List (DataW H × List MemPlace)), plainFs P (plain P k) o fs = some cs.length → fs.mapM (fun f => DataW.trod enc P w 0 spare held fuel f.type ((cs.drop f.offset).take (P.cellsOf f.type))) = some ys →
      ∃ xs, TypFs (Typ P k) fs xs ∧ Reads w (cs.drop o) xs
  | [], o, ys, h, _ => by
    simp only [plainFs, Option.some.injEq] at h
    exact ⟨[], rfl, by simp [Reads, h]⟩
  | f :: r, o, ys, h, hm => by
    simp only [plainFs] at h
    split at h
    · rename_i hc
      obtain ⟨hc1, hc2⟩ := hc
      have hle := plainFs_le h
      obtain ⟨b, bs, h1, h2, _⟩ := mapM_cons_some hm
      obtain ⟨xs, h3, h4⟩ := IH _ _ _ h1 hc2
      obtain ⟨zs, h5, h6⟩ := fields_conv IH r _ bs h h2
      refine ⟨xs ++ zs, ⟨xs, zs, rfl, h3, h5⟩, ?_⟩
      have e : cs.drop o = (cs.drop f.offset).take (P.cellsOf f.type) ++ cs.drop (o + P.cellsOf f.type) := by
        rw [hc1, ← List.drop_drop, List.take_append_drop]
      rw [e]
      exact h4.app h6
    · cases h

theorem array_conv {k fuel n sz : Nat} {e : TypeId} {cs : List Value} (IH : ∀ (t : TypeId) (cs : List Value) (x : DataW H × List MemPlace), DataW.trod enc P w 0 spare held fuel t cs = some x → plain P k t = true → ∃ xs, Typ P k t xs ∧ Reads w cs xs) (he : plain P k e = true) :
    ∀ (m j : Nat), j + m = n → n * sz = cs.length → (∀ i, i < n → ∃ x, DataW.trod enc P w 0 spare held fuel e ((cs.drop (i * sz)).take sz) = some x) → ∃ xs, TypR (Typ P k e) m xs ∧ Reads w (cs.drop (j * sz)) xs
  | 0, j, hj, hn, _ => ⟨[], rfl, by
      have : j = n := by omega
      subst this
      simp [Reads, hn]⟩
  | m + 1, j, hj, hn, hall => by
    obtain ⟨x, hx⟩ := hall j (by omega)
    obtain ⟨xs, h3, h4⟩ := IH _ _ _ hx he
    obtain ⟨zs, h5, h6⟩ := array_conv IH he m (j + 1) (by omega) hn hall
    refine ⟨xs ++ zs, ⟨xs, zs, rfl, h3, h5⟩, ?_⟩
    have e : cs.drop (j * sz) = (cs.drop (j * sz)).take sz ++ cs.drop ((j + 1) * sz) := by
      rw [Nat.add_mul, Nat.one_mul, ← List.drop_drop, List.take_append_drop]
    rw [e]
    exact h4.app h6

theorem mapM_range_get {β : Type} {f : Nat → Option β} {n : Nat} {r : List β} (h : (List.range n).mapM f = some r) (i : Nat) (hi : i < n) : ∃ y, f i = some y ∧ r[i]? = some y := by
  have key : ∀ (l : List Nat) (r : List β), l.mapM f = some r → ∀ (i x : Nat), l[i]? = some x → ∃ y, f x = some y ∧ r[i]? = some y := by
    intro l
    induction l with
    | nil => intro r _ i x hx; simp at hx
    | cons a l ih =>
      intro r hr i x hx
      obtain ⟨b, bs, h1, h2, rfl⟩ := mapM_cons_some hr
      cases i with
      | zero => simp at hx; subst hx; exact ⟨b, h1, rfl⟩
      | succ i => exact ih bs h2 i x (by simpa using hx)
  exact key _ _ h i i (by simp [hi])

theorem mapM_len {α β : Type} {f : α → Option β} : ∀ {l : List α} {r : List β}, l.mapM f = some r → r.length = l.length
  | [], r, h => by simp at h; simp [h]
  | a :: l, r, h => by
    obtain ⟨b, bs, _, h2, rfl⟩ := mapM_cons_some h
    simp [mapM_len h2]

theorem trod_conv : ∀ (fuel k : Nat) (t : TypeId) (cs : List Value) (x : DataW H × List MemPlace), DataW.trod enc P w 0 spare held fuel t cs = some x → plain P k t = true → ∃ xs, Typ P k t xs ∧ Reads w cs xs
  | 0, k, t, cs, x, h, _ => by simp [DataW.trod] at h
  | fuel + 1, 0, t, cs, x, h, hp => by cases hp
  | fuel + 1, k + 1, t, cs, x, h, hp => by
    have IH := fun t cs x => trod_conv fuel k t cs x
    simp only [plain] at hp
    simp only [Typ]
    unfold DataW.trod at h
    split at h
    · rename_i b hu; rw [hu]; exact ⟨[.bool b], ⟨b, rfl⟩, .one (.bool b)⟩
    · rename_i kd k' n hu
      rw [hu]
      split at h
      · rename_i hc; obtain ⟨rfl, hc⟩ := hc
        exact ⟨[.int _ n], ⟨n, rfl, hc⟩, .one (.int _ n)⟩
      · cases h
    · rename_i kd k' n hu
      rw [hu]
      split at h
      · rename_i hc; obtain ⟨rfl, hc⟩ := hc
        exact ⟨[.flt _ (flo _ n)], ⟨n, rfl, hc⟩, .one (.flt _ n)⟩
      · cases h
    · rename_i s hu
      rw [hu]
      split at h
      · rename_i hc
        exact ⟨[.str s], ⟨s, rfl, hc⟩, .one (.str s)⟩
      · cases h
    · rename_i hu; rw [hu] at hp; cases hp
    · rename_i hu; rw [hu] at hp; cases hp
    · rename_i e hu
      rw [hu]
      exact ⟨[.sl []], ⟨[], rfl, by simp, by simp⟩, .one (.slnil _ _ (by simp [maxLen]))⟩
    · rename_i e a len cap hu
      rw [hu] at hp ⊢
      simp only [Bool.and_eq_true, bne_iff_ne, ne_eq] at hp
      obtain ⟨hp1, hp2⟩ := hp
      split at h
      · rename_i hc
        obtain ⟨_, hlc, hcm⟩ := hc
        cases hm : (List.range len).mapM (fun i => (w.cells? 0 (a.add (i * P.cellsOf e)) (P.cellsOf e)).bind (DataW.trod enc P w 0 spare held fuel e)) with
        | none => dsimp only at h; rw [hm] at h; cases h
        | some elems =>
          have hel : ∀ i, i < len → ∃ ci xi, w.cells? 0 (a.add (i * P.cellsOf e)) (P.cellsOf e) = some ci ∧ Typ P k e xi ∧ Reads w ci xi := by
            intro i hi
            obtain ⟨y, h1, _⟩ := mapM_range_get hm i hi
            cases hcs : w.cells? 0 (a.add (i * P.cellsOf e)) (P.cellsOf e) with
            | none => rw [hcs] at h1; cases h1
            | some ci =>
              rw [hcs] at h1
              obtain ⟨xi, h2, h3⟩ := IH e ci y h1 hp1
              exact ⟨ci, xi, rfl, h2, h3⟩
          have hch : ∃ (cf : Nat → List Value) (xf : Nat → List C), ∀ i, i < len → w.cells? 0 (a.add (i * P.cellsOf e)) (P.cellsOf e) = some (cf i) ∧ Typ P k e (xf i) ∧ Reads w (cf i) (xf i) := by
            refine ⟨fun i => if h : i < len then (hel i h).choose else [], fun i => if h : i < len then (hel i h).choose_spec.choose else [], fun i hi => ?_⟩
            simp only [dif_pos hi]
            exact (hel i hi).choose_spec.choose_spec
          obtain ⟨cf, xf, hf⟩ := hch
          have hlen : ∀ i, i < len → (cf i).length = P.cellsOf e ∧ ∀ j, j < P.cellsOf e → w.cell? ((a.add (i * P.cellsOf e)).add j) = (cf i)[j]? := by
            intro i hi
            have h1 := (hf i hi).1
            unfold World.cells? at h1
            rw [if_pos (Nat.zero_le _)] at h1
            refine ⟨by have := mapM_len h1; simpa using this, fun j hj => ?_⟩
            obtain ⟨y, h2, h3⟩ := mapM_range_get h1 j hj
            rw [h2, h3]
          refine ⟨[.sl ((List.range len).map xf)], ⟨_, rfl, by simp; omega, fun x hx => ?_⟩, .one ?_⟩
          · obtain ⟨i, hi, rfl⟩ := List.mem_map.1 hx
            exact (hf i (by simpa using hi)).2.1
          · by_cases h0 : len = 0
            · subst h0; exact .slnil _ _ hcm
            · have h00 := (hlen 0 (by omega))
              have hpos : 0 < P.cellsOf e := by omega
              have hc0 := h00.2 0 hpos
              have hs : ∃ v, w.cell? a = some v := by
                have : (cf 0)[0]? = some ((cf 0)[0]'(by omega)) := List.getElem?_eq_getElem _
                rw [this] at hc0
                simp only [Nat.zero_mul, Addr.add, Nat.add_zero] at hc0
                exact ⟨_, hc0⟩
              obtain ⟨v0, hv0⟩ := hs
              have hspot : a.spot = none ∧ Cel w a.block := by
                unfold World.cell? at hv0
                split at hv0
                · rename_i c _ _ hb
                  split at hv0
                  · cases hv0
                  · rename_i hsp
                    exact ⟨by simpa using hsp, .of hb⟩
                · cases hv0
              obtain ⟨ab, ao, asp⟩ := a
              simp only at hspot
              obtain ⟨rfl, hb⟩ := hspot
              have he : len = ((List.range len).map xf).length := by simp
              have hget : ∀ (i : Nat) (x : List C), ((List.range len).map xf)[i]? = some x → i < len ∧ x = xf i := fun i x hx => by
                simp only [List.getElem?_map, Option.map_eq_some_iff] at hx
                obtain ⟨j, hj, rfl⟩ := hx
                have := List.getElem?_eq_some_iff.1 hj
                obtain ⟨h1, h2⟩ := this
                simp at h1 h2
                subst h2
                exact ⟨h1, rfl⟩
              conv => arg 3; rw [he]
              refine .sl ab ao cap (P.cellsOf e) _ (fun i j => (cf i).getD j .nilFunc) hb (by simpa using hlc) hcm (fun x hx => ?_) (fun i j x y hx hy => ?_) (fun i j x y hx hy => ?_)
              · obtain ⟨i, hi, rfl⟩ := List.mem_map.1 hx
                have hi : i < len := by simpa using hi
                rw [(hf i hi).2.2.1, (hlen i hi).1]
              · obtain ⟨hi, rfl⟩ := hget i x hx
                have hj : j < (cf i).length := by
                  rw [← (hf i hi).2.2.1]
                  exact (List.getElem?_eq_some_iff.1 hy).1
                have h1 := (hlen i hi).2 j (by rw [← (hlen i hi).1]; exact hj)
                rw [addr_add, addr_add] at h1
                rw [h1, List.getD_eq_getElem?_getD, List.getElem?_eq_getElem hj]
                rfl
              · obtain ⟨hi, rfl⟩ := hget i x hx
                have hj : j < (cf i).length := by
                  rw [← (hf i hi).2.2.1]
                  exact (List.getElem?_eq_some_iff.1 hy).1
                refine (hf i hi).2.2.2 j _ y ?_ hy
                rw [List.getD_eq_getElem?_getD, List.getElem?_eq_getElem hj]
                rfl
      · cases h
    · rename_i cs0 _ _ fs hu
      rw [hu] at hp ⊢
      split at h
      · rename_i hc
        simp only [beq_iff_eq] at hp
        rw [← hc] at hp
        cases hm : fs.toList.mapM (fun f => DataW.trod enc P w 0 spare held fuel f.type ((cs0.drop f.offset).take (P.cellsOf f.type))) with
        | none => rw [hm] at h; simp at h
        | some ys =>
          obtain ⟨xs, h1, h2⟩ := fields_conv IH fs.toList 0 ys hp hm
          exact ⟨xs, h1, by simpa using h2⟩
      · cases h
    · rename_i cs0 _ _ n e hu
      rw [hu] at hp ⊢
      simp only [Bool.and_eq_true, beq_iff_eq] at hp
      split at h
      · rename_i hc
        cases hm : (List.range n).mapM (fun i => DataW.trod enc P w 0 spare held fuel e ((cs0.drop (i * P.cellsOf e)).take (P.cellsOf e))) with
        | none => rw [hm] at h; simp at h
        | some ys =>
          obtain ⟨xs, h1, h2⟩ := array_conv (n := n) (sz := P.cellsOf e) (cs := cs0) IH hp.1 n 0 (by omega) (by rw [hp.2, hc]) (fun i hi => by
            obtain ⟨y, h3, _⟩ := mapM_range_get hm i hi
            exact ⟨y, h3⟩)
          exact ⟨xs, h1, by simpa using h2⟩
      · cases h
    all_goals (rename_i hu; first | (rw [hu] at hp; cases hp; done) | (cases h; done) | skip)

def one1 : List C → D
  | [x] => .c x
  | _ => .undef
def argD (P : Program) (t : TypeId) (xs : List C) : D := match P.underlying t with
  | some (.struct _) => .agg (xs.map .c)
  | some (.array _ _) => .agg (xs.map .c)
  | _ => one1 xs
theorem Reads.agg {cs : Array Value} {xs : List C} (h : Reads w cs.toList xs) : VRel (G0 (below w)) w (.agg cs) (.agg (xs.map .c)) := by
  refine .agg cs _ (by simpa using h.1.symm) fun i v d hv hd => ?_
  simp only [List.getElem?_map, Option.map_eq_some_iff] at hd
  obtain ⟨y, hy, rfl⟩ := hd
  exact .c _ _ (h.2 i v y (by simpa using hv) hy)
theorem arg_conv {r : Reach} {base k : Nat} {t : TypeId} {v : Value} {d : DataW H} {ps : List MemPlace} (hv : Value.okWide P w r base t v) (h : DataW.Trod enc P w 0 spare held t v d ps) (hp : plain P k t = true) :
    ∃ xs, Typ P k t xs ∧ VRel (G0 (below w)) w v (argD P t xs) := by
  obtain ⟨fuel, h⟩ := h
  obtain ⟨xs, h1, h2⟩ := trod_conv fuel k t _ _ h hp
  refine ⟨xs, h1, ?_⟩
  have one : ∀ (hc : v.cells = #[v]), VRel (G0 (below w)) w v (one1 xs) := by
    intro hc
    rw [hc] at h2
    match xs, h2 with
    | [], _ => exact .undef _
    | [x], h2 => exact .c _ _ (h2.2 0 v x rfl rfl)
    | _ :: _ :: _, _ => exact .undef _
  unfold argD
  unfold Value.okWide at hv
  split
  · rename_i fs hu
    rw [hu] at hv
    obtain ⟨cs, rfl, _⟩ := hv
    exact h2.agg
  · rename_i n e hu
    rw [hu] at hv
    obtain ⟨cs, rfl, _⟩ := hv
    exact h2.agg
  · rename_i hn1 hn2
    refine one ?_
    cases v <;> try rfl
    rename_i cs
    exfalso
    cases k with
    | zero => cases hp
    | succ k =>
      simp only [plain] at hp
      split at hv
      · rename_i fs hu; exact hn1 fs hu
      · rename_i n e hu; exact hn2 n e hu
      · unfold Cell.okWide at hv
        split at hp <;> rename_i hu <;> first | (rw [hu] at hv; simp [Cell.ok, hu] at hv; done) | (exact absurd hu (hn1 _)) | (exact absurd hu (hn2 _ _)) | cases hp
theorem below_of (w w' : World) (h : Ext w w') : RowKit.Below w.heap.size w w' := ⟨h.2.2.os, h.2.2.tape, h.2.2.out, h.1, h.2.1⟩
end
end Dm
namespace Dm
open Go Go.Proofs
set_option maxRecDepth 20000
theorem wf_u64 {n : Int} (h : (Lit.int .u64 n).wf = true) : 0 ≤ n ∧ n ≤ 18446744073709551615 := by
  simp [Lit.wf, IntKind.min, IntKind.max, IntKind.bits, IntKind.signed] at h
  omega
theorem wf_i64 {n : Int} (h : (Lit.int .i64 n).wf = true) : -9223372036854775808 ≤ n ∧ n ≤ 9223372036854775807 := by
  simp [Lit.wf, IntKind.min, IntKind.max, IntKind.bits, IntKind.signed] at h
  omega
theorem typ26 {k : Nat} {xs : List C} (h : Typ Tryz.prog (k + 1) 26 xs) : ∃ n : Nat, xs = [.int .u64 (n : Int)] ∧ n ≤ 18446744073709551615 := by
  simp only [Typ, Tryz.underlying26] at h
  obtain ⟨n, rfl, h1⟩ := h
  have := wf_u64 h1
  exact ⟨n.toNat, by rw [Int.toNat_of_nonneg (by omega)], by omega⟩
theorem typ3 {k : Nat} {xs : List C} (h : Typ Tryz.prog (k + 1) 3 xs) : ∃ n : Int, xs = [.int .i64 n] ∧ -9223372036854775808 ≤ n ∧ n ≤ 9223372036854775807 := by
  simp only [Typ, Tryz.underlying3] at h
  obtain ⟨n, rfl, h1⟩ := h
  have := wf_i64 h1
  exact ⟨n, rfl, by omega, by omega⟩
theorem typ4 {k : Nat} {xs : List C} (h : Typ Tryz.prog (k + 1) 4 xs) : ∃ b, xs = [.bool b] := by
  simp only [Typ, Tryz.underlying4] at h
  exact h
theorem typ101 {k : Nat} {xs : List C} (h : Typ Tryz.prog (k + 1) 101 xs) : ∃ n, xs = [.flt .f64 n] := by
  simp only [Typ, Tryz.underlying101] at h
  obtain ⟨n, rfl, _⟩ := h
  exact ⟨_, rfl⟩
theorem typ35 {k : Nat} {xs : List C} (h : Typ Tryz.prog (k + 2) 35 xs) : ∃ l, xs = [.sl (u64s l)] ∧ ∀ e ∈ l, e ≤ 18446744073709551615 := by
  simp only [Typ, Tryz.underlying35] at h
  obtain ⟨els, rfl, _, h2⟩ := h
  have h3 := fun x hx => typ26 (k := k) (h2 x hx)
  have : ∀ els : List (List C), (∀ x ∈ els, Typ Tryz.prog (k + 1) 26 x) → ∃ l : List Nat, els = u64s l ∧ ∀ e ∈ l, e ≤ 18446744073709551615 := by
    intro els
    induction els with
    | nil => exact fun _ => ⟨[], rfl, by simp⟩
    | cons x t ih =>
      intro h3
      obtain ⟨l, h4, h5⟩ := ih (fun y hy => h3 y (List.mem_cons_of_mem _ hy))
      obtain ⟨n, rfl, h6⟩ := typ26 (k := k) (h3 x (List.mem_cons_self ..))
      subst h4
      exact ⟨n :: l, rfl, fun e he => (List.mem_cons.1 he).elim (fun h => by rw [h]; exact h6) (h5 e)⟩
  obtain ⟨l, rfl, h⟩ := this els h2
  exact ⟨l, rfl, h⟩
def Hd.rng (e : Hd) : Prop := e.id ≤ 18446744073709551615 ∧ e.n ≤ 18446744073709551615
theorem typ151 {k : Nat} {xs : List C} (h : Typ Tryz.prog (k + 2) 151 xs) : (Hd.dec xs).enc = xs ∧ (Hd.dec xs).rng := by
  simp only [Typ, Tryz.underlying151, TypFs, Tryz.underlying26] at h
  obtain ⟨_, _, rfl, ⟨s0, rfl, h0⟩, _, _, rfl, ⟨s1, rfl, h1⟩, rfl⟩ := h
  have q0 := wf_u64 h0
  have q1 := wf_u64 h1
  simp only [List.cons_append, List.nil_append, List.append_nil]
  refine ⟨by simp [Hd.dec, Hd.enc, Int.toNat_of_nonneg q0.1, Int.toNat_of_nonneg q1.1], ?_⟩
  simp only [Hd.dec, Hd.rng]
  exact ⟨by omega, by omega⟩
theorem hds_dhds {els : List (List C)} (h : ∀ x ∈ els, (Hd.dec x).enc = x) : hds (dhds els) = els := by
  simp only [hds, dhds, List.map_map]
  refine (List.map_congr_left fun x hx => ?_).trans (List.map_id _)
  exact h x hx
theorem typ65 {k : Nat} {xs : List C} (h : Typ Tryz.prog (k + 3) 65 xs) : ∃ l, xs = [.sl (hds l)] ∧ ∀ e ∈ l, e.rng := by
  simp only [Typ, Tryz.underlying65] at h
  obtain ⟨els, rfl, _, h2⟩ := h
  have h3 : ∀ x ∈ els, (Hd.dec x).enc = x ∧ (Hd.dec x).rng := fun x hx => typ151 (k := k) (h2 x hx)
  refine ⟨dhds els, by rw [hds_dhds fun x hx => (h3 x hx).1], fun e he => ?_⟩
  obtain ⟨x, hx, rfl⟩ := List.mem_map.1 he
  exact (h3 x hx).2
def Ch.rng (e : Ch) : Prop := e.id ≤ 18446744073709551615 ∧ e.loc ≤ 18446744073709551615 ∧ e.rem ≤ 18446744073709551615 ∧ e.res ≤ 18446744073709551615 ∧ e.most ≤ 18446744073709551615 ∧ (∀ q ∈ e.holds, q.rng) ∧ True
theorem typ67 {k : Nat} {xs : List C} (h : Typ Tryz.prog (k + 4) 67 xs) : (Ch.dec xs).enc = xs ∧ (Ch.dec xs).rng := by
  simp only [Typ, Tryz.underlying67, TypFs, Tryz.underlying4, Tryz.underlying26] at h
  obtain ⟨_, _, rfl, ⟨s0, rfl, h0⟩, _, _, rfl, ⟨s1, rfl, h1⟩, _, _, rfl, ⟨s2, rfl, h2⟩, _, _, rfl, ⟨s3, rfl, h3⟩, _, _, rfl, ⟨s4, rfl, h4⟩, _, _, rfl, hs5, _, _, rfl, ⟨s6, rfl⟩, rfl⟩ := h
  have q0 := wf_u64 h0
  have q1 := wf_u64 h1
  have q2 := wf_u64 h2
  have q3 := wf_u64 h3
  have q4 := wf_u64 h4
  obtain ⟨s5, rfl, q5⟩ := typ65 (k := k + 0) hs5
  simp only [List.cons_append, List.nil_append, List.append_nil]
  refine ⟨by simp [Ch.dec, Ch.enc, Int.toNat_of_nonneg q0.1, Int.toNat_of_nonneg q1.1, Int.toNat_of_nonneg q2.1, Int.toNat_of_nonneg q3.1, Int.toNat_of_nonneg q4.1, dhds_hds], ?_⟩
  simp only [Ch.dec, Ch.rng, dhds_hds]
  exact ⟨by omega, by omega, by omega, by omega, by omega, q5, trivial⟩
theorem chs_dchs {els : List (List C)} (h : ∀ x ∈ els, (Ch.dec x).enc = x) : chs (dchs els) = els := by
  simp only [chs, dchs, List.map_map]
  refine (List.map_congr_left fun x hx => ?_).trans (List.map_id _)
  exact h x hx
theorem typ22 {k : Nat} {xs : List C} (h : Typ Tryz.prog (k + 5) 22 xs) : ∃ l, xs = [.sl (chs l)] ∧ ∀ e ∈ l, e.rng := by
  simp only [Typ, Tryz.underlying22] at h
  obtain ⟨els, rfl, _, h2⟩ := h
  have h3 : ∀ x ∈ els, (Ch.dec x).enc = x ∧ (Ch.dec x).rng := fun x hx => typ67 (k := k) (h2 x hx)
  refine ⟨dchs els, by rw [chs_dchs fun x hx => (h3 x hx).1], fun e he => ?_⟩
  obtain ⟨x, hx, rfl⟩ := List.mem_map.1 he
  exact (h3 x hx).2
def Wt.rng (e : Wt) : Prop := e.id ≤ 18446744073709551615 ∧ True
theorem typ103 {k : Nat} {xs : List C} (h : Typ Tryz.prog (k + 2) 103 xs) : (Wt.dec xs).enc = xs ∧ (Wt.dec xs).rng := by
  simp only [Typ, Tryz.underlying103, TypFs, Tryz.underlying26, Tryz.underlying101] at h
  obtain ⟨_, _, rfl, ⟨s0, rfl, h0⟩, _, _, rfl, ⟨s1, rfl, h1⟩, rfl⟩ := h
  have q0 := wf_u64 h0
  simp only [List.cons_append, List.nil_append, List.append_nil]
  refine ⟨by simp [Wt.dec, Wt.enc, Int.toNat_of_nonneg q0.1], ?_⟩
  simp only [Wt.dec, Wt.rng]
  exact ⟨by omega, trivial⟩
theorem wts_dwts {els : List (List C)} (h : ∀ x ∈ els, (Wt.dec x).enc = x) : wts (dwts els) = els := by
  simp only [wts, dwts, List.map_map]
  refine (List.map_congr_left fun x hx => ?_).trans (List.map_id _)
  exact h x hx
theorem typ23 {k : Nat} {xs : List C} (h : Typ Tryz.prog (k + 3) 23 xs) : ∃ l, xs = [.sl (wts l)] ∧ ∀ e ∈ l, e.rng := by
  simp only [Typ, Tryz.underlying23] at h
  obtain ⟨els, rfl, _, h2⟩ := h
  have h3 : ∀ x ∈ els, (Wt.dec x).enc = x ∧ (Wt.dec x).rng := fun x hx => typ103 (k := k) (h2 x hx)
  refine ⟨dwts els, by rw [wts_dwts fun x hx => (h3 x hx).1], fun e he => ?_⟩
  obtain ⟨x, hx, rfl⟩ := List.mem_map.1 he
  exact (h3 x hx).2
def Iv.rng (e : Iv) : Prop := e.hash ≤ 18446744073709551615 ∧ e.n ≤ 18446744073709551615 ∧ e.till ≤ 18446744073709551615 ∧ (-9223372036854775808 ≤ e.state ∧ e.state ≤ 9223372036854775807)
theorem typ139 {k : Nat} {xs : List C} (h : Typ Tryz.prog (k + 2) 139 xs) : (Iv.dec xs).enc = xs ∧ (Iv.dec xs).rng := by
  simp only [Typ, Tryz.underlying139, TypFs, Tryz.underlying3, Tryz.underlying26] at h
  obtain ⟨_, _, rfl, ⟨s0, rfl, h0⟩, _, _, rfl, ⟨s1, rfl, h1⟩, _, _, rfl, ⟨s2, rfl, h2⟩, _, _, rfl, ⟨s3, rfl, h3⟩, rfl⟩ := h
  have q0 := wf_u64 h0
  have q1 := wf_u64 h1
  have q2 := wf_u64 h2
  have q3 := wf_i64 h3
  simp only [List.cons_append, List.nil_append, List.append_nil]
  refine ⟨by simp [Iv.dec, Iv.enc, Int.toNat_of_nonneg q0.1, Int.toNat_of_nonneg q1.1, Int.toNat_of_nonneg q2.1], ?_⟩
  simp only [Iv.dec, Iv.rng]
  exact ⟨by omega, by omega, by omega, ⟨by omega, by omega⟩⟩
theorem ivs_divs {els : List (List C)} (h : ∀ x ∈ els, (Iv.dec x).enc = x) : ivs (divs els) = els := by
  simp only [ivs, divs, List.map_map]
  refine (List.map_congr_left fun x hx => ?_).trans (List.map_id _)
  exact h x hx
theorem typ24 {k : Nat} {xs : List C} (h : Typ Tryz.prog (k + 3) 24 xs) : ∃ l, xs = [.sl (ivs l)] ∧ ∀ e ∈ l, e.rng := by
  simp only [Typ, Tryz.underlying24] at h
  obtain ⟨els, rfl, _, h2⟩ := h
  have h3 : ∀ x ∈ els, (Iv.dec x).enc = x ∧ (Iv.dec x).rng := fun x hx => typ139 (k := k) (h2 x hx)
  refine ⟨divs els, by rw [ivs_divs fun x hx => (h3 x hx).1], fun e he => ?_⟩
  obtain ⟨x, hx, rfl⟩ := List.mem_map.1 he
  exact (h3 x hx).2
def Py.rng (e : Py) : Prop := e.id ≤ 18446744073709551615 ∧ e.hash ≤ 18446744073709551615 ∧ e.chan ≤ 18446744073709551615 ∧ e.n ≤ 18446744073709551615 ∧ (-9223372036854775808 ≤ e.state ∧ e.state ≤ 9223372036854775807)
theorem typ50 {k : Nat} {xs : List C} (h : Typ Tryz.prog (k + 2) 50 xs) : (Py.dec xs).enc = xs ∧ (Py.dec xs).rng := by
  simp only [Typ, Tryz.underlying50, TypFs, Tryz.underlying3, Tryz.underlying26] at h
  obtain ⟨_, _, rfl, ⟨s0, rfl, h0⟩, _, _, rfl, ⟨s1, rfl, h1⟩, _, _, rfl, ⟨s2, rfl, h2⟩, _, _, rfl, ⟨s3, rfl, h3⟩, _, _, rfl, ⟨s4, rfl, h4⟩, rfl⟩ := h
  have q0 := wf_u64 h0
  have q1 := wf_u64 h1
  have q2 := wf_u64 h2
  have q3 := wf_u64 h3
  have q4 := wf_i64 h4
  simp only [List.cons_append, List.nil_append, List.append_nil]
  refine ⟨by simp [Py.dec, Py.enc, Int.toNat_of_nonneg q0.1, Int.toNat_of_nonneg q1.1, Int.toNat_of_nonneg q2.1, Int.toNat_of_nonneg q3.1], ?_⟩
  simp only [Py.dec, Py.rng]
  exact ⟨by omega, by omega, by omega, by omega, ⟨by omega, by omega⟩⟩
theorem pys_dpys {els : List (List C)} (h : ∀ x ∈ els, (Py.dec x).enc = x) : pys (dpys els) = els := by
  simp only [pys, dpys, List.map_map]
  refine (List.map_congr_left fun x hx => ?_).trans (List.map_id _)
  exact h x hx
theorem typ25 {k : Nat} {xs : List C} (h : Typ Tryz.prog (k + 3) 25 xs) : ∃ l, xs = [.sl (pys l)] ∧ ∀ e ∈ l, e.rng := by
  simp only [Typ, Tryz.underlying25] at h
  obtain ⟨els, rfl, _, h2⟩ := h
  have h3 : ∀ x ∈ els, (Py.dec x).enc = x ∧ (Py.dec x).rng := fun x hx => typ50 (k := k) (h2 x hx)
  refine ⟨dpys els, by rw [pys_dpys fun x hx => (h3 x hx).1], fun e he => ?_⟩
  obtain ⟨x, hx, rfl⟩ := List.mem_map.1 he
  exact (h3 x hx).2
def Ev.rng (e : Ev) : Prop := e.seq ≤ 18446744073709551615 ∧ (-9223372036854775808 ≤ e.kind ∧ e.kind ≤ 9223372036854775807) ∧ e.a ≤ 18446744073709551615 ∧ e.n ≤ 18446744073709551615
theorem typ146 {k : Nat} {xs : List C} (h : Typ Tryz.prog (k + 2) 146 xs) : (Ev.dec xs).enc = xs ∧ (Ev.dec xs).rng := by
  simp only [Typ, Tryz.underlying146, TypFs, Tryz.underlying3, Tryz.underlying26] at h
  obtain ⟨_, _, rfl, ⟨s0, rfl, h0⟩, _, _, rfl, ⟨s1, rfl, h1⟩, _, _, rfl, ⟨s2, rfl, h2⟩, _, _, rfl, ⟨s3, rfl, h3⟩, rfl⟩ := h
  have q0 := wf_u64 h0
  have q1 := wf_i64 h1
  have q2 := wf_u64 h2
  have q3 := wf_u64 h3
  simp only [List.cons_append, List.nil_append, List.append_nil]
  refine ⟨by simp [Ev.dec, Ev.enc, Int.toNat_of_nonneg q0.1, Int.toNat_of_nonneg q2.1, Int.toNat_of_nonneg q3.1], ?_⟩
  simp only [Ev.dec, Ev.rng]
  exact ⟨by omega, ⟨by omega, by omega⟩, by omega, by omega⟩
theorem evs_devs {els : List (List C)} (h : ∀ x ∈ els, (Ev.dec x).enc = x) : evs (devs els) = els := by
  simp only [evs, devs, List.map_map]
  refine (List.map_congr_left fun x hx => ?_).trans (List.map_id _)
  exact h x hx
theorem typ27 {k : Nat} {xs : List C} (h : Typ Tryz.prog (k + 3) 27 xs) : ∃ l, xs = [.sl (evs l)] ∧ ∀ e ∈ l, e.rng := by
  simp only [Typ, Tryz.underlying27] at h
  obtain ⟨els, rfl, _, h2⟩ := h
  have h3 : ∀ x ∈ els, (Ev.dec x).enc = x ∧ (Ev.dec x).rng := fun x hx => typ146 (k := k) (h2 x hx)
  refine ⟨devs els, by rw [evs_devs fun x hx => (h3 x hx).1], fun e he => ?_⟩
  obtain ⟨x, hx, rfl⟩ := List.mem_map.1 he
  exact (h3 x hx).2
def Fd.rng (e : Fd) : Prop := e.next ≤ 18446744073709551615 ∧ (∀ q ∈ e.l, q.rng)
theorem typ29 {k : Nat} {xs : List C} (h : Typ Tryz.prog (k + 4) 29 xs) : (Fd.dec xs).enc = xs ∧ (Fd.dec xs).rng := by
  simp only [Typ, Tryz.underlying29, TypFs, Tryz.underlying26] at h
  obtain ⟨_, _, rfl, ⟨s0, rfl, h0⟩, _, _, rfl, hs1, rfl⟩ := h
  have q0 := wf_u64 h0
  obtain ⟨s1, rfl, q1⟩ := typ27 (k := k + 0) hs1
  simp only [List.cons_append, List.nil_append, List.append_nil]
  refine ⟨by simp [Fd.dec, Fd.enc, Int.toNat_of_nonneg q0.1, devs_evs], ?_⟩
  simp only [Fd.dec, Fd.rng, devs_evs]
  exact ⟨by omega, q1⟩
def Wl.rng (w : Wl) : Prop := (∀ e ∈ w.c, e.rng) ∧ (∀ e ∈ w.w, e.rng) ∧ (∀ e ∈ w.i, e.rng) ∧ (∀ e ∈ w.p, e.rng) ∧ w.f.rng ∧ w.next ≤ 18446744073709551615 ∧ w.tick ≤ 18446744073709551615
theorem typ31x {k : Nat} {xs : List C} (h : Typ Tryz.prog (k + 6) 31 xs) : ∃ w : Wl, xs = w.enc ∧ w.rng := by
  rw [show k + 6 = (k + 5) + 1 from rfl, Typ, Tryz.underlying31] at h
  simp only [TypFs] at h
  obtain ⟨_, _, rfl, h0, _, _, rfl, h1, _, _, rfl, h2, _, _, rfl, h3, _, _, rfl, h4, _, _, rfl, h5, _, _, rfl, h6, rfl⟩ := h
  obtain ⟨c, rfl, q0⟩ := typ22 (k := k) h0
  obtain ⟨w, rfl, q1⟩ := typ23 (k := k + 2) h1
  obtain ⟨i, rfl, q2⟩ := typ24 (k := k + 2) h2
  obtain ⟨p, rfl, q3⟩ := typ25 (k := k + 2) h3
  obtain ⟨e4, q4⟩ := typ29 (k := k + 1) h4
  obtain ⟨n, rfl, q5⟩ := typ26 (k := k + 4) h5
  obtain ⟨t, rfl, q6⟩ := typ26 (k := k + 4) h6
  refine ⟨⟨c, w, i, p, Fd.dec _, n, t⟩, ?_, q0, q1, q2, q3, q4, q5, q6⟩
  rw [← e4]
  simp [Wl.enc, Fd.enc, Fd.dec, devs_evs]
def It.rng (e : It) : Prop := e.hash ≤ 18446744073709551615 ∧ e.n ≤ 18446744073709551615
theorem typ44 {k : Nat} {xs : List C} (h : Typ Tryz.prog (k + 2) 44 xs) : (It.dec xs).enc = xs ∧ (It.dec xs).rng := by
  simp only [Typ, Tryz.underlying44, TypFs, Tryz.underlying26] at h
  obtain ⟨_, _, rfl, ⟨s0, rfl, h0⟩, _, _, rfl, ⟨s1, rfl, h1⟩, rfl⟩ := h
  have q0 := wf_u64 h0
  have q1 := wf_u64 h1
  simp only [List.cons_append, List.nil_append, List.append_nil]
  refine ⟨by simp [It.dec, It.enc, Int.toNat_of_nonneg q0.1, Int.toNat_of_nonneg q1.1], ?_⟩
  simp only [It.dec, It.rng]
  exact ⟨by omega, by omega⟩
theorem its_dits {els : List (List C)} (h : ∀ x ∈ els, (It.dec x).enc = x) : its (dits els) = els := by
  simp only [its, dits, List.map_map]
  refine (List.map_congr_left fun x hx => ?_).trans (List.map_id _)
  exact h x hx
theorem typ32 {k : Nat} {xs : List C} (h : Typ Tryz.prog (k + 3) 32 xs) : ∃ l, xs = [.sl (its l)] ∧ ∀ e ∈ l, e.rng := by
  simp only [Typ, Tryz.underlying32] at h
  obtain ⟨els, rfl, _, h2⟩ := h
  have h3 : ∀ x ∈ els, (It.dec x).enc = x ∧ (It.dec x).rng := fun x hx => typ44 (k := k) (h2 x hx)
  refine ⟨dits els, by rw [its_dits fun x hx => (h3 x hx).1], fun e he => ?_⟩
  obtain ⟨x, hx, rfl⟩ := List.mem_map.1 he
  exact (h3 x hx).2
end Dm
namespace Dm
open Go Go.Proofs
set_option maxRecDepth 20000
theorem wf_u8 {n : Int} (h : (Lit.int .u8 n).wf = true) : 0 ≤ n ∧ n ≤ 255 := by
  simp [Lit.wf, IntKind.min, IntKind.max, IntKind.bits, IntKind.signed] at h
  omega
theorem typ5 {k : Nat} {xs : List C} (h : Typ Tryz.prog (k + 1) 5 xs) : ∃ n : Nat, xs = [.int .u8 (n : Int)] ∧ n ≤ 255 := by
  simp only [Typ, Tryz.underlying5] at h
  obtain ⟨n, rfl, h1⟩ := h
  have := wf_u8 h1
  exact ⟨n.toNat, by rw [Int.toNat_of_nonneg (by omega)], by omega⟩
end Dm
namespace Dm
open Go Go.Proofs Go.IntWalk
theorem addF_ok {f : Fd} {k : Int} {a n : Nat} (h : (addF f k a n).2.2 = 0) : okFd (addF f k a n).1 := by
  unfold addF at h ⊢
  split at h
  rotate_left 1
  · cases h
  rename_i h1
  obtain ⟨⟨o1, o2, o3, o4⟩, hk⟩ := h1
  split at h
  · cases h
  rename_i h2
  rw [if_pos ⟨⟨o1, o2, o3, o4⟩, hk⟩, if_neg h2]
  have h5 := (okEv_get f.next f.l).1 o4
  have hlen : ((f.l ++ [(⟨f.next, k, a, n⟩ : Ev)]).drop (f.l.length + 1 - 64)).length = min f.next 64 := by
    rw [List.length_drop, List.length_append, List.length_singleton]; omega
  refine ⟨by dsimp only; omega, by dsimp only; unfold MM at *; omega, by dsimp only; rw [hlen]; omega, ?_⟩
  dsimp only
  rw [okEv_get]
  intro i hi
  have e : ((f.l ++ [(⟨f.next, k, a, n⟩ : Ev)]).drop (f.l.length + 1 - 64)).getD i default = (f.l ++ [(⟨f.next, k, a, n⟩ : Ev)]).getD (f.l.length + 1 - 64 + i) default := by
    rw [List.getD_eq_getElem?_getD, List.getElem?_drop, ← List.getD_eq_getElem?_getD]
  rw [e]
  rw [hlen] at hi ⊢
  by_cases hj : f.l.length + 1 - 64 + i < f.l.length
  · rw [List.getD_eq_getElem?_getD, List.getElem?_append_left hj, ← List.getD_eq_getElem?_getD]
    have := h5 _ hj
    refine ⟨?_, this.2⟩
    rw [this.1]; omega
  · rw [List.getD_eq_getElem?_getD, List.getElem?_append_right (by omega), show f.l.length + 1 - 64 + i - f.l.length = 0 by omega]
    refine ⟨?_, hk⟩
    show ((f.next : Nat) : Int) = _
    omega
theorem getD_of_get {l : List Py} {i : Nat} {x : Py} (h : l[i]? = some x) : l.getD i default = x := by
  rw [List.getD_eq_getElem?_getD, h]; rfl
theorem pos_last {l : List Py} {k : Nat} (h : ∀ x ∈ l, x.id < k) : Srt.pos Py.id ltN l k = l.length :=
  Srt.pos_eq (Nat.le_refl _) (fun j hj => h _ (mem_getD.2 ⟨j, hj, rfl⟩)) (fun h => absurd h (by omega))
theorem ins_last {l : List Py} {x : Py} : Srt.ins l l.length x = l ++ [x] := by
  unfold Srt.ins; rw [List.take_length, List.drop_length]
theorem pend_app {a b : List Py} : pend (a ++ b) = pend a ++ pend b := by simp [pend]
theorem start_app {l : List Py} {p : Py} (h : (startP l p).2 = 0) (hlt : ∀ x ∈ l, x.id < p.id) : okPy l ∧ okPy1 p ∧ p.state = 1 ∧ ∃ b, (startP l p).1 = b ++ [p] ∧ b.Sublist l ∧ pend b = pend l ∧ b.length ≤ 255 := by
  unfold startP at h ⊢
  split at h
  · cases h
  rename_i hA
  have hok : okPy l := Decidable.byContradiction fun h => hA (.inl h)
  have hp1 : okPy1 p := Decidable.byContradiction fun h => hA (.inr (.inl h))
  have hs : p.state = 1 := Decidable.byContradiction fun h => hA (.inr (.inr h))
  refine ⟨hok, hp1, hs, ?_⟩
  split at h
  · cases h
  rename_i ht
  rw [if_neg hA, if_neg ht]
  have hl := hok.1
  split at h
  · rename_i h256
    rw [if_pos h256]
    cases hi : idle l with
    | none => rw [hi] at h; cases h
    | some k =>
      dsimp only
      unfold idle at hi
      obtain ⟨hk, hks, hkl⟩ := List.findIdx?_eq_some_iff_getElem.1 hi
      have hlen : (l.eraseIdx k).length = l.length - 1 := List.length_eraseIdx_of_lt hk
      have hpos := pos_last hlt
      refine ⟨l.eraseIdx k, ?_, List.eraseIdx_sublist _ _, ?_, by omega⟩
      · rw [hpos, if_pos hk, ← hlen, ins_last]
      · have e : l = l.take k ++ l[k] :: l.drop (k + 1) := by rw [List.getElem_cons_drop, List.take_append_drop]
        have hst : ¬ l[k].state = 1 := by simpa using hks
        rw [List.eraseIdx_eq_take_drop_succ]
        conv => rhs; rw [e]
        rw [pend_app, pend_app]
        congr 1
        unfold pend
        rw [List.filter_cons_of_neg (by simpa using hst)]
  · rename_i h256
    rw [if_neg h256]
    refine ⟨l, ?_, List.Sublist.refl _, rfl, by omega⟩
    dsimp only
    rw [pos_last hlt, ins_last]
theorem okPy_up {l : List Py} (h : okPy l) : Srt.Up Py.id ltN l := (Srt.chn_up (lt := ltN) Srt.totNat).1 h.2.2
theorem start_ok {l b : List Py} {p : Py} (hok : okPy l) (hb : b.Sublist l) (hl : b.length ≤ 255) (hp : okPy1 p) (hlt : ∀ x ∈ l, x.id < p.id) : okPy (b ++ [p]) := by
  refine ⟨by rw [List.length_append, List.length_singleton]; omega, fun x hx => ?_, (Srt.chn_up (lt := ltN) Srt.totNat).2 ?_⟩
  · rcases List.mem_append.1 hx with h | h
    · exact hok.2.1 x (hb.subset h)
    · rw [List.mem_singleton] at h; subst h; exact hp
  · unfold Srt.Up
    rw [List.pairwise_append]
    refine ⟨(okPy_up hok).sublist hb, List.pairwise_singleton _ _, fun x hx y hy => ?_⟩
    rw [List.mem_singleton] at hy; subst hy
    exact hlt x (hb.subset hx)
theorem up_last {l : List Py} {k : Nat} (hu : Srt.Up Py.id ltN l) (h : 0 < l.length → (l.getD (l.length - 1) default).id < k) : ∀ x ∈ l, x.id < k := fun x hx => by
  obtain ⟨i, hi, rfl⟩ := mem_getD.1 hx
  by_cases hl : i = l.length - 1
  · rw [hl]; exact h (by omega)
  · have := Srt.up_get.1 hu i (l.length - 1) (by omega) (by omega)
    have h2 := h (by omega)
    simp only [ltN] at this; omega
theorem hlL_app {a b : List Ch} : hlL (a ++ b) = hlL a ++ hlL b := by simp [hlL]
theorem hlL_set {l : List Ch} {p : Nat} {d : Ch} {x : Hd} (hp : p < l.length) (hi : d.id = (l.getD p default).id) (hd : d.holds.Perm (x :: (l.getD p default).holds)) : (hlL (l.set p d)).Perm ((d.id, x.id, x.n) :: hlL l) := by
  conv => rhs; rw [split_at hp]
  rw [split_set hp]
  simp only [hlL, List.flatMap_append, List.flatMap_cons]
  have h1 : (hlC d).Perm ((d.id, x.id, x.n) :: hlC (l.getD p default)) := by
    unfold hlC
    rw [← hi]
    exact hd.map fun h => (d.id, h.id, h.n)
  refine (List.Perm.append_left _ (h1.append_right _)).trans ?_
  exact List.perm_middle
def ourC (c : Ch) : Nat := if c.op = true then c.loc else 0
def ourS (l : List Ch) : Nat := (l.map ourC).sum
def heldS (l : List Ch) : Nat := (l.map fun c => held c.holds).sum
theorem ourS_set {l : List Ch} {p : Nat} {d : Ch} (hp : p < l.length) : ourS (l.set p d) + ourC (l.getD p default) = ourS l + ourC d := by
  conv => rhs; rw [split_at hp]
  rw [split_set hp]
  simp only [ourS, List.map_append, List.map_cons, List.sum_append, List.sum_cons]
  omega
theorem heldS_set {l : List Ch} {p : Nat} {d : Ch} (hp : p < l.length) : heldS (l.set p d) + held (l.getD p default).holds = heldS l + held d.holds := by
  conv => rhs; rw [split_at hp]
  rw [split_set hp]
  simp only [heldS, List.map_append, List.map_cons, List.sum_append, List.sum_cons]
  omega
theorem agr_parts {p : List Py} {c : List Ch} : agrL p c = (true, 0) ↔ okPy p ∧ c.length ≤ 32 ∧ (c.map Ch.id).Nodup ∧ (∀ q ∈ pend p, (q.chan, q.id, q.n) ∈ hlL c) ∧ (hlL c).length = (pend p).length := by
  unfold agrL
  split
  · rename_i h
    rw [Prod.mk.injEq]
    refine ⟨fun h1 => ⟨h.1, h.2.1, h.2.2, of_decide_eq_true h1.1⟩, fun h1 => ⟨decide_eq_true h1.2.2.2, rfl⟩⟩
  · rename_i h
    refine ⟨fun h1 => (by cases h1), fun h1 => absurd ⟨h1.1, h1.2.1, h1.2.2.1⟩ h⟩
theorem okLd_ids {l : List Ch} (h : okLd l) : (l.map Ch.id).Nodup := by
  have h1 := (Srt.chn_up (lt := ltN) Srt.totNat).1 h.2.2.1
  unfold Srt.Up at h1
  rw [List.Nodup, List.pairwise_map]
  exact h1.imp fun hlt he => by simp only [ltN] at hlt; omega
theorem payE_0 {v : Wl} {hash n : Nat} (h : payE v hash n = 0) : okW v ∧ n ≠ 0 ∧ n ≤ MM ∧ (firstL v.c v.w n).2 = 0 ∧ v.next ≠ MM ∧ (payP v hash n).2 = 0 ∧ (payC v n).2 = 0 ∧ (payF v n).2.2 = 0 := by
  unfold payE at h
  split at h
  · cases h
  rename_i h1
  split at h
  · cases h
  rename_i h2
  split at h
  · cases h
  rename_i h3
  split at h
  · rename_i h4; exact absurd h h4
  rename_i h4
  split at h
  · rename_i h5; exact absurd h h5
  rename_i h5
  refine ⟨Decidable.byContradiction fun h => h1 (.inl h), fun h => h1 (.inr (.inl h)), Decidable.byContradiction fun h => h1 (.inr (.inr h)), Decidable.byContradiction h2, h3, Decidable.byContradiction h4, Decidable.byContradiction h5, h⟩
theorem payW_e {v : Wl} {hash n : Nat} : (payW v hash n).2.2 = payE v hash n := by
  unfold payW
  split
  · rename_i h; exact h.symm
  · rfl
theorem okW_ids {w : Wl} (h : okW w) : ∀ x ∈ w.p, x.id < w.next := by
  have h1 := (agr_parts.1 h.2.2.2.2.2.2.2).1
  exact up_last (okPy_up h1) h.2.2.2.2.2.2.1
theorem pay_all {v : Wl} {hash n : Nat} (h : (payW v hash n).2.2 = 0) :
    okW v ∧ okW (payW v hash n).1 ∧ (payW v hash n).2.1 = v.next ∧ (payW v hash n).1.next = v.next + 1 ∧ n ≠ 0 ∧ n ≤ MM ∧
    ourS (payW v hash n).1.c + n = ourS v.c ∧ heldS (payW v hash n).1.c = heldS v.c + n ∧
    (∃ ch, pend (payW v hash n).1.p = pend v.p ++ [⟨v.next, hash, ch, n, 1⟩]) ∧ (payW v hash n).1.tick = v.tick ∧ (payW v hash n).1.w = v.w ∧ (payW v hash n).1.i = v.i := by
  rw [payW_e] at h
  obtain ⟨hok, hn, hM, hf, hnx, hP, hC, hF⟩ := payE_0 h
  have e : payW v hash n = (⟨(payC v n).1, v.w, v.i, (payP v hash n).1, (payF v n).1, v.next + 1, v.tick⟩, v.next, 0) := by rw [payW, if_pos h]
  rw [e]
  dsimp only
  have hids := okW_ids hok
  obtain ⟨o1, o2, o3, o4, o5, o6, o7, o8⟩ := hok
  obtain ⟨a1, a2, a3, a4, a5⟩ := agr_parts.1 o8
  have hP' := hP
  unfold payP at hP'
  obtain ⟨-, q1, -, b, hb1, hb2, hb3, hb4⟩ := start_app hP' hids
  have hC' := hC
  unfold payC at hC'
  have hC2 := lhold_fine hC'
  obtain ⟨-, c, hc, hcid, hp, hcp, hw, he, eC⟩ := lhold_at hC'
  have eid : (holdC c v.next n).1.id = c.id := by rw [holdC, if_pos he]
  have ehl : (holdC c v.next n).1.holds.Perm (⟨v.next, n⟩ :: c.holds) := by rw [holdC, if_pos he]; exact hold_perm
  have hop : c.op = true ∧ n ≤ c.loc := by
    have he := he
    unfold holdE at he
    split at he
    · cases he
    split at he
    · cases he
    rename_i h2
    split at he
    · cases he
    split at he
    · cases he
    split at he
    · cases he
    split at he
    · cases he
    refine ⟨by simpa using h2, ?_⟩
    omega
  have eloc : (holdC c v.next n).1.loc = c.loc - n ∧ (holdC c v.next n).1.op = c.op ∧ held (holdC c v.next n).1.holds = n + held c.holds := by rw [holdC, if_pos he]; exact ⟨rfl, rfl, held_ins⟩
  have eC' : (payC v n).1 = v.c.set (Srt.pos Ch.id ltN v.c (firstL v.c v.w n).1) (holdC c v.next n).1 := by unfold payC; rw [eC]
  have eP' : (payP v hash n).1 = b ++ [⟨v.next, hash, (firstL v.c v.w n).1, n, 1⟩] := by unfold payP; exact hb1
  have hpe : pend (payP v hash n).1 = pend v.p ++ [⟨v.next, hash, (firstL v.c v.w n).1, n, 1⟩] := by
    rw [eP', pend_app, hb3]; rfl
  have hset := hlL_set (l := v.c) (p := Srt.pos Ch.id ltN v.c (firstL v.c v.w n).1) (d := (holdC c v.next n).1) (x := ⟨v.next, n⟩) hp (by rw [hcp, eid]) (by rw [hcp]; exact ehl)
  have hcc : okLd (payC v n).1 := hC2
  have hpp : okPy (payP v hash n).1 := by rw [eP']; exact start_ok a1 hb2 hb4 q1 hids
  have hou := ourS_set (l := v.c) (p := Srt.pos Ch.id ltN v.c (firstL v.c v.w n).1) (d := (holdC c v.next n).1) hp
  have hhe := heldS_set (l := v.c) (p := Srt.pos Ch.id ltN v.c (firstL v.c v.w n).1) (d := (holdC c v.next n).1) hp
  rw [hcp] at hou hhe
  rw [eloc.2.2] at hhe
  have hoc : ourC (holdC c v.next n).1 + n = ourC c := by
    unfold ourC
    rw [eloc.2.1, eloc.1, if_pos hop.1, if_pos hop.1]; omega
  refine ⟨⟨o1, o2, o3, o4, o5, o6, o7, o8⟩, ⟨hcc, o2, addF_ok hF, o4, by dsimp only; omega, by dsimp only; unfold MM at *; omega, fun _ => ?_, agr_parts.2 ⟨hpp, hcc.1, okLd_ids hcc, ?_, ?_⟩⟩, rfl, rfl, hn, hM, by rw [eC']; omega, by rw [eC']; omega, ⟨_, hpe⟩, rfl, rfl, rfl⟩
  · dsimp only
    rw [eP', List.length_append, List.length_singleton, Nat.add_sub_cancel, List.getD_eq_getElem?_getD, List.getElem?_append_right (Nat.le_refl _), Nat.sub_self]
    show v.next < v.next + 1; omega
  · intro q hq
    dsimp only at hq ⊢
    rw [hpe, List.mem_append, List.mem_singleton] at hq
    rw [eC', hset.mem_iff]
    rcases hq with hq | rfl
    · exact .tail _ (a4 q hq)
    · rw [eid, hcid]; exact .head _
  · dsimp only
    rw [eC', hset.length_eq, hpe, List.length_cons, List.length_append, List.length_singleton, a5]
end Dm
namespace Dm
open Go Go.Proofs Go.IntWalk
@[go_sem] def cheld_r (c : Ch) : D := .tup [.int .u64 ((sumsC c).1 : Int), .int .i64 (sumsC c).2.2]
@[go_sem] abbrev n_cheld : FuncId := 44
@[go_sem] def cheld_T : Tab := [(88, sp_csums)]
theorem cheld_T_ok : TabOk Tryz.prog cheld_T := (TabOk.cons sp_csums_ok TabOk.nil)
set_option maxRecDepth 8000 in
set_option maxHeartbeats 1000000 in
theorem cheld_ok (c : Ch)  : PureFn Tryz.prog 44 [.agg [.c (.int .u64 (c.id : Int)), .c (.int .u64 (c.loc : Int)), .c (.int .u64 (c.rem : Int)), .c (.int .u64 (c.res : Int)), .c (.int .u64 (c.most : Int)), .sl (hds c.holds), .c (.bool c.op)]] (cheld_r c) := by
  refine .of (ac44 cheld_T_ok (Nat.le_of_ble_eq_true rfl) ?_)
  simp -implicitDefEqProofs only [cd_t, cd_f, cd_dec, cd_not, cd_and, cd_or, grd_tt, grd_ff, grd_tf, grd_ft, grd_dt, grd_df, grd_nt, grd_nf, go_sem, Go.Proofs.Tryz.f44, reduceIte, reduceCtorEq, Nat.reduceEqDiff, Nat.reduceAdd, Nat.reduceLeDiff, Nat.reduceSub, Nat.reduceMul, Nat.reduceLT, Nat.reduceShiftRight, Nat.reduceMod, Int.reduceLE, Int.reduceLT, Int.reduceToNat, decide_true, Bool.and_self, Bool.true_and, Ob.map.injEq, Ob.it.injEq, List.cons.injEq, true_and, and_true]
def sp_cheld : List D → Option (Prop × D × Fr)
  | [.agg [.c (.int .u64 z2), .c (.int .u64 z3), .c (.int .u64 z4), .c (.int .u64 z5), .c (.int .u64 z6), .c (.sl z7), .c (.bool z8)]] => some (z2 = (z2.toNat : Int) ∧ z3 = (z3.toNat : Int) ∧ z4 = (z4.toNat : Int) ∧ z5 = (z5.toNat : Int) ∧ z6 = (z6.toNat : Int) ∧ z7 = hds (dhds z7), cheld_r (⟨z2.toNat, z3.toNat, z4.toNat, z5.toNat, z6.toNat, (dhds z7), z8⟩ : Ch), [])
  | _ => none
attribute [go_sem] sp_cheld
theorem sp_cheld_ok : ∀ rs p r fr, sp_cheld rs = some (p, r, fr) → p → FnOk Tryz.prog 44 rs r fr := by
  intro rs p r fr h hp
  unfold sp_cheld at h
  split at h <;> cases h
  obtain ⟨hc0, hc1, hc2, hc3, hc4, hc5⟩ := hp
  rename_i z2 z3 z4 z5 z6 z7 z8
  obtain ⟨z2, rfl⟩ : ∃ m : Nat, z2 = m := ⟨_, hc0⟩
  obtain ⟨z3, rfl⟩ : ∃ m : Nat, z3 = m := ⟨_, hc1⟩
  obtain ⟨z4, rfl⟩ : ∃ m : Nat, z4 = m := ⟨_, hc2⟩
  obtain ⟨z5, rfl⟩ : ∃ m : Nat, z5 = m := ⟨_, hc3⟩
  obtain ⟨z6, rfl⟩ : ∃ m : Nat, z6 = m := ⟨_, hc4⟩
  obtain ⟨z7, rfl⟩ : ∃ m, z7 = hds m := ⟨_, hc5⟩
  simp only [Int.toNat_natCast, dhds_hds]
  exact cheld_ok ⟨z2, z3, z4, z5, z6, z7, z8⟩
def oursL (l : List Ch) : Nat × Nat × Int := if okLd l then (ourS l, heldS l, 0) else (0, 0, 1)
theorem our_le : ∀ {l : List Ch}, (∀ c ∈ l, okCh c) → ourS l + heldS l ≤ totL l
  | [], _ => Nat.le_refl 0
  | c :: l, h => by
    have h1 := our_le (l := l) fun d hd => h d (.tail _ hd)
    have h2 := h c (.head _)
    have e1 : ourS (c :: l) = ourC c + ourS l := by simp [ourS]
    have e2 : heldS (c :: l) = held c.holds + heldS l := by simp [heldS]
    have e3 : totL (c :: l) = (held c.holds + c.loc + c.rem) + totL l := by
      simp only [totL, List.map_cons, List.sum_cons]
      rw [allC, sumsC, if_pos h2]
    have h4 : ourC c ≤ c.loc := by unfold ourC; split <;> omega
    omega
theorem our_succ {l : List Ch} {i : Nat} (h : i < l.length) : ourS (l.take (i + 1)) = ourS (l.take i) + ourC (l.getD i default) ∧ heldS (l.take (i + 1)) = heldS (l.take i) + held (l.getD i default).holds := by
  rw [take_succ h, ourS, heldS, List.map_append, List.sum_append, List.map_append, List.sum_append]; simp [ourS, heldS]
theorem our_take {l : List Ch} {i : Nat} : ourS (l.take i) ≤ ourS l ∧ heldS (l.take i) ≤ heldS l := by
  have e1 : ourS l = ourS (l.take i) + ourS (l.drop i) := by
    conv => lhs; rw [← List.take_append_drop i l]
    rw [ourS, List.map_append, List.sum_append]; rfl
  have e2 : heldS l = heldS (l.take i) + heldS (l.drop i) := by
    conv => lhs; rw [← List.take_append_drop i l]
    rw [heldS, List.map_append, List.sum_append]; rfl
  omega
@[go_sem] def ours_r (l : List Ch) : D := .tup [.int .u64 ((oursL l).1 : Int), .int .u64 ((oursL l).2.1 : Int), .int .i64 (oursL l).2.2]
@[go_sem] abbrev n_ours : FuncId := 13
@[go_sem] def ours_T : Tab := [(43, sp_lcheck), (44, sp_cheld)]
theorem ours_T_ok : TabOk Tryz.prog ours_T := (TabOk.cons sp_lcheck_ok (TabOk.cons sp_cheld_ok TabOk.nil))
set_option maxRecDepth 8000 in
set_option maxHeartbeats 1000000 in
theorem ours_ok (l : List Ch)  : PureFn Tryz.prog 13 [.sl (chs l)] (ours_r l) := by
  refine .of (ac13 ours_T_ok (Nat.le_of_ble_eq_true rfl) ?_)
  simp -implicitDefEqProofs only [cd_t, cd_f, cd_dec, cd_not, cd_and, cd_or, grd_tt, grd_ff, grd_tf, grd_ft, grd_dt, grd_df, grd_nt, grd_nf, go_sem, Go.Proofs.Tryz.f13, reduceIte, reduceCtorEq, Nat.reduceEqDiff, Nat.reduceAdd, Nat.reduceLeDiff, Nat.reduceSub, Nat.reduceMul, Nat.reduceLT, Nat.reduceShiftRight, Nat.reduceMod, Int.reduceLE, Int.reduceLT, Int.reduceToNat, decide_true, Bool.and_self, Bool.true_and, Ob.map.injEq, Ob.it.injEq, List.cons.injEq, true_and, and_true]
  have hl0 : chkL l = 0 ↔ okLd l := by unfold chkL; split <;> rename_i h <;> simp only [h] <;> decide
  refine ⟨fun h0 hl => ?_, fun h0 => by
    have hno : ¬ okLd l := fun h => h0 (hl0.2 h)
    rw [oursL, chkL, if_neg hno, if_neg hno]; exact ⟨rfl, rfl, rfl⟩⟩
  have hok := hl0.1 h0
  have hle := our_le hok.2.1
  have htl := hok.2.2.2.2
  have e : oursL l = (ourS l, heldS l, 0) := by rw [oursL, if_pos hok]
  rw [e]
  refine SWp.loop (ι := { i : Nat // i ≤ l.length }) (fun i => ⟨[(2, .int .u64 (ourS (l.take i.1) : Nat)), (3, .int .u64 (heldS (l.take i.1) : Nat)), (14, .sl (chs l)), (15, .int .i64 l.length), (16, .int .i64 i.1)], [], 0⟩) (fun i => l.length - i.1) ⟨0, by omega⟩ ?_ ?_
  · simp [go_sem, ourS, heldS]
  · rintro ⟨i, hi⟩
    refine awp_sound ours_T_ok.toS lv13 _ _ _ rfl ?_
    simp -implicitDefEqProofs only [cd_t, cd_f, cd_dec, cd_not, cd_and, cd_or, grd_tt, grd_ff, grd_tf, grd_ft, grd_dt, grd_df, grd_nt, grd_nf, go_sem, reduceIte, reduceCtorEq, Nat.reduceEqDiff, Nat.reduceAdd, Nat.reduceLeDiff, Nat.reduceSub, Nat.reduceMul, Nat.reduceLT, Nat.reduceShiftRight, Nat.reduceMod, Int.reduceLE, Int.reduceLT, Int.reduceToNat, decide_true, Bool.and_self, Bool.true_and, Ob.map.injEq, Ob.it.injEq, List.cons.injEq, true_and, and_true]
    refine ⟨fun h1 => ⟨by omega, ?_⟩, fun h1 => ?_⟩
    · have hi' : i < l.length := by omega
      obtain ⟨s1, s2⟩ := our_succ hi'
      obtain ⟨t1, t2⟩ := our_take (l := l) (i := i + 1)
      have hc := hok.2.1 _ (mem_getD.2 ⟨i, hi', rfl⟩)
      have e1 : (sumsC (l.getD i default)).1 = held (l.getD i default).holds := by rw [sumsC, if_pos hc]
      have hs := sumsC_0.2 hc
      unfold MM ourC at *
      rw [e1, hs]
      refine ⟨fun _ => ⟨fun h2 => ?_, fun h2 => ?_⟩, fun h => absurd rfl h⟩
      · rw [if_pos h2] at s1
        exact ⟨⟨i + 1, hi'⟩, by dsimp only; omega, by rw [u64_in _ (by omega)]; dsimp only; omega, by rw [u64_in _ (by omega)]; dsimp only; omega, i64_in _ (by omega)⟩
      · rw [if_neg (by rw [h2]; decide)] at s1
        exact ⟨⟨i + 1, hi'⟩, by dsimp only; omega, by dsimp only; omega, by rw [u64_in _ (by omega)]; dsimp only; omega, i64_in _ (by omega)⟩
    · have hi' : i = l.length := by omega
      subst hi'
      rw [List.take_length]; exact ⟨rfl, rfl⟩
def sp_ours : List D → Option (Prop × D × Fr)
  | [.c (.sl z9)] => some (z9 = chs (dchs z9), ours_r (dchs z9), [])
  | _ => none
attribute [go_sem] sp_ours
theorem sp_ours_ok : ∀ rs p r fr, sp_ours rs = some (p, r, fr) → p → FnOk Tryz.prog 13 rs r fr := by
  intro rs p r fr h hp
  unfold sp_ours at h
  split at h <;> cases h
  have hc0 := hp
  rename_i z9
  obtain ⟨z9, rfl⟩ : ∃ m, z9 = chs m := ⟨_, hc0⟩
  simp only [dchs_chs]
  exact ours_ok z9
def getP (l : List Py) (id : Nat) : Py × Int := if okPy l then (if Srt.thr Py.id ltN l id = true then (l.getD (Srt.pos Py.id ltN l id) default, 0) else (default, 5)) else (default, 1)
@[go_sem] def pget_r (l : List Py) (id : Nat) : D := .tup [.agg [.int .u64 (getP l id).1.id, .int .u64 (getP l id).1.hash, .int .u64 (getP l id).1.chan, .int .u64 (getP l id).1.n, .int .i64 (getP l id).1.state], .int .i64 (getP l id).2]
@[go_sem] abbrev n_pget : FuncId := 15
@[go_sem] def pget_T : Tab := [(48, sp_pfind)]
theorem pget_T_ok : TabOk Tryz.prog pget_T := (TabOk.cons sp_pfind_ok TabOk.nil)
set_option maxRecDepth 8000 in
set_option maxHeartbeats 1000000 in
theorem pget_ok (l : List Py) (id : Nat)  : PureFn Tryz.prog 15 [.sl (pys l), .c (.int .u64 (id : Int))] (pget_r l id) := by
  refine .of (ac15 pget_T_ok (Nat.le_of_ble_eq_true rfl) ?_)
  simp -implicitDefEqProofs only [cd_t, cd_f, cd_dec, cd_not, cd_and, cd_or, grd_tt, grd_ff, grd_tf, grd_ft, grd_dt, grd_df, grd_nt, grd_nf, go_sem, Go.Proofs.Tryz.f15, reduceIte, reduceCtorEq, Nat.reduceEqDiff, Nat.reduceAdd, Nat.reduceLeDiff, Nat.reduceSub, Nat.reduceMul, Nat.reduceLT, Nat.reduceShiftRight, Nat.reduceMod, Int.reduceLE, Int.reduceLT, Int.reduceToNat, decide_true, Bool.and_self, Bool.true_and, Ob.map.injEq, Ob.it.injEq, List.cons.injEq, true_and, and_true]
  by_cases hok : okPy l
  · have ef : findP l id = (((Srt.pos Py.id ltN l id : Nat) : Int), if Srt.thr Py.id ltN l id = true then 0 else 5) := by rw [findP, if_pos hok]
    by_cases ht : Srt.thr Py.id ltN l id = true
    · have hp : Srt.pos Py.id ltN l id < l.length := by
        have ht := ht
        unfold Srt.thr at ht
        exact (of_decide_eq_true ht).1
      rw [ef, getP, if_pos hok, if_pos ht, if_pos ht]
      refine ⟨fun _ => ⟨⟨by dsimp only; omega, by dsimp only; omega⟩, ?_⟩, fun h => absurd rfl h⟩
      dsimp only
      rw [Int.toNat_natCast]
      exact ⟨⟨rfl, rfl, rfl, rfl, rfl⟩, rfl⟩
    · rw [ef, getP, if_pos hok, if_neg ht, if_neg ht]
      exact ⟨fun h => absurd (show (5 : Int) = 0 from h) (by decide), fun _ => ⟨⟨rfl, rfl, rfl, rfl, rfl⟩, rfl⟩⟩
  · rw [findP, getP, if_neg hok, if_neg hok]
    exact ⟨fun h => absurd (show (1 : Int) = 0 from h) (by decide), fun _ => ⟨⟨rfl, rfl, rfl, rfl, rfl⟩, rfl⟩⟩
def sp_pget : List D → Option (Prop × D × Fr)
  | [.c (.sl z10), .c (.int .u64 z11)] => some (z10 = pys (dpys z10) ∧ z11 = (z11.toNat : Int), pget_r (dpys z10) z11.toNat, [])
  | _ => none
attribute [go_sem] sp_pget
theorem sp_pget_ok : ∀ rs p r fr, sp_pget rs = some (p, r, fr) → p → FnOk Tryz.prog 15 rs r fr := by
  intro rs p r fr h hp
  unfold sp_pget at h
  split at h <;> cases h
  obtain ⟨hc0, hc1⟩ := hp
  rename_i z10 z11
  obtain ⟨z10, rfl⟩ : ∃ m, z10 = pys m := ⟨_, hc0⟩
  obtain ⟨z11, rfl⟩ : ∃ m : Nat, z11 = m := ⟨_, hc1⟩
  simp only [Int.toNat_natCast, dpys_pys]
  exact pget_ok z10 z11
end Dm
namespace Dm
open Go Go.Proofs Go.IntWalk
theorem seq_all : ∀ {l : List It} {w : Wl}, okW w → seqOk w l →
    okW (seqW w l) ∧ (seqW w l).next = w.next + l.length ∧ ourS (seqW w l).c + totI l = ourS w.c ∧ heldS (seqW w l).c = heldS w.c + totI l ∧
    (∀ i, i < l.length → (seqI w l).getD i default = w.next + i) ∧
    ∃ ps : List Py, pend (seqW w l).p = pend w.p ++ ps ∧ ∀ i, i < l.length → ∃ p ∈ ps, p.id = w.next + i ∧ p.hash = (l.getD i default).hash ∧ p.n = (l.getD i default).n ∧ p.state = 1
  | [], w, h, _ => ⟨h, rfl, rfl, rfl, fun i hi => absurd hi (by simp), [], (List.append_nil _).symm, fun i hi => absurd hi (by simp)⟩
  | x :: l, w, _, h => by
    obtain ⟨-, h1, h2, h3, -, -, h4, h5, ⟨ch, h6⟩, -⟩ := pay_all h.1
    obtain ⟨g1, g2, g3, g4, g5, ps, g6, g7⟩ := seq_all (l := l) h1 h.2
    have et : totI (x :: l) = x.n + totI l := by simp [totI]
    refine ⟨g1, ?_, ?_, ?_, fun i hi => ?_, ⟨w.next, x.hash, ch, x.n, 1⟩ :: ps, ?_, fun i hi => ?_⟩
    · rw [List.length_cons]; show (seqW (payW w x.hash x.n).1 l).next = _; omega
    · rw [et]; show ourS (seqW (payW w x.hash x.n).1 l).c + _ = _; omega
    · rw [et]; show heldS (seqW (payW w x.hash x.n).1 l).c = _; omega
    · cases i with
      | zero => show (payW w x.hash x.n).2.1 = _; omega
      | succ i =>
        have := g5 i (by simpa using hi)
        show (seqI (payW w x.hash x.n).1 l).getD i default = _
        omega
    · show pend (seqW (payW w x.hash x.n).1 l).p = _
      rw [g6, h6, List.append_assoc]; rfl
    · cases i with
      | zero => exact ⟨_, .head _, rfl, rfl, rfl, rfl⟩
      | succ i =>
        obtain ⟨p, hp, q1, q2⟩ := g7 i (by simpa using hi)
        exact ⟨p, .tail _ hp, by omega, q2⟩
theorem getP_mem {l : List Py} {p : Py} (h : okPy l) (hp : p ∈ l) : getP l p.id = (p, 0) := by
  have hu := okPy_up h
  have ht : Srt.thr Py.id ltN l p.id = true := (Srt.thr_iff Srt.totNat hu).2 ⟨p, hp, rfl⟩
  have h2 := ht
  unfold Srt.thr at h2
  obtain ⟨h3, h4⟩ := of_decide_eq_true h2
  have h5 := Srt.up_inj (key := Py.id) (lt := ltN) Srt.totNat hu (mem_getD.2 ⟨_, h3, rfl⟩) hp h4
  rw [getP, if_pos h, if_pos ht, h5]
@[go_sem] def BatchAll_r (w : Wl) (l : List It) : D := .bool true
@[go_sem] abbrev n_BatchAll : FuncId := 4
@[go_sem] def BatchAll_T : Tab := [(8, sp_live), (9, sp_few17), (10, sp_bpay), (11, sp_bsum), (13, sp_ours), (14, sp_wcheck), (15, sp_pget)]
theorem BatchAll_T_ok : TabOk Tryz.prog BatchAll_T := (TabOk.cons sp_live_ok (TabOk.cons sp_few17_ok (TabOk.cons sp_bpay_ok (TabOk.cons sp_bsum_ok (TabOk.cons sp_ours_ok (TabOk.cons sp_wcheck_ok (TabOk.cons sp_pget_ok TabOk.nil)))))))
set_option maxRecDepth 8000 in
set_option maxHeartbeats 1000000 in
theorem BatchAll_ok (w : Wl) (l : List It) (h : w.f.next ≤ 18446744073709551615 ∧ w.next ≤ 18446744073709551615) : PureFn Tryz.prog 4 [.agg [.sl (chs w.c), .sl (wts w.w), .sl (ivs w.i), .sl (pys w.p), .c (.int .u64 (w.f.next : Int)), .sl (evs w.f.l), .c (.int .u64 (w.next : Int)), .c (.int .u64 (w.tick : Int))], .sl (its l)] (BatchAll_r w l) := by
  refine .of (ac4 BatchAll_T_ok (Nat.le_of_ble_eq_true rfl) ?_)
  simp -implicitDefEqProofs only [cd_t, cd_f, cd_dec, cd_not, cd_and, cd_or, grd_tt, grd_ff, grd_tf, grd_ft, grd_dt, grd_df, grd_nt, grd_nf, go_sem, Go.Proofs.Tryz.f4, reduceIte, reduceCtorEq, Nat.reduceEqDiff, Nat.reduceAdd, Nat.reduceLeDiff, Nat.reduceSub, Nat.reduceMul, Nat.reduceLT, Nat.reduceShiftRight, Nat.reduceMod, Int.reduceLE, Int.reduceLT, Int.reduceToNat, decide_true, Bool.and_self, Bool.true_and, Ob.map.injEq, Ob.it.injEq, List.cons.injEq, true_and, and_true]
  obtain ⟨h, hnx⟩ := h
  refine ⟨fun _ _ => ⟨fun _ => trivial, fun hl => ⟨h, fun he => ?_, fun he => ?_⟩⟩, fun _ => trivial⟩
  rotate_left 1
  · have hat : (batW w l).2.1 = [] ∧ (batW w l).1 = zeroW ∧ ((batW w l).2.2.1 = 0 ∨ (batW w l).2.2.1 < l.length) := by
      by_cases hs : (sumB l).2 = 0
      · have hb : batW w l = payB w l := by rw [batW, if_pos hs]
        rcases seq_or (l := l) (w := w) with hok | ⟨i, x, h1, h2, h3⟩
        · rw [hb, payB_ok hok] at he; exact absurd rfl he
        · rw [hb, payB_at h1 h2 h3]; exact ⟨rfl, rfl, .inr (List.getElem?_eq_some_iff.1 h1).1⟩
      · rw [batW, if_neg hs]; exact ⟨rfl, rfl, .inl rfl⟩
    obtain ⟨e1, e2, e3⟩ := hat
    rw [e1, e2]
    exact fun _ => ⟨fun _ _ => ⟨fun _ => ⟨fun h4 _ => decide_eq_true (by omega), fun _ => trivial⟩, fun h => h rfl⟩, fun h => h rfl⟩
  by_cases hs : (sumB l).2 = 0
  rotate_left 1
  · rw [batW, if_neg hs] at he; exact absurd he hs
  have hb : batW w l = payB w l := by rw [batW, if_pos hs]
  rcases seq_or (l := l) (w := w) with hok | ⟨i, x, h1, h2, h3⟩
  rotate_left 1
  · rw [hb, payB_at h1 h2 h3] at he; exact absurd he h3
  have hl0 : l ≠ [] := fun h => by rw [h] at hs; exact absurd hs (by decide)
  have how : okW w := by
    obtain ⟨x, l', rfl⟩ : ∃ x l', l = x :: l' := by cases l with
      | nil => exact absurd rfl hl0
      | cons x l' => exact ⟨x, l', rfl⟩
    exact (pay_all hok.1).1
  obtain ⟨g1, g2, g3, g4, g5, ps, g6, g7⟩ := seq_all how hok
  have hst : (sumB l).1 = totI l := by
    unfold sumB at hs ⊢
    split at hs
    · rename_i h1
      split at hs
      · rename_i h2; rw [if_pos h1, if_pos h2]
      · cases hs
    · cases hs
  have ew : oursL w.c = (ourS w.c, heldS w.c, 0) := by rw [oursL, if_pos how.1]
  have ex : oursL (seqW w l).c = (ourS (seqW w l).c, heldS (seqW w l).c, 0) := by rw [oursL, if_pos g1.1]
  have k1 := our_le how.1.2.1
  have k2 := how.1.2.2.2.2
  have k3 := our_le g1.1.2.1
  have k4 := g1.1.2.2.2.2
  have hil : (seqI w l).length = l.length := seqI_len
  have hck : chkW (seqW w l) = 0 := chkW_0.2 g1
  unfold MM at *
  rw [hb, payB_ok hok, ew, ex, hst]
  dsimp only
  rw [hck, hil, hs]
  have w1 : IntKind.u64.wrap ((ourS w.c : Int) - (ourS (seqW w l).c : Nat)) = (totI l : Nat) := by rw [u64_in _ (by omega)]; omega
  have w2 : IntKind.u64.wrap ((heldS (seqW w l).c : Int) - (heldS w.c : Nat)) = (totI l : Nat) := by rw [u64_in _ (by omega)]; omega
  have hfx := seq_fnext h hok
  refine ⟨fun _ => ⟨fun _ => ⟨fun _ => ⟨fun _ => ⟨fun _ _ _ => ⟨fun _ => ⟨hfx, fun _ _ => ?_, fun h => h rfl⟩, fun h => h rfl⟩, fun h => h w2⟩, fun h => h w1⟩, fun h => h rfl⟩, fun h => h rfl⟩, fun h => h rfl⟩
  refine SWp.loop (ι := { i : Nat // i ≤ l.length }) (fun i => ⟨[(1, .sl (its l)), (2, .ref 0 0), (7, .ref 1 0), (9, .int .i64 0), (119, .sl (u64s (seqI w l))), (120, .int .i64 l.length), (121, .int .i64 i.1)],
    [(1, .box [.sl (chs (seqW w l).c), .sl (wts (seqW w l).w), .sl (ivs (seqW w l).i), .sl (pys (seqW w l).p), .int .u64 ((seqW w l).f.next : Nat), .sl (evs (seqW w l).f.l), .int .u64 ((seqW w l).next : Nat), .int .u64 ((seqW w l).tick : Nat)]), (0, .box [.sl (chs w.c), .sl (wts w.w), .sl (ivs w.i), .sl (pys w.p), .c (.int .u64 w.f.next), .sl (evs w.f.l), .c (.int .u64 w.next), .c (.int .u64 w.tick)])], 2⟩) (fun i => l.length - i.1) ⟨0, by omega⟩ ?_ ?_
  · simp [go_sem]
  · rintro ⟨i, hi⟩
    refine awp_sound BatchAll_T_ok.toS lv4 _ _ _ rfl ?_
    simp -implicitDefEqProofs only [cd_t, cd_f, cd_dec, cd_not, cd_and, cd_or, grd_tt, grd_ff, grd_tf, grd_ft, grd_dt, grd_df, grd_nt, grd_nf, go_sem, reduceIte, reduceCtorEq, Nat.reduceEqDiff, Nat.reduceAdd, Nat.reduceLeDiff, Nat.reduceSub, Nat.reduceMul, Nat.reduceLT, Nat.reduceShiftRight, Nat.reduceMod, Int.reduceLE, Int.reduceLT, Int.reduceToNat, decide_true, Bool.and_self, Bool.true_and, Ob.map.injEq, Ob.it.injEq, List.cons.injEq, true_and, and_true]
    refine ⟨fun h1 => ⟨by omega, ?_⟩, fun h1 => ?_⟩
    · refine ADraw.run us4_17 BatchAll_T_ok follows_mixed (by kernel_rfl) (by kernel_rfl) ?_
      simp -implicitDefEqProofs only [cd_t, cd_f, cd_dec, cd_not, cd_and, cd_or, grd_tt, grd_ff, grd_tf, grd_ft, grd_dt, grd_df, grd_nt, grd_nf, go_sem, reduceIte, reduceCtorEq, Nat.reduceEqDiff, Nat.reduceAdd, Nat.reduceLeDiff, Nat.reduceSub, Nat.reduceMul, Nat.reduceLT, Nat.reduceShiftRight, Nat.reduceMod, Int.reduceLE, Int.reduceLT, Int.reduceToNat, decide_true, Bool.and_self, Bool.true_and, Ob.map.injEq, Ob.it.injEq, List.cons.injEq, true_and, and_true]
      have hi' : i < l.length := by omega
      obtain ⟨p, hp, q1, q2, q3, q4⟩ := g7 i hi'
      have hpx : p ∈ (seqW w l).p := by
        have h3 : p ∈ pend (seqW w l).p := by rw [g6]; exact List.mem_append_right _ hp
        exact (List.mem_filter.1 h3).1
      have eg : getP (seqW w l).p ((seqI w l).getD i default) = (p, 0) := by
        rw [g5 i hi', ← q1]; exact getP_mem (agr_parts.1 g1.2.2.2.2.2.2.2).1 hpx
      have hnn := how.2.2.2.2.2.1
      unfold MM at hnn
      rw [eg, g5 i hi']
      refine ⟨fun _ => ⟨fun _ => ⟨by omega, fun _ => ⟨by omega, fun _ => ⟨fun _ => ⟨⟨i + 1, hi'⟩, by dsimp only; omega, i64_in _ (by omega)⟩, fun h => h q4⟩, fun h => h (by dsimp only; omega)⟩, fun h => h (by dsimp only; omega)⟩, fun h => h (by rw [u64_in (i : Int) (by omega), u64_in _ (by omega)]; omega)⟩, fun h => h rfl⟩
    · refine fun _ => decide_eq_true ?_
      have hnn := how.2.2.2.2.2.1
      unfold MM at hnn
      rw [u64_in (l.length : Int) (by omega), u64_in _ (by omega)]; omega
@[go_sem] def BatchAll_p (w : Wl) (l : List It) : Prop := (w.f.next ≤ 18446744073709551615 ∧ w.next ≤ 18446744073709551615)
def sp_BatchAll : List D → Option (Prop × D × Fr)
  | [.agg [.c (.sl z2), .c (.sl z3), .c (.sl z4), .c (.sl z5), .c (.int .u64 z7), .c (.sl z8), .c (.int .u64 z9), .c (.int .u64 z10)], .c (.sl z11)] => some (z2 = chs (dchs z2) ∧ z3 = wts (dwts z3) ∧ z4 = ivs (divs z4) ∧ z5 = pys (dpys z5) ∧ z7 = (z7.toNat : Int) ∧ z8 = evs (devs z8) ∧ z9 = (z9.toNat : Int) ∧ z10 = (z10.toNat : Int) ∧ z11 = its (dits z11) ∧ BatchAll_p (⟨(dchs z2), (dwts z3), (divs z4), (dpys z5), (⟨z7.toNat, (devs z8)⟩ : Fd), z9.toNat, z10.toNat⟩ : Wl) (dits z11), BatchAll_r (⟨(dchs z2), (dwts z3), (divs z4), (dpys z5), (⟨z7.toNat, (devs z8)⟩ : Fd), z9.toNat, z10.toNat⟩ : Wl) (dits z11), [])
  | _ => none
attribute [go_sem] sp_BatchAll
theorem sp_BatchAll_ok : ∀ rs p r fr, sp_BatchAll rs = some (p, r, fr) → p → FnOk Tryz.prog 4 rs r fr := by
  intro rs p r fr h hp
  unfold sp_BatchAll at h
  split at h <;> cases h
  obtain ⟨hc0, hc1, hc2, hc3, hc4, hc5, hc6, hc7, hc8, hp⟩ := hp
  rename_i z2 z3 z4 z5 z7 z8 z9 z10 z11
  obtain ⟨z2, rfl⟩ : ∃ m, z2 = chs m := ⟨_, hc0⟩
  obtain ⟨z3, rfl⟩ : ∃ m, z3 = wts m := ⟨_, hc1⟩
  obtain ⟨z4, rfl⟩ : ∃ m, z4 = ivs m := ⟨_, hc2⟩
  obtain ⟨z5, rfl⟩ : ∃ m, z5 = pys m := ⟨_, hc3⟩
  obtain ⟨z7, rfl⟩ : ∃ m : Nat, z7 = m := ⟨_, hc4⟩
  obtain ⟨z8, rfl⟩ : ∃ m, z8 = evs m := ⟨_, hc5⟩
  obtain ⟨z9, rfl⟩ : ∃ m : Nat, z9 = m := ⟨_, hc6⟩
  obtain ⟨z10, rfl⟩ : ∃ m : Nat, z10 = m := ⟨_, hc7⟩
  obtain ⟨z11, rfl⟩ : ∃ m, z11 = its m := ⟨_, hc8⟩
  simp only [Int.toNat_natCast, dchs_chs, devs_evs, dits_its, divs_ivs, dpys_pys, dwts_wts]
  simp only [Int.toNat_natCast, dchs_chs, devs_evs, dits_its, divs_ivs, dpys_pys, dwts_wts, BatchAll_p] at hp
  exact BatchAll_ok ⟨z2, z3, z4, z5, ⟨z7, z8⟩, z9, z10⟩ z11 hp
end Dm
