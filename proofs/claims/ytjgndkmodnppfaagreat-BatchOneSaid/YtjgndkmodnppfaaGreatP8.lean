import Derived.Test.YtjgndkmodnppfaaGreatP7
import Derived.Below
import Derived.ChangeOld
set_option linter.unusedSimpArgs false
set_option linter.unusedVariables false
set_option linter.unusedSectionVars false
namespace Dm
open Go
def TypFs (T : TypeId → List C → Prop) : List Field → List C → Prop
  | [], xs => xs = []
  | f :: r, xs => ∃ ys zs, xs = ys ++ zs ∧ T f.type ys ∧ TypFs T r zs
def TypR (T : List C → Prop) : Nat → List C → Prop
  | 0, xs => xs = []
  | n + 1, xs => ∃ ys zs, xs = ys ++ zs ∧ T ys ∧ TypR T n zs
def Typ (P : Program) : Nat → TypeId → List C → Prop
  | 0, _, _ => False
  | k + 1, t, xs => match P.underlying t with
    | some .bool => ∃ b, xs = [.bool b]
    | some (.int kd) => ∃ n, xs = [.int kd n] ∧ (Lit.int kd n).wf = true
    | some (.float kd) => ∃ n, xs = [.flt kd (flo kd n)] ∧ (Lit.float kd n).wf = true
    | some .string => ∃ s, xs = [.str s] ∧ s.size ≤ maxLen
    | some (.slice e) => ∃ els, xs = [.sl els] ∧ els.length ≤ maxLen ∧ ∀ x ∈ els, Typ P k e x
    | some (.struct fs) => TypFs (Typ P k) fs.toList xs
    | some (.array n e) => TypR (Typ P k e) n xs
    | _ => False
def plainFs (P : Program) (ok : TypeId → Bool) : Nat → List Field → Option Nat
  | o, [] => some o
  | o, f :: r => if f.offset = o ∧ ok f.type = true then plainFs P ok (o + P.cellsOf f.type) r else none
def plain (P : Program) : Nat → TypeId → Bool
  | 0, _ => false
  | k + 1, t => match P.underlying t with
    | some .bool => true
    | some (.int _) => true
    | some (.float _) => true
    | some .string => true
    | some (.slice e) => plain P k e && P.cellsOf e != 0
    | some (.struct fs) => plainFs P (plain P k) 0 fs.toList == some (P.cellsOf t)
    | some (.array n e) => plain P k e && n * P.cellsOf e == P.cellsOf t
    | _ => false

section
variable {H : Type} {enc : TypeId × Value → H} {P : Program} {w : World} {spare : Nat → Bool} {held : Bool}

def below (w : World) (b : Nat) : Prop := Cel w b
def Reads (w : World) (cs : List Value) (xs : List C) : Prop := xs.length = cs.length ∧ ∀ (i : Nat) (v : Value) (y : C), cs[i]? = some v → xs[i]? = some y → CRel (below w) w v y

theorem Reads.one {v : Value} {y : C} (h : CRel (below w) w v y) : Reads w [v] [y] := ⟨rfl, fun i u z hu hz => by
  cases i with
  | zero => simp at hu hz; subst hu; subst hz; exact h
  | succ i => simp at hu⟩
theorem Reads.app {cs ds : List Value} {xs ys : List C} (h : Reads w cs xs) (h' : Reads w ds ys) : Reads w (cs ++ ds) (xs ++ ys) := by
  refine ⟨by simp [h.1, h'.1], fun i v y hv hy => ?_⟩
  rw [List.getElem?_append] at hv hy
  rw [h.1] at hy
  split at hv
  · rename_i hlt; rw [if_pos hlt] at hy; exact h.2 i v y hv hy
  · rename_i hlt; rw [if_neg hlt] at hy; exact h'.2 _ v y hv hy

theorem mapM_cons_some {α β : Type} {f : α → Option β} {a : α} {l : List α} {r : List β} (h : (a :: l).mapM f = some r) : ∃ b bs, f a = some b ∧ l.mapM f = some bs ∧ r = b :: bs := by
  rw [List.mapM_cons] at h
  cases hf : f a with
  | none => simp [hf] at h
  | some b =>
    cases hl : l.mapM f with
    | none => simp [hf, hl] at h
    | some bs => simp [hf, hl] at h; exact ⟨b, bs, rfl, rfl, h.symm⟩

theorem plainFs_le {ok : TypeId → Bool} : ∀ {fs : List Field} {o e : Nat}, plainFs P ok o fs = some e → o ≤ e
  | [], o, e, h => by simp only [plainFs, Option.some.injEq] at h; omega
  | f :: r, o, e, h => by
    simp only [plainFs] at h
    split at h
    · have := plainFs_le h; omega
    · cases h

theorem fields_conv {k fuel : Nat} {cs : List Value} (IH : ∀ (t : TypeId) (cs : List Value) (x : DataW H × List MemPlace), DataW.trod enc P w 0 spare held fuel t cs = some x → plain P k t = true → ∃ xs, Typ P k t xs ∧ Reads w cs xs) :
    ∀ (fs : List Field) (o : Nat) (ys : List (DataW H × List MemPlace)), plainFs P (plain P k) o fs = some cs.length → fs.mapM (fun f => DataW.trod enc P w 0 spare held fuel f.type ((cs.drop f.offset).take (P.cellsOf f.type))) = some ys →
      ∃ xs, TypFs (Typ P k) fs xs ∧ Reads w (cs.drop o) xs
  | [], o, ys, h, _ => by
    simp only [plainFs, Option.some.injEq] at h
    exact ⟨[], rfl, by simp [Reads, h]⟩
  | f :: r, o, ys, h, hm => by
    simp only [plainFs] at h
    split at h
    · rename_i hc
      obtain ⟨hc1, hc2⟩ := hc
      have hle := plainFs_le h
      obtain ⟨b, bs, h1, h2, _⟩ := mapM_cons_some hm
      obtain ⟨xs, h3, h4⟩ := IH _ _ _ h1 hc2
      obtain ⟨zs, h5, h6⟩ := fields_conv IH r _ bs h h2
      refine ⟨xs ++ zs, ⟨xs, zs, rfl, h3, h5⟩, ?_⟩
      have e : cs.drop o = (cs.drop f.offset).take (P.cellsOf f.type) ++ cs.drop (o + P.cellsOf f.type) := by
        rw [hc1, ← List.drop_drop, List.take_append_drop]
      rw [e]
      exact h4.app h6
    · cases h

theorem array_conv {k fuel n sz : Nat} {e : TypeId} {cs : List Value} (IH : ∀ (t : TypeId) (cs : List Value) (x : DataW H × List MemPlace), DataW.trod enc P w 0 spare held fuel t cs = some x → plain P k t = true → ∃ xs, Typ P k t xs ∧ Reads w cs xs) (he : plain P k e = true) :
    ∀ (m j : Nat), j + m = n → n * sz = cs.length → (∀ i, i < n → ∃ x, DataW.trod enc P w 0 spare held fuel e ((cs.drop (i * sz)).take sz) = some x) → ∃ xs, TypR (Typ P k e) m xs ∧ Reads w (cs.drop (j * sz)) xs
  | 0, j, hj, hn, _ => ⟨[], rfl, by
      have : j = n := by omega
      subst this
      simp [Reads, hn]⟩
  | m + 1, j, hj, hn, hall => by
    obtain ⟨x, hx⟩ := hall j (by omega)
    obtain ⟨xs, h3, h4⟩ := IH _ _ _ hx he
    obtain ⟨zs, h5, h6⟩ := array_conv IH he m (j + 1) (by omega) hn hall
    refine ⟨xs ++ zs, ⟨xs, zs, rfl, h3, h5⟩, ?_⟩
    have e : cs.drop (j * sz) = (cs.drop (j * sz)).take sz ++ cs.drop ((j + 1) * sz) := by
      rw [Nat.add_mul, Nat.one_mul, ← List.drop_drop, List.take_append_drop]
    rw [e]
    exact h4.app h6

theorem mapM_range_get {β : Type} {f : Nat → Option β} {n : Nat} {r : List β} (h : (List.range n).mapM f = some r) (i : Nat) (hi : i < n) : ∃ y, f i = some y ∧ r[i]? = some y := by
  have key : ∀ (l : List Nat) (r : List β), l.mapM f = some r → ∀ (i x : Nat), l[i]? = some x → ∃ y, f x = some y ∧ r[i]? = some y := by
    intro l
    induction l with
    | nil => intro r _ i x hx; simp at hx
    | cons a l ih =>
      intro r hr i x hx
      obtain ⟨b, bs, h1, h2, rfl⟩ := mapM_cons_some hr
      cases i with
      | zero => simp at hx; subst hx; exact ⟨b, h1, rfl⟩
      | succ i => exact ih bs h2 i x (by simpa using hx)
  exact key _ _ h i i (by simp [hi])

theorem mapM_len {α β : Type} {f : α → Option β} : ∀ {l : List α} {r : List β}, l.mapM f = some r → r.length = l.length
  | [], r, h => by simp at h; simp [h]
  | a :: l, r, h => by
    obtain ⟨b, bs, _, h2, rfl⟩ := mapM_cons_some h
    simp [mapM_len h2]

theorem trod_conv : ∀ (fuel k : Nat) (t : TypeId) (cs : List Value) (x : DataW H × List MemPlace), DataW.trod enc P w 0 spare held fuel t cs = some x → plain P k t = true → ∃ xs, Typ P k t xs ∧ Reads w cs xs
  | 0, k, t, cs, x, h, _ => by simp [DataW.trod] at h
  | fuel + 1, 0, t, cs, x, h, hp => by cases hp
  | fuel + 1, k + 1, t, cs, x, h, hp => by
    have IH := fun t cs x => trod_conv fuel k t cs x
    simp only [plain] at hp
    simp only [Typ]
    unfold DataW.trod at h
    split at h
    · rename_i b hu; rw [hu]; exact ⟨[.bool b], ⟨b, rfl⟩, .one (.bool b)⟩
    · rename_i kd k' n hu
      rw [hu]
      split at h
      · rename_i hc; obtain ⟨rfl, hc⟩ := hc
        exact ⟨[.int _ n], ⟨n, rfl, hc⟩, .one (.int _ n)⟩
      · cases h
    · rename_i kd k' n hu
      rw [hu]
      split at h
      · rename_i hc; obtain ⟨rfl, hc⟩ := hc
        exact ⟨[.flt _ (flo _ n)], ⟨n, rfl, hc⟩, .one (.flt _ n)⟩
      · cases h
    · rename_i s hu
      rw [hu]
      split at h
      · rename_i hc
        exact ⟨[.str s], ⟨s, rfl, hc⟩, .one (.str s)⟩
      · cases h
    · rename_i hu; rw [hu] at hp; cases hp
    · rename_i hu; rw [hu] at hp; cases hp
    · rename_i e hu
      rw [hu]
      exact ⟨[.sl []], ⟨[], rfl, by simp, by simp⟩, .one (.slnil _ _ (by simp [maxLen]))⟩
    · rename_i e a len cap hu
      rw [hu] at hp ⊢
      simp only [Bool.and_eq_true, bne_iff_ne, ne_eq] at hp
      obtain ⟨hp1, hp2⟩ := hp
      split at h
      · rename_i hc
        obtain ⟨_, hlc, hcm⟩ := hc
        cases hm : (List.range len).mapM (fun i => (w.cells? 0 (a.add (i * P.cellsOf e)) (P.cellsOf e)).bind (DataW.trod enc P w 0 spare held fuel e)) with
        | none => dsimp only at h; rw [hm] at h; cases h
        | some elems =>
          have hel : ∀ i, i < len → ∃ ci xi, w.cells? 0 (a.add (i * P.cellsOf e)) (P.cellsOf e) = some ci ∧ Typ P k e xi ∧ Reads w ci xi := by
            intro i hi
            obtain ⟨y, h1, _⟩ := mapM_range_get hm i hi
            cases hcs : w.cells? 0 (a.add (i * P.cellsOf e)) (P.cellsOf e) with
            | none => rw [hcs] at h1; cases h1
            | some ci =>
              rw [hcs] at h1
              obtain ⟨xi, h2, h3⟩ := IH e ci y h1 hp1
              exact ⟨ci, xi, rfl, h2, h3⟩
          have hch : ∃ (cf : Nat → List Value) (xf : Nat → List C), ∀ i, i < len → w.cells? 0 (a.add (i * P.cellsOf e)) (P.cellsOf e) = some (cf i) ∧ Typ P k e (xf i) ∧ Reads w (cf i) (xf i) := by
            refine ⟨fun i => if h : i < len then (hel i h).choose else [], fun i => if h : i < len then (hel i h).choose_spec.choose else [], fun i hi => ?_⟩
            simp only [dif_pos hi]
            exact (hel i hi).choose_spec.choose_spec
          obtain ⟨cf, xf, hf⟩ := hch
          have hlen : ∀ i, i < len → (cf i).length = P.cellsOf e ∧ ∀ j, j < P.cellsOf e → w.cell? ((a.add (i * P.cellsOf e)).add j) = (cf i)[j]? := by
            intro i hi
            have h1 := (hf i hi).1
            unfold World.cells? at h1
            rw [if_pos (Nat.zero_le _)] at h1
            refine ⟨by have := mapM_len h1; simpa using this, fun j hj => ?_⟩
            obtain ⟨y, h2, h3⟩ := mapM_range_get h1 j hj
            rw [h2, h3]
          refine ⟨[.sl ((List.range len).map xf)], ⟨_, rfl, by simp; omega, fun x hx => ?_⟩, .one ?_⟩
          · obtain ⟨i, hi, rfl⟩ := List.mem_map.1 hx
            exact (hf i (by simpa using hi)).2.1
          · by_cases h0 : len = 0
            · subst h0; exact .slnil _ _ hcm
            · have h00 := (hlen 0 (by omega))
              have hpos : 0 < P.cellsOf e := by omega
              have hc0 := h00.2 0 hpos
              have hs : ∃ v, w.cell? a = some v := by
                have : (cf 0)[0]? = some ((cf 0)[0]'(by omega)) := List.getElem?_eq_getElem _
                rw [this] at hc0
                simp only [Nat.zero_mul, Addr.add, Nat.add_zero] at hc0
                exact ⟨_, hc0⟩
              obtain ⟨v0, hv0⟩ := hs
              have hspot : a.spot = none ∧ Cel w a.block := by
                unfold World.cell? at hv0
                split at hv0
                · rename_i c _ _ hb
                  split at hv0
                  · cases hv0
                  · rename_i hsp
                    exact ⟨by simpa using hsp, .of hb⟩
                · cases hv0
              obtain ⟨ab, ao, asp⟩ := a
              simp only at hspot
              obtain ⟨rfl, hb⟩ := hspot
              have he : len = ((List.range len).map xf).length := by simp
              have hget : ∀ (i : Nat) (x : List C), ((List.range len).map xf)[i]? = some x → i < len ∧ x = xf i := fun i x hx => by
                simp only [List.getElem?_map, Option.map_eq_some_iff] at hx
                obtain ⟨j, hj, rfl⟩ := hx
                have := List.getElem?_eq_some_iff.1 hj
                obtain ⟨h1, h2⟩ := this
                simp at h1 h2
                subst h2
                exact ⟨h1, rfl⟩
              conv => arg 3; rw [he]
              refine .sl ab ao cap (P.cellsOf e) _ (fun i j => (cf i).getD j .nilFunc) hb (by simpa using hlc) hcm (fun x hx => ?_) (fun i j x y hx hy => ?_) (fun i j x y hx hy => ?_)
              · obtain ⟨i, hi, rfl⟩ := List.mem_map.1 hx
                have hi : i < len := by simpa using hi
                rw [(hf i hi).2.2.1, (hlen i hi).1]
              · obtain ⟨hi, rfl⟩ := hget i x hx
                have hj : j < (cf i).length := by
                  rw [← (hf i hi).2.2.1]
                  exact (List.getElem?_eq_some_iff.1 hy).1
                have h1 := (hlen i hi).2 j (by rw [← (hlen i hi).1]; exact hj)
                rw [addr_add, addr_add] at h1
                rw [h1, List.getD_eq_getElem?_getD, List.getElem?_eq_getElem hj]
                rfl
              · obtain ⟨hi, rfl⟩ := hget i x hx
                have hj : j < (cf i).length := by
                  rw [← (hf i hi).2.2.1]
                  exact (List.getElem?_eq_some_iff.1 hy).1
                refine (hf i hi).2.2.2 j _ y ?_ hy
                rw [List.getD_eq_getElem?_getD, List.getElem?_eq_getElem hj]
                rfl
      · cases h
    · rename_i cs0 _ _ fs hu
      rw [hu] at hp ⊢
      split at h
      · rename_i hc
        simp only [beq_iff_eq] at hp
        rw [← hc] at hp
        cases hm : fs.toList.mapM (fun f => DataW.trod enc P w 0 spare held fuel f.type ((cs0.drop f.offset).take (P.cellsOf f.type))) with
        | none => rw [hm] at h; simp at h
        | some ys =>
          obtain ⟨xs, h1, h2⟩ := fields_conv IH fs.toList 0 ys hp hm
          exact ⟨xs, h1, by simpa using h2⟩
      · cases h
    · rename_i cs0 _ _ n e hu
      rw [hu] at hp ⊢
      simp only [Bool.and_eq_true, beq_iff_eq] at hp
      split at h
      · rename_i hc
        cases hm : (List.range n).mapM (fun i => DataW.trod enc P w 0 spare held fuel e ((cs0.drop (i * P.cellsOf e)).take (P.cellsOf e))) with
        | none => rw [hm] at h; simp at h
        | some ys =>
          obtain ⟨xs, h1, h2⟩ := array_conv (n := n) (sz := P.cellsOf e) (cs := cs0) IH hp.1 n 0 (by omega) (by rw [hp.2, hc]) (fun i hi => by
            obtain ⟨y, h3, _⟩ := mapM_range_get hm i hi
            exact ⟨y, h3⟩)
          exact ⟨xs, h1, by simpa using h2⟩
      · cases h
    all_goals (rename_i hu; first | (rw [hu] at hp; cases hp; done) | (cases h; done) | skip)

def one1 : List C → D
  | [x] => .c x
  | _ => .undef
def argD (P : Program) (t : TypeId) (xs : List C) : D := match P.underlying t with
  | some (.struct _) => .agg (xs.map .c)
  | some (.array _ _) => .agg (xs.map .c)
  | _ => one1 xs
theorem Reads.agg {cs : Array Value} {xs : List C} (h : Reads w cs.toList xs) : VRel (G0 (below w)) w (.agg cs) (.agg (xs.map .c)) := by
  refine .agg cs _ (by simpa using h.1.symm) fun i v d hv hd => ?_
  simp only [List.getElem?_map, Option.map_eq_some_iff] at hd
  obtain ⟨y, hy, rfl⟩ := hd
  exact .c _ _ (h.2 i v y (by simpa using hv) hy)
theorem arg_conv {r : Reach} {base k : Nat} {t : TypeId} {v : Value} {d : DataW H} {ps : List MemPlace} (hv : Value.okWide P w r base t v) (h : DataW.Trod enc P w 0 spare held t v d ps) (hp : plain P k t = true) :
    ∃ xs, Typ P k t xs ∧ VRel (G0 (below w)) w v (argD P t xs) := by
  obtain ⟨fuel, h⟩ := h
  obtain ⟨xs, h1, h2⟩ := trod_conv fuel k t _ _ h hp
  refine ⟨xs, h1, ?_⟩
  have one : ∀ (hc : v.cells = #[v]), VRel (G0 (below w)) w v (one1 xs) := by
    intro hc
    rw [hc] at h2
    match xs, h2 with
    | [], _ => exact .undef _
    | [x], h2 => exact .c _ _ (h2.2 0 v x rfl rfl)
    | _ :: _ :: _, _ => exact .undef _
  unfold argD
  unfold Value.okWide at hv
  split
  · rename_i fs hu
    rw [hu] at hv
    obtain ⟨cs, rfl, _⟩ := hv
    exact h2.agg
  · rename_i n e hu
    rw [hu] at hv
    obtain ⟨cs, rfl, _⟩ := hv
    exact h2.agg
  · rename_i hn1 hn2
    refine one ?_
    cases v <;> try rfl
    rename_i cs
    exfalso
    cases k with
    | zero => cases hp
    | succ k =>
      simp only [plain] at hp
      split at hv
      · rename_i fs hu; exact hn1 fs hu
      · rename_i n e hu; exact hn2 n e hu
      · unfold Cell.okWide at hv
        split at hp <;> rename_i hu <;> first | (rw [hu] at hv; simp [Cell.ok, hu] at hv; done) | (exact absurd hu (hn1 _)) | (exact absurd hu (hn2 _ _)) | cases hp
theorem below_of (w w' : World) (h : Ext w w') : RowKit.Below w.heap.size w w' := ⟨h.2.2.os, h.2.2.tape, h.2.2.out, h.1, h.2.1⟩
end
end Dm
namespace Dm
open Go Go.Proofs
set_option maxRecDepth 20000
theorem wf_u64 {n : Int} (h : (Lit.int .u64 n).wf = true) : 0 ≤ n ∧ n ≤ 18446744073709551615 := by
  simp [Lit.wf, IntKind.min, IntKind.max, IntKind.bits, IntKind.signed] at h
  omega
theorem wf_i64 {n : Int} (h : (Lit.int .i64 n).wf = true) : -9223372036854775808 ≤ n ∧ n ≤ 9223372036854775807 := by
  simp [Lit.wf, IntKind.min, IntKind.max, IntKind.bits, IntKind.signed] at h
  omega
theorem typ26 {k : Nat} {xs : List C} (h : Typ Tryz.prog (k + 1) 26 xs) : ∃ n : Nat, xs = [.int .u64 (n : Int)] ∧ n ≤ 18446744073709551615 := by
  simp only [Typ, Tryz.underlying26] at h
  obtain ⟨n, rfl, h1⟩ := h
  have := wf_u64 h1
  exact ⟨n.toNat, by rw [Int.toNat_of_nonneg (by omega)], by omega⟩
theorem typ3 {k : Nat} {xs : List C} (h : Typ Tryz.prog (k + 1) 3 xs) : ∃ n : Int, xs = [.int .i64 n] ∧ -9223372036854775808 ≤ n ∧ n ≤ 9223372036854775807 := by
  simp only [Typ, Tryz.underlying3] at h
  obtain ⟨n, rfl, h1⟩ := h
  have := wf_i64 h1
  exact ⟨n, rfl, by omega, by omega⟩
theorem typ4 {k : Nat} {xs : List C} (h : Typ Tryz.prog (k + 1) 4 xs) : ∃ b, xs = [.bool b] := by
  simp only [Typ, Tryz.underlying4] at h
  exact h
theorem typ101 {k : Nat} {xs : List C} (h : Typ Tryz.prog (k + 1) 101 xs) : ∃ n, xs = [.flt .f64 n] := by
  simp only [Typ, Tryz.underlying101] at h
  obtain ⟨n, rfl, _⟩ := h
  exact ⟨_, rfl⟩
theorem typ35 {k : Nat} {xs : List C} (h : Typ Tryz.prog (k + 2) 35 xs) : ∃ l, xs = [.sl (u64s l)] ∧ ∀ e ∈ l, e ≤ 18446744073709551615 := by
  simp only [Typ, Tryz.underlying35] at h
  obtain ⟨els, rfl, _, h2⟩ := h
  have h3 := fun x hx => typ26 (k := k) (h2 x hx)
  have : ∀ els : List (List C), (∀ x ∈ els, Typ Tryz.prog (k + 1) 26 x) → ∃ l : List Nat, els = u64s l ∧ ∀ e ∈ l, e ≤ 18446744073709551615 := by
    intro els
    induction els with
    | nil => exact fun _ => ⟨[], rfl, by simp⟩
    | cons x t ih =>
      intro h3
      obtain ⟨l, h4, h5⟩ := ih (fun y hy => h3 y (List.mem_cons_of_mem _ hy))
      obtain ⟨n, rfl, h6⟩ := typ26 (k := k) (h3 x (List.mem_cons_self ..))
      subst h4
      exact ⟨n :: l, rfl, fun e he => (List.mem_cons.1 he).elim (fun h => by rw [h]; exact h6) (h5 e)⟩
  obtain ⟨l, rfl, h⟩ := this els h2
  exact ⟨l, rfl, h⟩
def Hd.rng (e : Hd) : Prop := e.id ≤ 18446744073709551615 ∧ e.n ≤ 18446744073709551615
theorem typ151 {k : Nat} {xs : List C} (h : Typ Tryz.prog (k + 2) 151 xs) : (Hd.dec xs).enc = xs ∧ (Hd.dec xs).rng := by
  simp only [Typ, Tryz.underlying151, TypFs, Tryz.underlying26] at h
  obtain ⟨_, _, rfl, ⟨s0, rfl, h0⟩, _, _, rfl, ⟨s1, rfl, h1⟩, rfl⟩ := h
  have q0 := wf_u64 h0
  have q1 := wf_u64 h1
  simp only [List.cons_append, List.nil_append, List.append_nil]
  refine ⟨by simp [Hd.dec, Hd.enc, Int.toNat_of_nonneg q0.1, Int.toNat_of_nonneg q1.1], ?_⟩
  simp only [Hd.dec, Hd.rng]
  exact ⟨by omega, by omega⟩
theorem hds_dhds {els : List (List C)} (h : ∀ x ∈ els, (Hd.dec x).enc = x) : hds (dhds els) = els := by
  simp only [hds, dhds, List.map_map]
  refine (List.map_congr_left fun x hx => ?_).trans (List.map_id _)
  exact h x hx
theorem typ65 {k : Nat} {xs : List C} (h : Typ Tryz.prog (k + 3) 65 xs) : ∃ l, xs = [.sl (hds l)] ∧ ∀ e ∈ l, e.rng := by
  simp only [Typ, Tryz.underlying65] at h
  obtain ⟨els, rfl, _, h2⟩ := h
  have h3 : ∀ x ∈ els, (Hd.dec x).enc = x ∧ (Hd.dec x).rng := fun x hx => typ151 (k := k) (h2 x hx)
  refine ⟨dhds els, by rw [hds_dhds fun x hx => (h3 x hx).1], fun e he => ?_⟩
  obtain ⟨x, hx, rfl⟩ := List.mem_map.1 he
  exact (h3 x hx).2
def Ch.rng (e : Ch) : Prop := e.id ≤ 18446744073709551615 ∧ e.loc ≤ 18446744073709551615 ∧ e.rem ≤ 18446744073709551615 ∧ e.res ≤ 18446744073709551615 ∧ e.most ≤ 18446744073709551615 ∧ (∀ q ∈ e.holds, q.rng) ∧ True
theorem typ67 {k : Nat} {xs : List C} (h : Typ Tryz.prog (k + 4) 67 xs) : (Ch.dec xs).enc = xs ∧ (Ch.dec xs).rng := by
  simp only [Typ, Tryz.underlying67, TypFs, Tryz.underlying4, Tryz.underlying26] at h
  obtain ⟨_, _, rfl, ⟨s0, rfl, h0⟩, _, _, rfl, ⟨s1, rfl, h1⟩, _, _, rfl, ⟨s2, rfl, h2⟩, _, _, rfl, ⟨s3, rfl, h3⟩, _, _, rfl, ⟨s4, rfl, h4⟩, _, _, rfl, hs5, _, _, rfl, ⟨s6, rfl⟩, rfl⟩ := h
  have q0 := wf_u64 h0
  have q1 := wf_u64 h1
  have q2 := wf_u64 h2
  have q3 := wf_u64 h3
  have q4 := wf_u64 h4
  obtain ⟨s5, rfl, q5⟩ := typ65 (k := k + 0) hs5
  simp only [List.cons_append, List.nil_append, List.append_nil]
  refine ⟨by simp [Ch.dec, Ch.enc, Int.toNat_of_nonneg q0.1, Int.toNat_of_nonneg q1.1, Int.toNat_of_nonneg q2.1, Int.toNat_of_nonneg q3.1, Int.toNat_of_nonneg q4.1, dhds_hds], ?_⟩
  simp only [Ch.dec, Ch.rng, dhds_hds]
  exact ⟨by omega, by omega, by omega, by omega, by omega, q5, trivial⟩
theorem chs_dchs {els : List (List C)} (h : ∀ x ∈ els, (Ch.dec x).enc = x) : chs (dchs els) = els := by
  simp only [chs, dchs, List.map_map]
  refine (List.map_congr_left fun x hx => ?_).trans (List.map_id _)
  exact h x hx
theorem typ22 {k : Nat} {xs : List C} (h : Typ Tryz.prog (k + 5) 22 xs) : ∃ l, xs = [.sl (chs l)] ∧ ∀ e ∈ l, e.rng := by
  simp only [Typ, Tryz.underlying22] at h
  obtain ⟨els, rfl, _, h2⟩ := h
  have h3 : ∀ x ∈ els, (Ch.dec x).enc = x ∧ (Ch.dec x).rng := fun x hx => typ67 (k := k) (h2 x hx)
  refine ⟨dchs els, by rw [chs_dchs fun x hx => (h3 x hx).1], fun e he => ?_⟩
  obtain ⟨x, hx, rfl⟩ := List.mem_map.1 he
  exact (h3 x hx).2
def Wt.rng (e : Wt) : Prop := e.id ≤ 18446744073709551615 ∧ True
theorem typ103 {k : Nat} {xs : List C} (h : Typ Tryz.prog (k + 2) 103 xs) : (Wt.dec xs).enc = xs ∧ (Wt.dec xs).rng := by
  simp only [Typ, Tryz.underlying103, TypFs, Tryz.underlying26, Tryz.underlying101] at h
  obtain ⟨_, _, rfl, ⟨s0, rfl, h0⟩, _, _, rfl, ⟨s1, rfl, h1⟩, rfl⟩ := h
  have q0 := wf_u64 h0
  simp only [List.cons_append, List.nil_append, List.append_nil]
  refine ⟨by simp [Wt.dec, Wt.enc, Int.toNat_of_nonneg q0.1], ?_⟩
  simp only [Wt.dec, Wt.rng]
  exact ⟨by omega, trivial⟩
theorem wts_dwts {els : List (List C)} (h : ∀ x ∈ els, (Wt.dec x).enc = x) : wts (dwts els) = els := by
  simp only [wts, dwts, List.map_map]
  refine (List.map_congr_left fun x hx => ?_).trans (List.map_id _)
  exact h x hx
theorem typ23 {k : Nat} {xs : List C} (h : Typ Tryz.prog (k + 3) 23 xs) : ∃ l, xs = [.sl (wts l)] ∧ ∀ e ∈ l, e.rng := by
  simp only [Typ, Tryz.underlying23] at h
  obtain ⟨els, rfl, _, h2⟩ := h
  have h3 : ∀ x ∈ els, (Wt.dec x).enc = x ∧ (Wt.dec x).rng := fun x hx => typ103 (k := k) (h2 x hx)
  refine ⟨dwts els, by rw [wts_dwts fun x hx => (h3 x hx).1], fun e he => ?_⟩
  obtain ⟨x, hx, rfl⟩ := List.mem_map.1 he
  exact (h3 x hx).2
def Iv.rng (e : Iv) : Prop := e.hash ≤ 18446744073709551615 ∧ e.n ≤ 18446744073709551615 ∧ e.till ≤ 18446744073709551615 ∧ (-9223372036854775808 ≤ e.state ∧ e.state ≤ 9223372036854775807)
theorem typ139 {k : Nat} {xs : List C} (h : Typ Tryz.prog (k + 2) 139 xs) : (Iv.dec xs).enc = xs ∧ (Iv.dec xs).rng := by
  simp only [Typ, Tryz.underlying139, TypFs, Tryz.underlying3, Tryz.underlying26] at h
  obtain ⟨_, _, rfl, ⟨s0, rfl, h0⟩, _, _, rfl, ⟨s1, rfl, h1⟩, _, _, rfl, ⟨s2, rfl, h2⟩, _, _, rfl, ⟨s3, rfl, h3⟩, rfl⟩ := h
  have q0 := wf_u64 h0
  have q1 := wf_u64 h1
  have q2 := wf_u64 h2
  have q3 := wf_i64 h3
  simp only [List.cons_append, List.nil_append, List.append_nil]
  refine ⟨by simp [Iv.dec, Iv.enc, Int.toNat_of_nonneg q0.1, Int.toNat_of_nonneg q1.1, Int.toNat_of_nonneg q2.1], ?_⟩
  simp only [Iv.dec, Iv.rng]
  exact ⟨by omega, by omega, by omega, ⟨by omega, by omega⟩⟩
theorem ivs_divs {els : List (List C)} (h : ∀ x ∈ els, (Iv.dec x).enc = x) : ivs (divs els) = els := by
  simp only [ivs, divs, List.map_map]
  refine (List.map_congr_left fun x hx => ?_).trans (List.map_id _)
  exact h x hx
theorem typ24 {k : Nat} {xs : List C} (h : Typ Tryz.prog (k + 3) 24 xs) : ∃ l, xs = [.sl (ivs l)] ∧ ∀ e ∈ l, e.rng := by
  simp only [Typ, Tryz.underlying24] at h
  obtain ⟨els, rfl, _, h2⟩ := h
  have h3 : ∀ x ∈ els, (Iv.dec x).enc = x ∧ (Iv.dec x).rng := fun x hx => typ139 (k := k) (h2 x hx)
  refine ⟨divs els, by rw [ivs_divs fun x hx => (h3 x hx).1], fun e he => ?_⟩
  obtain ⟨x, hx, rfl⟩ := List.mem_map.1 he
  exact (h3 x hx).2
def Py.rng (e : Py) : Prop := e.id ≤ 18446744073709551615 ∧ e.hash ≤ 18446744073709551615 ∧ e.chan ≤ 18446744073709551615 ∧ e.n ≤ 18446744073709551615 ∧ (-9223372036854775808 ≤ e.state ∧ e.state ≤ 9223372036854775807)
theorem typ50 {k : Nat} {xs : List C} (h : Typ Tryz.prog (k + 2) 50 xs) : (Py.dec xs).enc = xs ∧ (Py.dec xs).rng := by
  simp only [Typ, Tryz.underlying50, TypFs, Tryz.underlying3, Tryz.underlying26] at h
  obtain ⟨_, _, rfl, ⟨s0, rfl, h0⟩, _, _, rfl, ⟨s1, rfl, h1⟩, _, _, rfl, ⟨s2, rfl, h2⟩, _, _, rfl, ⟨s3, rfl, h3⟩, _, _, rfl, ⟨s4, rfl, h4⟩, rfl⟩ := h
  have q0 := wf_u64 h0
  have q1 := wf_u64 h1
  have q2 := wf_u64 h2
  have q3 := wf_u64 h3
  have q4 := wf_i64 h4
  simp only [List.cons_append, List.nil_append, List.append_nil]
  refine ⟨by simp [Py.dec, Py.enc, Int.toNat_of_nonneg q0.1, Int.toNat_of_nonneg q1.1, Int.toNat_of_nonneg q2.1, Int.toNat_of_nonneg q3.1], ?_⟩
  simp only [Py.dec, Py.rng]
  exact ⟨by omega, by omega, by omega, by omega, ⟨by omega, by omega⟩⟩
theorem pys_dpys {els : List (List C)} (h : ∀ x ∈ els, (Py.dec x).enc = x) : pys (dpys els) = els := by
  simp only [pys, dpys, List.map_map]
  refine (List.map_congr_left fun x hx => ?_).trans (List.map_id _)
  exact h x hx
theorem typ25 {k : Nat} {xs : List C} (h : Typ Tryz.prog (k + 3) 25 xs) : ∃ l, xs = [.sl (pys l)] ∧ ∀ e ∈ l, e.rng := by
  simp only [Typ, Tryz.underlying25] at h
  obtain ⟨els, rfl, _, h2⟩ := h
  have h3 : ∀ x ∈ els, (Py.dec x).enc = x ∧ (Py.dec x).rng := fun x hx => typ50 (k := k) (h2 x hx)
  refine ⟨dpys els, by rw [pys_dpys fun x hx => (h3 x hx).1], fun e he => ?_⟩
  obtain ⟨x, hx, rfl⟩ := List.mem_map.1 he
  exact (h3 x hx).2
def Ev.rng (e : Ev) : Prop := e.seq ≤ 18446744073709551615 ∧ (-9223372036854775808 ≤ e.kind ∧ e.kind ≤ 9223372036854775807) ∧ e.a ≤ 18446744073709551615 ∧ e.n ≤ 18446744073709551615
theorem typ146 {k : Nat} {xs : List C} (h : Typ Tryz.prog (k + 2) 146 xs) : (Ev.dec xs).enc = xs ∧ (Ev.dec xs).rng := by
  simp only [Typ, Tryz.underlying146, TypFs, Tryz.underlying3, Tryz.underlying26] at h
  obtain ⟨_, _, rfl, ⟨s0, rfl, h0⟩, _, _, rfl, ⟨s1, rfl, h1⟩, _, _, rfl, ⟨s2, rfl, h2⟩, _, _, rfl, ⟨s3, rfl, h3⟩, rfl⟩ := h
  have q0 := wf_u64 h0
  have q1 := wf_i64 h1
  have q2 := wf_u64 h2
  have q3 := wf_u64 h3
  simp only [List.cons_append, List.nil_append, List.append_nil]
  refine ⟨by simp [Ev.dec, Ev.enc, Int.toNat_of_nonneg q0.1, Int.toNat_of_nonneg q2.1, Int.toNat_of_nonneg q3.1], ?_⟩
  simp only [Ev.dec, Ev.rng]
  exact ⟨by omega, ⟨by omega, by omega⟩, by omega, by omega⟩
theorem evs_devs {els : List (List C)} (h : ∀ x ∈ els, (Ev.dec x).enc = x) : evs (devs els) = els := by
  simp only [evs, devs, List.map_map]
  refine (List.map_congr_left fun x hx => ?_).trans (List.map_id _)
  exact h x hx
theorem typ27 {k : Nat} {xs : List C} (h : Typ Tryz.prog (k + 3) 27 xs) : ∃ l, xs = [.sl (evs l)] ∧ ∀ e ∈ l, e.rng := by
  simp only [Typ, Tryz.underlying27] at h
  obtain ⟨els, rfl, _, h2⟩ := h
  have h3 : ∀ x ∈ els, (Ev.dec x).enc = x ∧ (Ev.dec x).rng := fun x hx => typ146 (k := k) (h2 x hx)
  refine ⟨devs els, by rw [evs_devs fun x hx => (h3 x hx).1], fun e he => ?_⟩
  obtain ⟨x, hx, rfl⟩ := List.mem_map.1 he
  exact (h3 x hx).2
def Fd.rng (e : Fd) : Prop := e.next ≤ 18446744073709551615 ∧ (∀ q ∈ e.l, q.rng)
theorem typ29 {k : Nat} {xs : List C} (h : Typ Tryz.prog (k + 4) 29 xs) : (Fd.dec xs).enc = xs ∧ (Fd.dec xs).rng := by
  simp only [Typ, Tryz.underlying29, TypFs, Tryz.underlying26] at h
  obtain ⟨_, _, rfl, ⟨s0, rfl, h0⟩, _, _, rfl, hs1, rfl⟩ := h
  have q0 := wf_u64 h0
  obtain ⟨s1, rfl, q1⟩ := typ27 (k := k + 0) hs1
  simp only [List.cons_append, List.nil_append, List.append_nil]
  refine ⟨by simp [Fd.dec, Fd.enc, Int.toNat_of_nonneg q0.1, devs_evs], ?_⟩
  simp only [Fd.dec, Fd.rng, devs_evs]
  exact ⟨by omega, q1⟩
def Wl.rng (w : Wl) : Prop := (∀ e ∈ w.c, e.rng) ∧ (∀ e ∈ w.w, e.rng) ∧ (∀ e ∈ w.i, e.rng) ∧ (∀ e ∈ w.p, e.rng) ∧ w.f.rng ∧ w.next ≤ 18446744073709551615 ∧ w.tick ≤ 18446744073709551615
theorem typ31x {k : Nat} {xs : List C} (h : Typ Tryz.prog (k + 6) 31 xs) : ∃ w : Wl, xs = w.enc ∧ w.rng := by
  rw [show k + 6 = (k + 5) + 1 from rfl, Typ, Tryz.underlying31] at h
  simp only [TypFs] at h
  obtain ⟨_, _, rfl, h0, _, _, rfl, h1, _, _, rfl, h2, _, _, rfl, h3, _, _, rfl, h4, _, _, rfl, h5, _, _, rfl, h6, rfl⟩ := h
  obtain ⟨c, rfl, q0⟩ := typ22 (k := k) h0
  obtain ⟨w, rfl, q1⟩ := typ23 (k := k + 2) h1
  obtain ⟨i, rfl, q2⟩ := typ24 (k := k + 2) h2
  obtain ⟨p, rfl, q3⟩ := typ25 (k := k + 2) h3
  obtain ⟨e4, q4⟩ := typ29 (k := k + 1) h4
  obtain ⟨n, rfl, q5⟩ := typ26 (k := k + 4) h5
  obtain ⟨t, rfl, q6⟩ := typ26 (k := k + 4) h6
  refine ⟨⟨c, w, i, p, Fd.dec _, n, t⟩, ?_, q0, q1, q2, q3, q4, q5, q6⟩
  rw [← e4]
  simp [Wl.enc, Fd.enc, Fd.dec, devs_evs]
def It.rng (e : It) : Prop := e.hash ≤ 18446744073709551615 ∧ e.n ≤ 18446744073709551615
theorem typ44 {k : Nat} {xs : List C} (h : Typ Tryz.prog (k + 2) 44 xs) : (It.dec xs).enc = xs ∧ (It.dec xs).rng := by
  simp only [Typ, Tryz.underlying44, TypFs, Tryz.underlying26] at h
  obtain ⟨_, _, rfl, ⟨s0, rfl, h0⟩, _, _, rfl, ⟨s1, rfl, h1⟩, rfl⟩ := h
  have q0 := wf_u64 h0
  have q1 := wf_u64 h1
  simp only [List.cons_append, List.nil_append, List.append_nil]
  refine ⟨by simp [It.dec, It.enc, Int.toNat_of_nonneg q0.1, Int.toNat_of_nonneg q1.1], ?_⟩
  simp only [It.dec, It.rng]
  exact ⟨by omega, by omega⟩
theorem its_dits {els : List (List C)} (h : ∀ x ∈ els, (It.dec x).enc = x) : its (dits els) = els := by
  simp only [its, dits, List.map_map]
  refine (List.map_congr_left fun x hx => ?_).trans (List.map_id _)
  exact h x hx
theorem typ32 {k : Nat} {xs : List C} (h : Typ Tryz.prog (k + 3) 32 xs) : ∃ l, xs = [.sl (its l)] ∧ ∀ e ∈ l, e.rng := by
  simp only [Typ, Tryz.underlying32] at h
  obtain ⟨els, rfl, _, h2⟩ := h
  have h3 : ∀ x ∈ els, (It.dec x).enc = x ∧ (It.dec x).rng := fun x hx => typ44 (k := k) (h2 x hx)
  refine ⟨dits els, by rw [its_dits fun x hx => (h3 x hx).1], fun e he => ?_⟩
  obtain ⟨x, hx, rfl⟩ := List.mem_map.1 he
  exact (h3 x hx).2
end Dm
namespace Dm
open Go Go.Proofs
set_option maxRecDepth 20000
theorem wf_u8 {n : Int} (h : (Lit.int .u8 n).wf = true) : 0 ≤ n ∧ n ≤ 255 := by
  simp [Lit.wf, IntKind.min, IntKind.max, IntKind.bits, IntKind.signed] at h
  omega
theorem typ5 {k : Nat} {xs : List C} (h : Typ Tryz.prog (k + 1) 5 xs) : ∃ n : Nat, xs = [.int .u8 (n : Int)] ∧ n ≤ 255 := by
  simp only [Typ, Tryz.underlying5] at h
  obtain ⟨n, rfl, h1⟩ := h
  have := wf_u8 h1
  exact ⟨n.toNat, by rw [Int.toNat_of_nonneg (by omega)], by omega⟩
end Dm
namespace Dm
open Go Go.Proofs Go.IntWalk
@[go_sem] theorem Hd.eqD {a b : Hd} : eqD Tryz.prog 151 [D.c (.int .u64 (a.id : Int)), D.c (.int .u64 (a.n : Int))] [D.c (.int .u64 (b.id : Int)), D.c (.int .u64 (b.n : Int))] = some (decide (a = b)) := by
  cases a; cases b
  simp only [Dm.eqD, eqOf_151, eqCells, eqC, List.getElem?_cons_zero, List.getElem?_cons_succ, if_true, Option.some.injEq, Hd.mk.injEq]
  rw [Bool.eq_iff_iff]
  simp [Int.ofNat_inj]
@[go_sem] def hsame_r (a : List Hd) (b : List Hd) : D := .bool true
@[go_sem] abbrev n_hsame : FuncId := 147
@[go_sem] def hsame_T : Tab := []
theorem hsame_T_ok : TabOk Tryz.prog hsame_T := TabOk.nil
set_option maxRecDepth 8000 in
set_option maxHeartbeats 1000000 in
theorem hsame_ok (a : List Hd) (b : List Hd) (h : a = b) : PureFn Tryz.prog 147 [.sl (hds a), .sl (hds b)] (hsame_r a b) := by
  subst h
  refine .of (ac147 hsame_T_ok (Nat.le_of_ble_eq_true rfl) ?_)
  simp -implicitDefEqProofs only [cd_t, cd_f, cd_dec, cd_not, cd_and, cd_or, grd_tt, grd_ff, grd_tf, grd_ft, grd_dt, grd_df, grd_nt, grd_nf, go_sem, Go.Proofs.Tryz.f147, reduceIte, reduceCtorEq, Nat.reduceEqDiff, Nat.reduceAdd, Nat.reduceLeDiff, Nat.reduceSub, Nat.reduceMul, Nat.reduceLT, Nat.reduceShiftRight, Nat.reduceMod, Int.reduceLE, Int.reduceLT, Int.reduceToNat, decide_true, Bool.and_self, Bool.true_and, Ob.map.injEq, Ob.it.injEq, List.cons.injEq, true_and, and_true]
  refine fun _ _ _ => SWp.loop (ι := { i : Nat // i ≤ a.length }) (fun i => ⟨[(0, .sl (hds a)), (1, .sl (hds a)), (12, .int .i64 a.length), (13, .int .i64 i.1)], [], 0⟩) (fun i => a.length - i.1) ⟨0, by simp⟩ ?_ ?_
  · simp [go_sem]
  · rintro ⟨i, hi⟩
    refine awp_sound hsame_T_ok.toS lv147 _ _ _ rfl ?_
    simp -implicitDefEqProofs only [cd_t, cd_f, cd_dec, cd_not, cd_and, cd_or, grd_tt, grd_ff, grd_tf, grd_ft, grd_dt, grd_df, grd_nt, grd_nf, go_sem, reduceIte, reduceCtorEq, Nat.reduceEqDiff, Nat.reduceAdd, Nat.reduceLeDiff, Nat.reduceSub, Nat.reduceMul, Nat.reduceLT, Nat.reduceShiftRight, Nat.reduceMod, Int.reduceLE, Int.reduceLT, Int.reduceToNat, decide_true, Bool.and_self, Bool.true_and, Ob.map.injEq, Ob.it.injEq, List.cons.injEq, true_and, and_true]
    refine ⟨fun h1 => ?_, fun _ => trivial⟩
    refine ADraw.run us147_6 hsame_T_ok follows_mixed (by kernel_rfl) (by kernel_rfl) ?_
    simp -implicitDefEqProofs only [cd_t, cd_f, cd_dec, cd_not, cd_and, cd_or, grd_tt, grd_ff, grd_tf, grd_ft, grd_dt, grd_df, grd_nt, grd_nf, go_sem, reduceIte, reduceCtorEq, Nat.reduceEqDiff, Nat.reduceAdd, Nat.reduceLeDiff, Nat.reduceSub, Nat.reduceMul, Nat.reduceLT, Nat.reduceShiftRight, Nat.reduceMod, Int.reduceLE, Int.reduceLT, Int.reduceToNat, decide_true, Bool.and_self, Bool.true_and, Ob.map.injEq, Ob.it.injEq, List.cons.injEq, true_and, and_true]
    exact ⟨by omega, by omega, ⟨i + 1, by omega⟩, by dsimp only; omega, i64_in _ (by omega)⟩
@[go_sem] def hsame_p (a : List Hd) (b : List Hd) : Prop := (a = b)
def sp_hsame : List D → Option (Prop × D × Fr)
  | [.c (.sl z1), .c (.sl z2)] => some (z1 = hds (dhds z1) ∧ z2 = hds (dhds z2) ∧ hsame_p (dhds z1) (dhds z2), hsame_r (dhds z1) (dhds z2), [])
  | _ => none
attribute [go_sem] sp_hsame
theorem sp_hsame_ok : ∀ rs p r fr, sp_hsame rs = some (p, r, fr) → p → FnOk Tryz.prog 147 rs r fr := by
  intro rs p r fr h hp
  unfold sp_hsame at h
  split at h <;> cases h
  obtain ⟨hc0, hc1, hp⟩ := hp
  rename_i z1 z2
  obtain ⟨z1, rfl⟩ : ∃ m, z1 = hds m := ⟨_, hc0⟩
  obtain ⟨z2, rfl⟩ : ∃ m, z2 = hds m := ⟨_, hc1⟩
  simp only [dhds_hds]
  simp only [dhds_hds, hsame_p] at hp
  exact hsame_ok z1 z2 hp
@[go_sem] def csame_r (a : Ch) (b : Ch) : D := .bool true
@[go_sem] abbrev n_csame : FuncId := 97
@[go_sem] def csame_T : Tab := [(147, sp_hsame)]
theorem csame_T_ok : TabOk Tryz.prog csame_T := (TabOk.cons sp_hsame_ok TabOk.nil)
set_option maxRecDepth 8000 in
set_option maxHeartbeats 1000000 in
theorem csame_ok (a : Ch) (b : Ch) (h : a = b) : PureFn Tryz.prog 97 [.agg [.c (.int .u64 (a.id : Int)), .c (.int .u64 (a.loc : Int)), .c (.int .u64 (a.rem : Int)), .c (.int .u64 (a.res : Int)), .c (.int .u64 (a.most : Int)), .sl (hds a.holds), .c (.bool a.op)], .agg [.c (.int .u64 (b.id : Int)), .c (.int .u64 (b.loc : Int)), .c (.int .u64 (b.rem : Int)), .c (.int .u64 (b.res : Int)), .c (.int .u64 (b.most : Int)), .sl (hds b.holds), .c (.bool b.op)]] (csame_r a b) := by
  subst h
  refine .of (ac97 csame_T_ok (Nat.le_of_ble_eq_true rfl) ?_)
  simp -implicitDefEqProofs only [cd_t, cd_f, cd_dec, cd_not, cd_and, cd_or, grd_tt, grd_ff, grd_tf, grd_ft, grd_dt, grd_df, grd_nt, grd_nf, go_sem, Go.Proofs.Tryz.f97, reduceIte, reduceCtorEq, Nat.reduceEqDiff, Nat.reduceAdd, Nat.reduceLeDiff, Nat.reduceSub, Nat.reduceMul, Nat.reduceLT, Nat.reduceShiftRight, Nat.reduceMod, Int.reduceLE, Int.reduceLT, Int.reduceToNat, decide_true, Bool.and_self, Bool.true_and, Ob.map.injEq, Ob.it.injEq, List.cons.injEq, true_and, and_true]
  exact beq_self_eq_true _
@[go_sem] def csame_p (a : Ch) (b : Ch) : Prop := (a = b)
def sp_csame : List D → Option (Prop × D × Fr)
  | [.agg [.c (.int .u64 z4), .c (.int .u64 z5), .c (.int .u64 z6), .c (.int .u64 z7), .c (.int .u64 z8), .c (.sl z9), .c (.bool z10)], .agg [.c (.int .u64 z12), .c (.int .u64 z13), .c (.int .u64 z14), .c (.int .u64 z15), .c (.int .u64 z16), .c (.sl z17), .c (.bool z18)]] => some (z4 = (z4.toNat : Int) ∧ z5 = (z5.toNat : Int) ∧ z6 = (z6.toNat : Int) ∧ z7 = (z7.toNat : Int) ∧ z8 = (z8.toNat : Int) ∧ z9 = hds (dhds z9) ∧ z12 = (z12.toNat : Int) ∧ z13 = (z13.toNat : Int) ∧ z14 = (z14.toNat : Int) ∧ z15 = (z15.toNat : Int) ∧ z16 = (z16.toNat : Int) ∧ z17 = hds (dhds z17) ∧ csame_p (⟨z4.toNat, z5.toNat, z6.toNat, z7.toNat, z8.toNat, (dhds z9), z10⟩ : Ch) (⟨z12.toNat, z13.toNat, z14.toNat, z15.toNat, z16.toNat, (dhds z17), z18⟩ : Ch), csame_r (⟨z4.toNat, z5.toNat, z6.toNat, z7.toNat, z8.toNat, (dhds z9), z10⟩ : Ch) (⟨z12.toNat, z13.toNat, z14.toNat, z15.toNat, z16.toNat, (dhds z17), z18⟩ : Ch), [])
  | _ => none
attribute [go_sem] sp_csame
theorem sp_csame_ok : ∀ rs p r fr, sp_csame rs = some (p, r, fr) → p → FnOk Tryz.prog 97 rs r fr := by
  intro rs p r fr h hp
  unfold sp_csame at h
  split at h <;> cases h
  obtain ⟨hc0, hc1, hc2, hc3, hc4, hc5, hc6, hc7, hc8, hc9, hc10, hc11, hp⟩ := hp
  rename_i z4 z5 z6 z7 z8 z9 z10 z12 z13 z14 z15 z16 z17 z18
  obtain ⟨z4, rfl⟩ : ∃ m : Nat, z4 = m := ⟨_, hc0⟩
  obtain ⟨z5, rfl⟩ : ∃ m : Nat, z5 = m := ⟨_, hc1⟩
  obtain ⟨z6, rfl⟩ : ∃ m : Nat, z6 = m := ⟨_, hc2⟩
  obtain ⟨z7, rfl⟩ : ∃ m : Nat, z7 = m := ⟨_, hc3⟩
  obtain ⟨z8, rfl⟩ : ∃ m : Nat, z8 = m := ⟨_, hc4⟩
  obtain ⟨z9, rfl⟩ : ∃ m, z9 = hds m := ⟨_, hc5⟩
  obtain ⟨z12, rfl⟩ : ∃ m : Nat, z12 = m := ⟨_, hc6⟩
  obtain ⟨z13, rfl⟩ : ∃ m : Nat, z13 = m := ⟨_, hc7⟩
  obtain ⟨z14, rfl⟩ : ∃ m : Nat, z14 = m := ⟨_, hc8⟩
  obtain ⟨z15, rfl⟩ : ∃ m : Nat, z15 = m := ⟨_, hc9⟩
  obtain ⟨z16, rfl⟩ : ∃ m : Nat, z16 = m := ⟨_, hc10⟩
  obtain ⟨z17, rfl⟩ : ∃ m, z17 = hds m := ⟨_, hc11⟩
  simp only [Int.toNat_natCast, dhds_hds]
  simp only [Int.toNat_natCast, dhds_hds, csame_p] at hp
  exact csame_ok ⟨z4, z5, z6, z7, z8, z9, z10⟩ ⟨z12, z13, z14, z15, z16, z17, z18⟩ hp
@[go_sem] def wliked_r (a : Wt) (b : Wt) : D := .bool true
@[go_sem] abbrev n_wliked : FuncId := 51
@[go_sem] def wliked_T : Tab := [(98, sp_cmpf)]
theorem wliked_T_ok : TabOk Tryz.prog wliked_T := (TabOk.cons sp_cmpf_ok TabOk.nil)
set_option maxRecDepth 8000 in
set_option maxHeartbeats 1000000 in
theorem wliked_ok (a : Wt) (b : Wt) (h : a = b) : PureFn Tryz.prog 51 [.agg [.c (.int .u64 (a.id : Int)), .c (.flt .f64 a.w)], .agg [.c (.int .u64 (b.id : Int)), .c (.flt .f64 b.w)]] (wliked_r a b) := by
  subst h
  refine .of (ac51 wliked_T_ok (Nat.le_of_ble_eq_true rfl) ?_)
  simp -implicitDefEqProofs only [cd_t, cd_f, cd_dec, cd_not, cd_and, cd_or, grd_tt, grd_ff, grd_tf, grd_ft, grd_dt, grd_df, grd_nt, grd_nf, go_sem, Go.Proofs.Tryz.f51, reduceIte, reduceCtorEq, Nat.reduceEqDiff, Nat.reduceAdd, Nat.reduceLeDiff, Nat.reduceSub, Nat.reduceMul, Nat.reduceLT, Nat.reduceShiftRight, Nat.reduceMod, Int.reduceLE, Int.reduceLT, Int.reduceToNat, decide_true, Bool.and_self, Bool.true_and, Ob.map.injEq, Ob.it.injEq, List.cons.injEq, true_and, and_true]
  rw [cmpS_0.2 rfl]; rfl
@[go_sem] def wliked_p (a : Wt) (b : Wt) : Prop := (a = b)
def sp_wliked : List D → Option (Prop × D × Fr)
  | [.agg [.c (.int .u64 z20), .c (.flt .f64 z21)], .agg [.c (.int .u64 z23), .c (.flt .f64 z24)]] => some (z20 = (z20.toNat : Int) ∧ z23 = (z23.toNat : Int) ∧ wliked_p (⟨z20.toNat, z21⟩ : Wt) (⟨z23.toNat, z24⟩ : Wt), wliked_r (⟨z20.toNat, z21⟩ : Wt) (⟨z23.toNat, z24⟩ : Wt), [])
  | _ => none
attribute [go_sem] sp_wliked
theorem sp_wliked_ok : ∀ rs p r fr, sp_wliked rs = some (p, r, fr) → p → FnOk Tryz.prog 51 rs r fr := by
  intro rs p r fr h hp
  unfold sp_wliked at h
  split at h <;> cases h
  obtain ⟨hc0, hc1, hp⟩ := hp
  rename_i z20 z21 z23 z24
  obtain ⟨z20, rfl⟩ : ∃ m : Nat, z20 = m := ⟨_, hc0⟩
  obtain ⟨z23, rfl⟩ : ∃ m : Nat, z23 = m := ⟨_, hc1⟩
  simp only [Int.toNat_natCast]
  simp only [Int.toNat_natCast, wliked_p] at hp
  exact wliked_ok ⟨z20, z21⟩ ⟨z23, z24⟩ hp
@[go_sem] def lsame_r (a : List Ch) (b : List Ch) : D := .bool true
@[go_sem] abbrev n_lsame : FuncId := 49
@[go_sem] def lsame_T : Tab := [(97, sp_csame)]
theorem lsame_T_ok : TabOk Tryz.prog lsame_T := (TabOk.cons sp_csame_ok TabOk.nil)
set_option maxRecDepth 8000 in
set_option maxHeartbeats 1000000 in
theorem lsame_ok (a : List Ch) (b : List Ch) (h : a = b) : PureFn Tryz.prog 49 [.sl (chs a), .sl (chs b)] (lsame_r a b) := by
  subst h
  refine .of (ac49 lsame_T_ok (Nat.le_of_ble_eq_true rfl) ?_)
  simp -implicitDefEqProofs only [cd_t, cd_f, cd_dec, cd_not, cd_and, cd_or, grd_tt, grd_ff, grd_tf, grd_ft, grd_dt, grd_df, grd_nt, grd_nf, go_sem, Go.Proofs.Tryz.f49, reduceIte, reduceCtorEq, Nat.reduceEqDiff, Nat.reduceAdd, Nat.reduceLeDiff, Nat.reduceSub, Nat.reduceMul, Nat.reduceLT, Nat.reduceShiftRight, Nat.reduceMod, Int.reduceLE, Int.reduceLT, Int.reduceToNat, decide_true, Bool.and_self, Bool.true_and, Ob.map.injEq, Ob.it.injEq, List.cons.injEq, true_and, and_true]
  refine ac96 lsame_T_ok (Nat.le_of_ble_eq_true rfl) ?_
  simp -implicitDefEqProofs only [cd_t, cd_f, cd_dec, cd_not, cd_and, cd_or, grd_tt, grd_ff, grd_tf, grd_ft, grd_dt, grd_df, grd_nt, grd_nf, go_sem, Go.Proofs.Tryz.f96, reduceIte, reduceCtorEq, Nat.reduceEqDiff, Nat.reduceAdd, Nat.reduceLeDiff, Nat.reduceSub, Nat.reduceMul, Nat.reduceLT, Nat.reduceShiftRight, Nat.reduceMod, Int.reduceLE, Int.reduceLT, Int.reduceToNat, decide_true, Bool.and_self, Bool.true_and, Ob.map.injEq, Ob.it.injEq, List.cons.injEq, true_and, and_true]
  refine fun _ _ _ => SWp.loop (ι := { i : Nat // i ≤ a.length }) (fun i => ⟨[(1, .sl (chs a)), (2, .fn (.func 97) [] []), (15, .sl (chs a)), (16, .int .i64 a.length), (17, .int .i64 i.1)], [], 0⟩) (fun i => a.length - i.1) ⟨0, by simp⟩ ?_ ?_
  · simp [go_sem]
  · rintro ⟨i, hi⟩
    refine awp_sound lsame_T_ok.toS lv96 _ _ _ rfl ?_
    simp -implicitDefEqProofs only [cd_t, cd_f, cd_dec, cd_not, cd_and, cd_or, grd_tt, grd_ff, grd_tf, grd_ft, grd_dt, grd_df, grd_nt, grd_nf, go_sem, reduceIte, reduceCtorEq, Nat.reduceEqDiff, Nat.reduceAdd, Nat.reduceLeDiff, Nat.reduceSub, Nat.reduceMul, Nat.reduceLT, Nat.reduceShiftRight, Nat.reduceMod, Int.reduceLE, Int.reduceLT, Int.reduceToNat, decide_true, Bool.and_self, Bool.true_and, Ob.map.injEq, Ob.it.injEq, List.cons.injEq, true_and, and_true]
    exact ⟨fun h1 => ⟨by omega, by omega, ⟨i + 1, by omega⟩, by dsimp only; omega, i64_in _ (by omega)⟩, fun _ => trivial⟩
@[go_sem] def lsame_p (a : List Ch) (b : List Ch) : Prop := (a = b)
def sp_lsame : List D → Option (Prop × D × Fr)
  | [.c (.sl z25), .c (.sl z26)] => some (z25 = chs (dchs z25) ∧ z26 = chs (dchs z26) ∧ lsame_p (dchs z25) (dchs z26), lsame_r (dchs z25) (dchs z26), [])
  | _ => none
attribute [go_sem] sp_lsame
theorem sp_lsame_ok : ∀ rs p r fr, sp_lsame rs = some (p, r, fr) → p → FnOk Tryz.prog 49 rs r fr := by
  intro rs p r fr h hp
  unfold sp_lsame at h
  split at h <;> cases h
  obtain ⟨hc0, hc1, hp⟩ := hp
  rename_i z25 z26
  obtain ⟨z25, rfl⟩ : ∃ m, z25 = chs m := ⟨_, hc0⟩
  obtain ⟨z26, rfl⟩ : ∃ m, z26 = chs m := ⟨_, hc1⟩
  simp only [dchs_chs]
  simp only [dchs_chs, lsame_p] at hp
  exact lsame_ok z25 z26 hp
@[go_sem] def isame_r (a : List Iv) (b : List Iv) : D := .bool true
@[go_sem] abbrev n_isame : FuncId := 52
@[go_sem] def isame_T : Tab := []
theorem isame_T_ok : TabOk Tryz.prog isame_T := TabOk.nil
set_option maxRecDepth 8000 in
set_option maxHeartbeats 1000000 in
theorem isame_ok (a : List Iv) (b : List Iv) (h : a = b) : PureFn Tryz.prog 52 [.sl (ivs a), .sl (ivs b)] (isame_r a b) := by
  subst h
  refine .of (ac52 isame_T_ok (Nat.le_of_ble_eq_true rfl) ?_)
  simp -implicitDefEqProofs only [cd_t, cd_f, cd_dec, cd_not, cd_and, cd_or, grd_tt, grd_ff, grd_tf, grd_ft, grd_dt, grd_df, grd_nt, grd_nf, go_sem, Go.Proofs.Tryz.f52, reduceIte, reduceCtorEq, Nat.reduceEqDiff, Nat.reduceAdd, Nat.reduceLeDiff, Nat.reduceSub, Nat.reduceMul, Nat.reduceLT, Nat.reduceShiftRight, Nat.reduceMod, Int.reduceLE, Int.reduceLT, Int.reduceToNat, decide_true, Bool.and_self, Bool.true_and, Ob.map.injEq, Ob.it.injEq, List.cons.injEq, true_and, and_true]
  refine ac99 isame_T_ok (Nat.le_of_ble_eq_true rfl) ?_
  simp -implicitDefEqProofs only [cd_t, cd_f, cd_dec, cd_not, cd_and, cd_or, grd_tt, grd_ff, grd_tf, grd_ft, grd_dt, grd_df, grd_nt, grd_nf, go_sem, Go.Proofs.Tryz.f99, reduceIte, reduceCtorEq, Nat.reduceEqDiff, Nat.reduceAdd, Nat.reduceLeDiff, Nat.reduceSub, Nat.reduceMul, Nat.reduceLT, Nat.reduceShiftRight, Nat.reduceMod, Int.reduceLE, Int.reduceLT, Int.reduceToNat, decide_true, Bool.and_self, Bool.true_and, Ob.map.injEq, Ob.it.injEq, List.cons.injEq, true_and, and_true]
  refine fun _ _ _ => SWp.loop (ι := { i : Nat // i ≤ a.length }) (fun i => ⟨[(1, .sl (ivs a)), (2, .fn (.func 100) [] []), (15, .sl (ivs a)), (16, .int .i64 a.length), (17, .int .i64 i.1)], [], 0⟩) (fun i => a.length - i.1) ⟨0, by simp⟩ ?_ ?_
  · simp [go_sem]
  · rintro ⟨i, hi⟩
    refine awp_sound isame_T_ok.toS lv99 _ _ _ rfl ?_
    simp -implicitDefEqProofs only [cd_t, cd_f, cd_dec, cd_not, cd_and, cd_or, grd_tt, grd_ff, grd_tf, grd_ft, grd_dt, grd_df, grd_nt, grd_nf, go_sem, reduceIte, reduceCtorEq, Nat.reduceEqDiff, Nat.reduceAdd, Nat.reduceLeDiff, Nat.reduceSub, Nat.reduceMul, Nat.reduceLT, Nat.reduceShiftRight, Nat.reduceMod, Int.reduceLE, Int.reduceLT, Int.reduceToNat, decide_true, Bool.and_self, Bool.true_and, Ob.map.injEq, Ob.it.injEq, List.cons.injEq, true_and, and_true]
    refine ⟨fun h1 => ⟨by omega, by omega, ?_⟩, fun _ => trivial⟩
    refine ac100 isame_T_ok (Nat.le_of_ble_eq_true rfl) ?_
    simp -implicitDefEqProofs only [cd_t, cd_f, cd_dec, cd_not, cd_and, cd_or, grd_tt, grd_ff, grd_tf, grd_ft, grd_dt, grd_df, grd_nt, grd_nf, go_sem, Go.Proofs.Tryz.f100, reduceIte, reduceCtorEq, Nat.reduceEqDiff, Nat.reduceAdd, Nat.reduceLeDiff, Nat.reduceSub, Nat.reduceMul, Nat.reduceLT, Nat.reduceShiftRight, Nat.reduceMod, Int.reduceLE, Int.reduceLT, Int.reduceToNat, decide_true, Bool.and_self, Bool.true_and, Ob.map.injEq, Ob.it.injEq, List.cons.injEq, true_and, and_true]
    exact ⟨⟨i + 1, by omega⟩, by dsimp only; omega, i64_in _ (by omega)⟩
@[go_sem] def isame_p (a : List Iv) (b : List Iv) : Prop := (a = b)
def sp_isame : List D → Option (Prop × D × Fr)
  | [.c (.sl z27), .c (.sl z28)] => some (z27 = ivs (divs z27) ∧ z28 = ivs (divs z28) ∧ isame_p (divs z27) (divs z28), isame_r (divs z27) (divs z28), [])
  | _ => none
attribute [go_sem] sp_isame
theorem sp_isame_ok : ∀ rs p r fr, sp_isame rs = some (p, r, fr) → p → FnOk Tryz.prog 52 rs r fr := by
  intro rs p r fr h hp
  unfold sp_isame at h
  split at h <;> cases h
  obtain ⟨hc0, hc1, hp⟩ := hp
  rename_i z27 z28
  obtain ⟨z27, rfl⟩ : ∃ m, z27 = ivs m := ⟨_, hc0⟩
  obtain ⟨z28, rfl⟩ : ∃ m, z28 = ivs m := ⟨_, hc1⟩
  simp only [divs_ivs]
  simp only [divs_ivs, isame_p] at hp
  exact isame_ok z27 z28 hp
@[go_sem] def pyeq_r (a : List Py) (b : List Py) : D := .bool true
@[go_sem] abbrev n_pyeq : FuncId := 101
@[go_sem] def pyeq_T : Tab := []
theorem pyeq_T_ok : TabOk Tryz.prog pyeq_T := TabOk.nil
set_option maxRecDepth 8000 in
set_option maxHeartbeats 1000000 in
theorem pyeq_ok (a : List Py) (b : List Py) (h : a = b) : PureFn Tryz.prog 101 [.sl (pys a), .sl (pys b)] (pyeq_r a b) := by
  subst h
  refine .of (ac101 pyeq_T_ok (Nat.le_of_ble_eq_true rfl) ?_)
  simp -implicitDefEqProofs only [cd_t, cd_f, cd_dec, cd_not, cd_and, cd_or, grd_tt, grd_ff, grd_tf, grd_ft, grd_dt, grd_df, grd_nt, grd_nf, go_sem, Go.Proofs.Tryz.f101, reduceIte, reduceCtorEq, Nat.reduceEqDiff, Nat.reduceAdd, Nat.reduceLeDiff, Nat.reduceSub, Nat.reduceMul, Nat.reduceLT, Nat.reduceShiftRight, Nat.reduceMod, Int.reduceLE, Int.reduceLT, Int.reduceToNat, decide_true, Bool.and_self, Bool.true_and, Ob.map.injEq, Ob.it.injEq, List.cons.injEq, true_and, and_true]
  refine fun _ _ _ => SWp.loop (ι := { i : Nat // i ≤ a.length }) (fun i => ⟨[(0, .sl (pys a)), (1, .sl (pys a)), (12, .int .i64 a.length), (13, .int .i64 i.1)], [], 0⟩) (fun i => a.length - i.1) ⟨0, by simp⟩ ?_ ?_
  · simp [go_sem]
  · rintro ⟨i, hi⟩
    refine awp_sound pyeq_T_ok.toS lv101 _ _ _ rfl ?_
    simp -implicitDefEqProofs only [cd_t, cd_f, cd_dec, cd_not, cd_and, cd_or, grd_tt, grd_ff, grd_tf, grd_ft, grd_dt, grd_df, grd_nt, grd_nf, go_sem, reduceIte, reduceCtorEq, Nat.reduceEqDiff, Nat.reduceAdd, Nat.reduceLeDiff, Nat.reduceSub, Nat.reduceMul, Nat.reduceLT, Nat.reduceShiftRight, Nat.reduceMod, Int.reduceLE, Int.reduceLT, Int.reduceToNat, decide_true, Bool.and_self, Bool.true_and, Ob.map.injEq, Ob.it.injEq, List.cons.injEq, true_and, and_true]
    refine ⟨fun h1 => ?_, fun _ => trivial⟩
    refine ADraw.run us101_6 pyeq_T_ok follows_mixed (by kernel_rfl) (by kernel_rfl) ?_
    simp -implicitDefEqProofs only [cd_t, cd_f, cd_dec, cd_not, cd_and, cd_or, grd_tt, grd_ff, grd_tf, grd_ft, grd_dt, grd_df, grd_nt, grd_nf, go_sem, reduceIte, reduceCtorEq, Nat.reduceEqDiff, Nat.reduceAdd, Nat.reduceLeDiff, Nat.reduceSub, Nat.reduceMul, Nat.reduceLT, Nat.reduceShiftRight, Nat.reduceMod, Int.reduceLE, Int.reduceLT, Int.reduceToNat, decide_true, Bool.and_self, Bool.true_and, Ob.map.injEq, Ob.it.injEq, List.cons.injEq, true_and, and_true]
    exact ⟨by omega, by omega, ⟨i + 1, by omega⟩, by dsimp only; omega, i64_in _ (by omega)⟩
@[go_sem] def pyeq_p (a : List Py) (b : List Py) : Prop := (a = b)
def sp_pyeq : List D → Option (Prop × D × Fr)
  | [.c (.sl z29), .c (.sl z30)] => some (z29 = pys (dpys z29) ∧ z30 = pys (dpys z30) ∧ pyeq_p (dpys z29) (dpys z30), pyeq_r (dpys z29) (dpys z30), [])
  | _ => none
attribute [go_sem] sp_pyeq
theorem sp_pyeq_ok : ∀ rs p r fr, sp_pyeq rs = some (p, r, fr) → p → FnOk Tryz.prog 101 rs r fr := by
  intro rs p r fr h hp
  unfold sp_pyeq at h
  split at h <;> cases h
  obtain ⟨hc0, hc1, hp⟩ := hp
  rename_i z29 z30
  obtain ⟨z29, rfl⟩ : ∃ m, z29 = pys m := ⟨_, hc0⟩
  obtain ⟨z30, rfl⟩ : ∃ m, z30 = pys m := ⟨_, hc1⟩
  simp only [dpys_pys]
  simp only [dpys_pys, pyeq_p] at hp
  exact pyeq_ok z29 z30 hp
@[go_sem] def psame_r (a : List Py) (b : List Py) : D := .bool true
@[go_sem] abbrev n_psame : FuncId := 53
@[go_sem] def psame_T : Tab := [(101, sp_pyeq)]
theorem psame_T_ok : TabOk Tryz.prog psame_T := (TabOk.cons sp_pyeq_ok TabOk.nil)
set_option maxRecDepth 8000 in
set_option maxHeartbeats 1000000 in
theorem psame_ok (a : List Py) (b : List Py) (h : a = b) : PureFn Tryz.prog 53 [.sl (pys a), .sl (pys b)] (psame_r a b) := by
  refine .of (ac53 psame_T_ok (Nat.le_of_ble_eq_true rfl) ?_)
  simp -implicitDefEqProofs only [cd_t, cd_f, cd_dec, cd_not, cd_and, cd_or, grd_tt, grd_ff, grd_tf, grd_ft, grd_dt, grd_df, grd_nt, grd_nf, go_sem, Go.Proofs.Tryz.f53, reduceIte, reduceCtorEq, Nat.reduceEqDiff, Nat.reduceAdd, Nat.reduceLeDiff, Nat.reduceSub, Nat.reduceMul, Nat.reduceLT, Nat.reduceShiftRight, Nat.reduceMod, Int.reduceLE, Int.reduceLT, Int.reduceToNat, decide_true, Bool.and_self, Bool.true_and, Ob.map.injEq, Ob.it.injEq, List.cons.injEq, true_and, and_true]
  exact h
@[go_sem] def psame_p (a : List Py) (b : List Py) : Prop := (a = b)
def sp_psame : List D → Option (Prop × D × Fr)
  | [.c (.sl z31), .c (.sl z32)] => some (z31 = pys (dpys z31) ∧ z32 = pys (dpys z32) ∧ psame_p (dpys z31) (dpys z32), psame_r (dpys z31) (dpys z32), [])
  | _ => none
attribute [go_sem] sp_psame
theorem sp_psame_ok : ∀ rs p r fr, sp_psame rs = some (p, r, fr) → p → FnOk Tryz.prog 53 rs r fr := by
  intro rs p r fr h hp
  unfold sp_psame at h
  split at h <;> cases h
  obtain ⟨hc0, hc1, hp⟩ := hp
  rename_i z31 z32
  obtain ⟨z31, rfl⟩ : ∃ m, z31 = pys m := ⟨_, hc0⟩
  obtain ⟨z32, rfl⟩ : ∃ m, z32 = pys m := ⟨_, hc1⟩
  simp only [dpys_pys]
  simp only [dpys_pys, psame_p] at hp
  exact psame_ok z31 z32 hp
@[go_sem] def eveq_r (a : List Ev) (b : List Ev) : D := .bool true
@[go_sem] abbrev n_eveq : FuncId := 102
@[go_sem] def eveq_T : Tab := []
theorem eveq_T_ok : TabOk Tryz.prog eveq_T := TabOk.nil
set_option maxRecDepth 8000 in
set_option maxHeartbeats 1000000 in
theorem eveq_ok (a : List Ev) (b : List Ev) (h : a = b) : PureFn Tryz.prog 102 [.sl (evs a), .sl (evs b)] (eveq_r a b) := by
  subst h
  refine .of (ac102 eveq_T_ok (Nat.le_of_ble_eq_true rfl) ?_)
  simp -implicitDefEqProofs only [cd_t, cd_f, cd_dec, cd_not, cd_and, cd_or, grd_tt, grd_ff, grd_tf, grd_ft, grd_dt, grd_df, grd_nt, grd_nf, go_sem, Go.Proofs.Tryz.f102, reduceIte, reduceCtorEq, Nat.reduceEqDiff, Nat.reduceAdd, Nat.reduceLeDiff, Nat.reduceSub, Nat.reduceMul, Nat.reduceLT, Nat.reduceShiftRight, Nat.reduceMod, Int.reduceLE, Int.reduceLT, Int.reduceToNat, decide_true, Bool.and_self, Bool.true_and, Ob.map.injEq, Ob.it.injEq, List.cons.injEq, true_and, and_true]
  refine fun _ _ _ => SWp.loop (ι := { i : Nat // i ≤ a.length }) (fun i => ⟨[(0, .sl (evs a)), (1, .sl (evs a)), (12, .int .i64 a.length), (13, .int .i64 i.1)], [], 0⟩) (fun i => a.length - i.1) ⟨0, by simp⟩ ?_ ?_
  · simp [go_sem]
  · rintro ⟨i, hi⟩
    refine awp_sound eveq_T_ok.toS lv102 _ _ _ rfl ?_
    simp -implicitDefEqProofs only [cd_t, cd_f, cd_dec, cd_not, cd_and, cd_or, grd_tt, grd_ff, grd_tf, grd_ft, grd_dt, grd_df, grd_nt, grd_nf, go_sem, reduceIte, reduceCtorEq, Nat.reduceEqDiff, Nat.reduceAdd, Nat.reduceLeDiff, Nat.reduceSub, Nat.reduceMul, Nat.reduceLT, Nat.reduceShiftRight, Nat.reduceMod, Int.reduceLE, Int.reduceLT, Int.reduceToNat, decide_true, Bool.and_self, Bool.true_and, Ob.map.injEq, Ob.it.injEq, List.cons.injEq, true_and, and_true]
    refine ⟨fun h1 => ?_, fun _ => trivial⟩
    refine ADraw.run us102_6 eveq_T_ok follows_mixed (by kernel_rfl) (by kernel_rfl) ?_
    simp -implicitDefEqProofs only [cd_t, cd_f, cd_dec, cd_not, cd_and, cd_or, grd_tt, grd_ff, grd_tf, grd_ft, grd_dt, grd_df, grd_nt, grd_nf, go_sem, reduceIte, reduceCtorEq, Nat.reduceEqDiff, Nat.reduceAdd, Nat.reduceLeDiff, Nat.reduceSub, Nat.reduceMul, Nat.reduceLT, Nat.reduceShiftRight, Nat.reduceMod, Int.reduceLE, Int.reduceLT, Int.reduceToNat, decide_true, Bool.and_self, Bool.true_and, Ob.map.injEq, Ob.it.injEq, List.cons.injEq, true_and, and_true]
    exact ⟨by omega, by omega, ⟨i + 1, by omega⟩, by dsimp only; omega, i64_in _ (by omega)⟩
@[go_sem] def eveq_p (a : List Ev) (b : List Ev) : Prop := (a = b)
def sp_eveq : List D → Option (Prop × D × Fr)
  | [.c (.sl z33), .c (.sl z34)] => some (z33 = evs (devs z33) ∧ z34 = evs (devs z34) ∧ eveq_p (devs z33) (devs z34), eveq_r (devs z33) (devs z34), [])
  | _ => none
attribute [go_sem] sp_eveq
theorem sp_eveq_ok : ∀ rs p r fr, sp_eveq rs = some (p, r, fr) → p → FnOk Tryz.prog 102 rs r fr := by
  intro rs p r fr h hp
  unfold sp_eveq at h
  split at h <;> cases h
  obtain ⟨hc0, hc1, hp⟩ := hp
  rename_i z33 z34
  obtain ⟨z33, rfl⟩ : ∃ m, z33 = evs m := ⟨_, hc0⟩
  obtain ⟨z34, rfl⟩ : ∃ m, z34 = evs m := ⟨_, hc1⟩
  simp only [devs_evs]
  simp only [devs_evs, eveq_p] at hp
  exact eveq_ok z33 z34 hp
@[go_sem] def fsame_r (a : Fd) (b : Fd) : D := .bool true
@[go_sem] abbrev n_fsame : FuncId := 54
@[go_sem] def fsame_T : Tab := [(102, sp_eveq)]
theorem fsame_T_ok : TabOk Tryz.prog fsame_T := (TabOk.cons sp_eveq_ok TabOk.nil)
set_option maxRecDepth 8000 in
set_option maxHeartbeats 1000000 in
theorem fsame_ok (a : Fd) (b : Fd) (h : a = b) : PureFn Tryz.prog 54 [.agg [.c (.int .u64 (a.next : Int)), .sl (evs a.l)], .agg [.c (.int .u64 (b.next : Int)), .sl (evs b.l)]] (fsame_r a b) := by
  subst h
  refine .of (ac54 fsame_T_ok (Nat.le_of_ble_eq_true rfl) ?_)
  simp -implicitDefEqProofs only [cd_t, cd_f, cd_dec, cd_not, cd_and, cd_or, grd_tt, grd_ff, grd_tf, grd_ft, grd_dt, grd_df, grd_nt, grd_nf, go_sem, Go.Proofs.Tryz.f54, reduceIte, reduceCtorEq, Nat.reduceEqDiff, Nat.reduceAdd, Nat.reduceLeDiff, Nat.reduceSub, Nat.reduceMul, Nat.reduceLT, Nat.reduceShiftRight, Nat.reduceMod, Int.reduceLE, Int.reduceLT, Int.reduceToNat, decide_true, Bool.and_self, Bool.true_and, Ob.map.injEq, Ob.it.injEq, List.cons.injEq, true_and, and_true]
@[go_sem] def fsame_p (a : Fd) (b : Fd) : Prop := (a = b)
def sp_fsame : List D → Option (Prop × D × Fr)
  | [.agg [.c (.int .u64 z36), .c (.sl z37)], .agg [.c (.int .u64 z39), .c (.sl z40)]] => some (z36 = (z36.toNat : Int) ∧ z37 = evs (devs z37) ∧ z39 = (z39.toNat : Int) ∧ z40 = evs (devs z40) ∧ fsame_p (⟨z36.toNat, (devs z37)⟩ : Fd) (⟨z39.toNat, (devs z40)⟩ : Fd), fsame_r (⟨z36.toNat, (devs z37)⟩ : Fd) (⟨z39.toNat, (devs z40)⟩ : Fd), [])
  | _ => none
attribute [go_sem] sp_fsame
theorem sp_fsame_ok : ∀ rs p r fr, sp_fsame rs = some (p, r, fr) → p → FnOk Tryz.prog 54 rs r fr := by
  intro rs p r fr h hp
  unfold sp_fsame at h
  split at h <;> cases h
  obtain ⟨hc0, hc1, hc2, hc3, hp⟩ := hp
  rename_i z36 z37 z39 z40
  obtain ⟨z36, rfl⟩ : ∃ m : Nat, z36 = m := ⟨_, hc0⟩
  obtain ⟨z37, rfl⟩ : ∃ m, z37 = evs m := ⟨_, hc1⟩
  obtain ⟨z39, rfl⟩ : ∃ m : Nat, z39 = m := ⟨_, hc2⟩
  obtain ⟨z40, rfl⟩ : ∃ m, z40 = evs m := ⟨_, hc3⟩
  simp only [Int.toNat_natCast, devs_evs]
  simp only [Int.toNat_natCast, devs_evs, fsame_p] at hp
  exact fsame_ok ⟨z36, z37⟩ ⟨z39, z40⟩ hp
@[go_sem] def wsame_r (a : Wl) (b : Wl) : D := .bool true
@[go_sem] abbrev n_wsame : FuncId := 16
@[go_sem] def wsame_T : Tab := [(49, sp_lsame), (52, sp_isame), (53, sp_psame), (54, sp_fsame), (51, sp_wliked)]
theorem wsame_T_ok : TabOk Tryz.prog wsame_T := (TabOk.cons sp_lsame_ok (TabOk.cons sp_isame_ok (TabOk.cons sp_psame_ok (TabOk.cons sp_fsame_ok (TabOk.cons sp_wliked_ok TabOk.nil)))))
set_option maxRecDepth 8000 in
set_option maxHeartbeats 1000000 in
theorem wsame_ok (a : Wl) (b : Wl) (h : a = b) : PureFn Tryz.prog 16 [.agg [.sl (chs a.c), .sl (wts a.w), .sl (ivs a.i), .sl (pys a.p), .c (.int .u64 (a.f.next : Int)), .sl (evs a.f.l), .c (.int .u64 (a.next : Int)), .c (.int .u64 (a.tick : Int))], .agg [.sl (chs b.c), .sl (wts b.w), .sl (ivs b.i), .sl (pys b.p), .c (.int .u64 (b.f.next : Int)), .sl (evs b.f.l), .c (.int .u64 (b.next : Int)), .c (.int .u64 (b.tick : Int))]] (wsame_r a b) := by
  subst h
  refine .of (ac16 wsame_T_ok (Nat.le_of_ble_eq_true rfl) ?_)
  simp -implicitDefEqProofs only [cd_t, cd_f, cd_dec, cd_not, cd_and, cd_or, grd_tt, grd_ff, grd_tf, grd_ft, grd_dt, grd_df, grd_nt, grd_nf, go_sem, Go.Proofs.Tryz.f16, reduceIte, reduceCtorEq, Nat.reduceEqDiff, Nat.reduceAdd, Nat.reduceLeDiff, Nat.reduceSub, Nat.reduceMul, Nat.reduceLT, Nat.reduceShiftRight, Nat.reduceMod, Int.reduceLE, Int.reduceLT, Int.reduceToNat, decide_true, Bool.and_self, Bool.true_and, Ob.map.injEq, Ob.it.injEq, List.cons.injEq, true_and, and_true]
  refine ac50 wsame_T_ok (Nat.le_of_ble_eq_true rfl) ?_
  simp -implicitDefEqProofs only [cd_t, cd_f, cd_dec, cd_not, cd_and, cd_or, grd_tt, grd_ff, grd_tf, grd_ft, grd_dt, grd_df, grd_nt, grd_nf, go_sem, Go.Proofs.Tryz.f50, reduceIte, reduceCtorEq, Nat.reduceEqDiff, Nat.reduceAdd, Nat.reduceLeDiff, Nat.reduceSub, Nat.reduceMul, Nat.reduceLT, Nat.reduceShiftRight, Nat.reduceMod, Int.reduceLE, Int.reduceLT, Int.reduceToNat, decide_true, Bool.and_self, Bool.true_and, Ob.map.injEq, Ob.it.injEq, List.cons.injEq, true_and, and_true]
  refine fun _ _ _ => SWp.loop (ι := { i : Nat // i ≤ a.w.length }) (fun i => ⟨[(1, .sl (wts a.w)), (2, .fn (.func 51) [] []), (15, .sl (wts a.w)), (16, .int .i64 a.w.length), (17, .int .i64 i.1)], [(1, .box [.sl (chs a.c), .sl (wts a.w), .sl (ivs a.i), .sl (pys a.p), .c (.int .u64 a.f.next), .sl (evs a.f.l), .c (.int .u64 a.next), .c (.int .u64 a.tick)]), (0, .box [.sl (chs a.c), .sl (wts a.w), .sl (ivs a.i), .sl (pys a.p), .c (.int .u64 a.f.next), .sl (evs a.f.l), .c (.int .u64 a.next), .c (.int .u64 a.tick)])], 2⟩) (fun i => a.w.length - i.1) ⟨0, by simp⟩ ?_ ?_
  · simp [go_sem]
  · rintro ⟨i, hi⟩
    refine awp_sound wsame_T_ok.toS lv50 _ _ _ rfl ?_
    simp -implicitDefEqProofs only [cd_t, cd_f, cd_dec, cd_not, cd_and, cd_or, grd_tt, grd_ff, grd_tf, grd_ft, grd_dt, grd_df, grd_nt, grd_nf, go_sem, reduceIte, reduceCtorEq, Nat.reduceEqDiff, Nat.reduceAdd, Nat.reduceLeDiff, Nat.reduceSub, Nat.reduceMul, Nat.reduceLT, Nat.reduceShiftRight, Nat.reduceMod, Int.reduceLE, Int.reduceLT, Int.reduceToNat, decide_true, Bool.and_self, Bool.true_and, Ob.map.injEq, Ob.it.injEq, List.cons.injEq, true_and, and_true]
    exact ⟨fun h1 => ⟨by omega, by omega, ⟨i + 1, by omega⟩, by dsimp only; omega, i64_in _ (by omega)⟩, fun _ => trivial⟩
@[go_sem] def wsame_p (a : Wl) (b : Wl) : Prop := (a = b)
def sp_wsame : List D → Option (Prop × D × Fr)
  | [.agg [.c (.sl z42), .c (.sl z43), .c (.sl z44), .c (.sl z45), .c (.int .u64 z47), .c (.sl z48), .c (.int .u64 z49), .c (.int .u64 z50)], .agg [.c (.sl z52), .c (.sl z53), .c (.sl z54), .c (.sl z55), .c (.int .u64 z57), .c (.sl z58), .c (.int .u64 z59), .c (.int .u64 z60)]] => some (z42 = chs (dchs z42) ∧ z43 = wts (dwts z43) ∧ z44 = ivs (divs z44) ∧ z45 = pys (dpys z45) ∧ z47 = (z47.toNat : Int) ∧ z48 = evs (devs z48) ∧ z49 = (z49.toNat : Int) ∧ z50 = (z50.toNat : Int) ∧ z52 = chs (dchs z52) ∧ z53 = wts (dwts z53) ∧ z54 = ivs (divs z54) ∧ z55 = pys (dpys z55) ∧ z57 = (z57.toNat : Int) ∧ z58 = evs (devs z58) ∧ z59 = (z59.toNat : Int) ∧ z60 = (z60.toNat : Int) ∧ wsame_p (⟨(dchs z42), (dwts z43), (divs z44), (dpys z45), (⟨z47.toNat, (devs z48)⟩ : Fd), z49.toNat, z50.toNat⟩ : Wl) (⟨(dchs z52), (dwts z53), (divs z54), (dpys z55), (⟨z57.toNat, (devs z58)⟩ : Fd), z59.toNat, z60.toNat⟩ : Wl), wsame_r (⟨(dchs z42), (dwts z43), (divs z44), (dpys z45), (⟨z47.toNat, (devs z48)⟩ : Fd), z49.toNat, z50.toNat⟩ : Wl) (⟨(dchs z52), (dwts z53), (divs z54), (dpys z55), (⟨z57.toNat, (devs z58)⟩ : Fd), z59.toNat, z60.toNat⟩ : Wl), [])
  | _ => none
attribute [go_sem] sp_wsame
theorem sp_wsame_ok : ∀ rs p r fr, sp_wsame rs = some (p, r, fr) → p → FnOk Tryz.prog 16 rs r fr := by
  intro rs p r fr h hp
  unfold sp_wsame at h
  split at h <;> cases h
  obtain ⟨hc0, hc1, hc2, hc3, hc4, hc5, hc6, hc7, hc8, hc9, hc10, hc11, hc12, hc13, hc14, hc15, hp⟩ := hp
  rename_i z42 z43 z44 z45 z47 z48 z49 z50 z52 z53 z54 z55 z57 z58 z59 z60
  obtain ⟨z42, rfl⟩ : ∃ m, z42 = chs m := ⟨_, hc0⟩
  obtain ⟨z43, rfl⟩ : ∃ m, z43 = wts m := ⟨_, hc1⟩
  obtain ⟨z44, rfl⟩ : ∃ m, z44 = ivs m := ⟨_, hc2⟩
  obtain ⟨z45, rfl⟩ : ∃ m, z45 = pys m := ⟨_, hc3⟩
  obtain ⟨z47, rfl⟩ : ∃ m : Nat, z47 = m := ⟨_, hc4⟩
  obtain ⟨z48, rfl⟩ : ∃ m, z48 = evs m := ⟨_, hc5⟩
  obtain ⟨z49, rfl⟩ : ∃ m : Nat, z49 = m := ⟨_, hc6⟩
  obtain ⟨z50, rfl⟩ : ∃ m : Nat, z50 = m := ⟨_, hc7⟩
  obtain ⟨z52, rfl⟩ : ∃ m, z52 = chs m := ⟨_, hc8⟩
  obtain ⟨z53, rfl⟩ : ∃ m, z53 = wts m := ⟨_, hc9⟩
  obtain ⟨z54, rfl⟩ : ∃ m, z54 = ivs m := ⟨_, hc10⟩
  obtain ⟨z55, rfl⟩ : ∃ m, z55 = pys m := ⟨_, hc11⟩
  obtain ⟨z57, rfl⟩ : ∃ m : Nat, z57 = m := ⟨_, hc12⟩
  obtain ⟨z58, rfl⟩ : ∃ m, z58 = evs m := ⟨_, hc13⟩
  obtain ⟨z59, rfl⟩ : ∃ m : Nat, z59 = m := ⟨_, hc14⟩
  obtain ⟨z60, rfl⟩ : ∃ m : Nat, z60 = m := ⟨_, hc15⟩
  simp only [Int.toNat_natCast, dchs_chs, devs_evs, divs_ivs, dpys_pys, dwts_wts]
  simp only [Int.toNat_natCast, dchs_chs, devs_evs, divs_ivs, dpys_pys, dwts_wts, wsame_p] at hp
  exact wsame_ok ⟨z42, z43, z44, z45, ⟨z47, z48⟩, z49, z50⟩ ⟨z52, z53, z54, z55, ⟨z57, z58⟩, z59, z60⟩ hp
end Dm
namespace Dm
open Go Go.Proofs Go.IntWalk
theorem sum_suffix {l : List It} {i : Nat} (h : (sumB l).2 = 0) (hl : i < l.length) : (sumB (l.drop i)).2 = 0 := by
  have hle : totI (l.drop i) ≤ totI l := by
    conv => rhs; rw [← List.take_append_drop i l, totI, List.map_append, List.sum_append]
    exact Nat.le_add_left _ _
  unfold sumB at h ⊢
  split at h
  · rename_i h1
    split at h
    · rename_i h2
      rw [if_pos ⟨by rw [List.length_drop]; omega, by rw [List.length_drop]; omega, fun x hx => h1.2.2 x (List.mem_of_mem_drop hx)⟩, if_pos (Nat.le_trans hle h2)]
    · cases h
  · cases h
@[go_sem] def BatchOne_r (w : Wl) (l : List It) (cut : Nat) : D := .bool true
@[go_sem] abbrev n_BatchOne : FuncId := 5
@[go_sem] def BatchOne_T : Tab := [(8, sp_live), (9, sp_few17), (10, sp_bpayf), (11, sp_bsum), (16, sp_wsame), (17, sp_samenums)]
theorem BatchOne_T_ok : TabOk Tryz.prog BatchOne_T := (TabOk.cons sp_live_ok (TabOk.cons sp_few17_ok (TabOk.cons sp_bpayf_ok (TabOk.cons sp_bsum_ok (TabOk.cons sp_wsame_ok (TabOk.cons sp_samenums_ok TabOk.nil))))))
set_option maxRecDepth 8000 in
set_option maxHeartbeats 1000000 in
theorem BatchOne_ok (w : Wl) (l : List It) (cut : Nat) (h : w.f.next ≤ 18446744073709551615 ∧ cut ≤ 255) : PureFn Tryz.prog 5 [.agg [.sl (chs w.c), .sl (wts w.w), .sl (ivs w.i), .sl (pys w.p), .c (.int .u64 (w.f.next : Int)), .sl (evs w.f.l), .c (.int .u64 (w.next : Int)), .c (.int .u64 (w.tick : Int))], .sl (its l), .c (.int .u8 (cut : Int))] (BatchOne_r w l cut) := by
  refine .of (ac5 BatchOne_T_ok (Nat.le_of_ble_eq_true rfl) ?_)
  simp -implicitDefEqProofs only [cd_t, cd_f, cd_dec, cd_not, cd_and, cd_or, grd_tt, grd_ff, grd_tf, grd_ft, grd_dt, grd_df, grd_nt, grd_nf, go_sem, Go.Proofs.Tryz.f5, reduceIte, reduceCtorEq, Nat.reduceEqDiff, Nat.reduceAdd, Nat.reduceLeDiff, Nat.reduceSub, Nat.reduceMul, Nat.reduceLT, Nat.reduceShiftRight, Nat.reduceMod, Int.reduceLE, Int.reduceLT, Int.reduceToNat, decide_true, Bool.and_self, Bool.true_and, Ob.map.injEq, Ob.it.injEq, List.cons.injEq, true_and, and_true]
  obtain ⟨h, hcut⟩ := h
  refine ⟨fun _ _ => ⟨fun h1 _ => ⟨fun _ => trivial, fun h2 _ => ?_⟩, fun _ => trivial⟩, fun _ => trivial⟩
  have e1 : IntKind.i64.wrap ((l.length : Int) - 1) = ((l.length - 1 : Nat) : Int) := by rw [i64_in _ (by omega)]; omega
  have hk : ∃ k : Nat, IntKind.i64.wrap (1 + (IntKind.i64.wrap cut).tmod (IntKind.i64.wrap ((l.length : Int) - 1))) = k ∧ 1 ≤ k ∧ k < l.length := by
    refine ⟨1 + cut % (l.length - 1), ?_, by omega, by have := Nat.mod_lt cut (show 0 < l.length - 1 by omega); omega⟩
    have h3 := Nat.mod_lt cut (show 0 < l.length - 1 by omega)
    rw [e1, i64_in (cut : Int) (by omega), Int.tmod_eq_emod_of_nonneg (by omega), ← Int.natCast_emod, i64_in _ (by omega)]
    omega
  obtain ⟨k, hk0, hk1, hk2⟩ := hk
  rw [hk0]
  refine ⟨by rw [e1]; omega, h, ?_⟩
  refine ADraw.run us5_7 BatchOne_T_ok follows_mixed (by kernel_rfl) (by kernel_rfl) ?_
  simp -implicitDefEqProofs only [cd_t, cd_f, cd_dec, cd_not, cd_and, cd_or, grd_tt, grd_ff, grd_tf, grd_ft, grd_dt, grd_df, grd_nt, grd_nf, go_sem, reduceIte, reduceCtorEq, Nat.reduceEqDiff, Nat.reduceAdd, Nat.reduceLeDiff, Nat.reduceSub, Nat.reduceMul, Nat.reduceLT, Nat.reduceShiftRight, Nat.reduceMod, Int.reduceLE, Int.reduceLT, Int.reduceToNat, decide_true, Bool.and_self, Bool.true_and, Ob.map.injEq, Ob.it.injEq, List.cons.injEq, true_and, and_true]
  refine ⟨by omega, h, fun hs => ?_, fun hs => by rw [batW, if_neg hs]; exact ⟨fun _ => decide_eq_true rfl, fun h => h rfl⟩⟩
  have hbl : batW w l = payB w l := by rw [batW, if_pos hs]
  have hbk : batW w (l.take k) = payB w (l.take k) := by rw [batW, if_pos (sum_prefix hs hk1 (by omega))]
  rcases seq_or (l := l.take k) (w := w) with hok | ⟨i, x, g1, g2, g3⟩
  rotate_left 1
  · have hik : i < k := by
      have := (List.getElem?_eq_some_iff.1 g1).1
      rw [List.length_take] at this; omega
    have g1' : l[i]? = some x := by rwa [List.getElem?_take_of_lt hik] at g1
    have et : (l.take k).take i = l.take i := by rw [List.take_take, Nat.min_eq_left (by omega)]
    have hb1 := payB_at g1 g2 g3
    rw [et] at g2 g3 hb1
    have hb2 := payB_at g1' g2 g3
    rw [hbl, hbk, hb1, hb2]
    exact ⟨fun h => absurd h g3, fun _ => ⟨fun _ => decide_eq_true rfl, fun h => h rfl⟩⟩
  have hb1 := payB_ok hok
  rw [hbk, hb1]
  have hfx := seq_fnext h hok
  have hcat : l.take k ++ l.drop k = l := List.take_append_drop k l
  obtain ⟨a1, a2, a3⟩ := seq_app (l := l.take k) (w := w) (m := l.drop k)
  rw [hcat] at a1 a2 a3
  have hbd : batW (seqW w (l.take k)) (l.drop k) = payB (seqW w (l.take k)) (l.drop k) := by rw [batW, if_pos (sum_suffix hs hk2)]
  refine ⟨fun _ => ?_, fun h => absurd rfl h⟩
  refine ADraw.run us5_13 BatchOne_T_ok follows_mixed (by kernel_rfl) (by kernel_rfl) ?_
  simp -implicitDefEqProofs only [cd_t, cd_f, cd_dec, cd_not, cd_and, cd_or, grd_tt, grd_ff, grd_tf, grd_ft, grd_dt, grd_df, grd_nt, grd_nf, go_sem, reduceIte, reduceCtorEq, Nat.reduceEqDiff, Nat.reduceAdd, Nat.reduceLeDiff, Nat.reduceSub, Nat.reduceMul, Nat.reduceLT, Nat.reduceShiftRight, Nat.reduceMod, Int.reduceLE, Int.reduceLT, Int.reduceToNat, decide_true, Bool.and_self, Bool.true_and, Ob.map.injEq, Ob.it.injEq, List.cons.injEq, true_and, and_true]
  rw [hbd, hbl]
  rcases seq_or (l := l.drop k) (w := seqW w (l.take k)) with hok2 | ⟨j, y, g1, g2, g3⟩
  · have hokl := a3.2 ⟨hok, hok2⟩
    rw [payB_ok hok2, payB_ok hokl]
    refine ⟨by omega, hfx, fun _ => ⟨fun _ => ⟨a1, ?_, decide_eq_true a2⟩, fun h => h rfl⟩, fun h => absurd rfl h⟩
    dsimp only
    rw [seqI_len, seqI_len, List.length_take, List.length_drop]; omega
  · have hjl : k + j < l.length := by
      have := (List.getElem?_eq_some_iff.1 g1).1
      rw [List.length_drop] at this; omega
    have g1' : l[k + j]? = some y := by rwa [List.getElem?_drop] at g1
    have et : l.take (k + j) = l.take k ++ (l.drop k).take j := List.take_add
    obtain ⟨b1, _, b3⟩ := seq_app (l := l.take k) (w := w) (m := (l.drop k).take j)
    rw [← et] at b1 b3
    have hokj := b3.2 ⟨hok, g2⟩
    have g3' := g3
    rw [← b1] at g3'
    have hb2 := payB_at g1' hokj g3'
    rw [payB_at g1 g2 g3, hb2, b1]
    refine ⟨by omega, hfx, fun h => absurd h g3, fun _ => ⟨fun _ => decide_eq_true ?_, fun h => h rfl⟩⟩
    dsimp only
    rw [i64_in _ (by omega)]; omega
@[go_sem] def BatchOne_p (w : Wl) (l : List It) (cut : Nat) : Prop := (w.f.next ≤ 18446744073709551615 ∧ cut ≤ 255)
def sp_BatchOne : List D → Option (Prop × D × Fr)
  | [.agg [.c (.sl z2), .c (.sl z3), .c (.sl z4), .c (.sl z5), .c (.int .u64 z7), .c (.sl z8), .c (.int .u64 z9), .c (.int .u64 z10)], .c (.sl z11), .c (.int .u8 z12)] => some (z2 = chs (dchs z2) ∧ z3 = wts (dwts z3) ∧ z4 = ivs (divs z4) ∧ z5 = pys (dpys z5) ∧ z7 = (z7.toNat : Int) ∧ z8 = evs (devs z8) ∧ z9 = (z9.toNat : Int) ∧ z10 = (z10.toNat : Int) ∧ z11 = its (dits z11) ∧ z12 = (z12.toNat : Int) ∧ BatchOne_p (⟨(dchs z2), (dwts z3), (divs z4), (dpys z5), (⟨z7.toNat, (devs z8)⟩ : Fd), z9.toNat, z10.toNat⟩ : Wl) (dits z11) z12.toNat, BatchOne_r (⟨(dchs z2), (dwts z3), (divs z4), (dpys z5), (⟨z7.toNat, (devs z8)⟩ : Fd), z9.toNat, z10.toNat⟩ : Wl) (dits z11) z12.toNat, [])
  | _ => none
attribute [go_sem] sp_BatchOne
theorem sp_BatchOne_ok : ∀ rs p r fr, sp_BatchOne rs = some (p, r, fr) → p → FnOk Tryz.prog 5 rs r fr := by
  intro rs p r fr h hp
  unfold sp_BatchOne at h
  split at h <;> cases h
  obtain ⟨hc0, hc1, hc2, hc3, hc4, hc5, hc6, hc7, hc8, hc9, hp⟩ := hp
  rename_i z2 z3 z4 z5 z7 z8 z9 z10 z11 z12
  obtain ⟨z2, rfl⟩ : ∃ m, z2 = chs m := ⟨_, hc0⟩
  obtain ⟨z3, rfl⟩ : ∃ m, z3 = wts m := ⟨_, hc1⟩
  obtain ⟨z4, rfl⟩ : ∃ m, z4 = ivs m := ⟨_, hc2⟩
  obtain ⟨z5, rfl⟩ : ∃ m, z5 = pys m := ⟨_, hc3⟩
  obtain ⟨z7, rfl⟩ : ∃ m : Nat, z7 = m := ⟨_, hc4⟩
  obtain ⟨z8, rfl⟩ : ∃ m, z8 = evs m := ⟨_, hc5⟩
  obtain ⟨z9, rfl⟩ : ∃ m : Nat, z9 = m := ⟨_, hc6⟩
  obtain ⟨z10, rfl⟩ : ∃ m : Nat, z10 = m := ⟨_, hc7⟩
  obtain ⟨z11, rfl⟩ : ∃ m, z11 = its m := ⟨_, hc8⟩
  obtain ⟨z12, rfl⟩ : ∃ m : Nat, z12 = m := ⟨_, hc9⟩
  simp only [Int.toNat_natCast, dchs_chs, devs_evs, dits_its, divs_ivs, dpys_pys, dwts_wts]
  simp only [Int.toNat_natCast, dchs_chs, devs_evs, dits_its, divs_ivs, dpys_pys, dwts_wts, BatchOne_p] at hp
  exact BatchOne_ok ⟨z2, z3, z4, z5, ⟨z7, z8⟩, z9, z10⟩ z11 z12 hp
end Dm
