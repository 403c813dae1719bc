import Derived.Test.YtpaojpjhppgoeaaS18
import Derived.LoopNIn
set_option linter.unusedSimpArgs false
set_option linter.unusedVariables false
/-! Iterators: code that calls yield. -/
namespace Dm
open Go
abbrev Sg (m : Nat) := List (Fin m) × Bool
section
variable {P : Program} {T : Tab} {g : G} {s s' : St} {a : Act} {w w' : World} {n l m : Nat}

/-- What an iterator is told of its rounds. -/
structure YOk (P : Program) (l : Nat) (I : Nat → Prop) {m : Nat} (ys : Fin m → List D) (enc : Fin m → Array Value) (J Jx : List (Fin m) → World → Prop) : Prop where
  round : ∀ pre x W1, J pre W1 → pre.length < m → YieldAt Fence.wide 3 P l (enc x) W1 fun e W' =>
      (e = .returned (.bool true) ∧ J (pre ++ [x]) W' ∧ ∀ b, I b → Cel W1 b → W'.heap[b]? = W1.heap[b]?) ∨ (e = .returned (.bool false) ∧ Jx (pre ++ [x]) W')
  grow : ∀ pre W W', J pre W → Ext W W' → J pre W'
  growx : ∀ pre W W', Jx pre W → Ext W W' → Jx pre W'
  enc : ∀ x (g : G) (W : World) (vs : Array Value), vs.size = (ys x).length → (∀ (i : Nat) (v : Value) (d : D), vs[i]? = some v → (ys x)[i]? = some d → VRel g W v d) → vs = enc x

def RelY (I : Nat → Prop) {m : Nat} (J Jx : List (Fin m) → World → Prop) (s : St) (σ : Sg m) (a : Act) (w : World) : Prop :=
  s.os = [] ∧ s.nx = 0 ∧ match σ.2 with
    | true => Rel [] (G0 I) s a w ∧ J σ.1 w
    | false => Rel [] (G0 fun _ => False) s a w ∧ Jx σ.1 w

def SY (P : Program) (n : Nat) (I : Nat → Prop) {m : Nat} (J Jx : List (Fin m) → World → Prop) (c : Code) (Q : Exit → St → Sg m → Prop) (s : St) (σ : Sg m) : Prop :=
  ∀ a w, RelY I J Jx s σ a w → a.tmps.size = n → c.wpIn Fence.wide 4 P (fun e a' w' => ∃ s' σ', Q e s' σ' ∧ RelY I J Jx s' σ' a' w' ∧ a'.tmps.size = n) a w

/-- A call of yield. -/
def yargs (o : Oper) (s : St) (l : Nat) : Option (List D) := match o.op with
  | .call c => match c.callee with
    | .value f => match s.ev f with
      | .fn (.yield l') [] [] => if l' = l then some (c.args.toList.map s.ev) else none
      | _ => none
    | _ => none
  | _ => none
/-- Numbers alone are known behind the last round. -/
def numsL : List Nat → List (Nat × D) → List (Nat × D)
  | _, [] => []
  | seen, (t, d) :: l => if seen.contains t = true then numsL seen l else if d.scal = true then (t, d) :: numsL (t :: seen) l else numsL (t :: seen) l
def St.nums (s : St) : St := ⟨numsL [] s.tm, [], 0⟩
def aopsY (P : Program) (T : Tab) (l : Nat) {m : Nat} (ys : Fin m → List D) (K : St → Sg m → Prop) : List Oper → St → Sg m → Prop
  | [], s, σ => K s σ
  | o :: rest, s, σ => o.guard = none ∧ match yargs o s l with
    | some ds => σ.2 = true ∧ σ.1.length < m ∧ ∃ x, ds = ys x ∧ aopsY P T l ys K rest (s.put o.dst (.bool true)) (σ.1 ++ [x], true) ∧ aopsY P T l ys K rest (s.nums.put o.dst (.bool false)) (σ.1 ++ [x], false)
    | none => aopQ P T o s fun s' => aopsY P T l ys K rest s' σ

variable {I : Nat → Prop} {ys : Fin m → List D} {enc : Fin m → Array Value} {J Jx : List (Fin m) → World → Prop}

theorem Rel.ext0 {I : Nat → Prop} (hr : Rel [] (G0 I) s a w) (hext : Ext w w') : Rel [] (G0 I) s a w' := by
  obtain ⟨h1, h2⟩ := hr.o.grow hext (I := I) (fun b hb => hb) (fun b _ hb => hb) (fun b hb => (hr.o.cel b hb).keep (hext.2.1 b (hr.o.imm b hb).1))
  exact ⟨fun t d ht => let ⟨v, h3, h4⟩ := hr.tm t d ht; ⟨v, h3, h2.vrel hr.o h4⟩, hr.defers, h1⟩

theorem RelY.put {σ : Sg m} (h : RelY I J Jx s σ a w) (t : Option Tmp) {v : Value} {d : D} (hv : ∀ g, (σ.2 = true → g = G0 I) → (σ.2 = false → g = G0 fun _ => False) → VRel g w v d) (ht : ∀ x, t = some x → x < a.tmps.size) : RelY I J Jx (s.put t d) σ (a.put t v) w := by
  obtain ⟨h1, h2, h3⟩ := h
  refine ⟨by cases t <;> exact h1, by cases t <;> exact h2, ?_⟩
  obtain ⟨pre, b⟩ := σ
  cases b
  · exact ⟨h3.1.put t (hv _ (fun h => by cases h) fun _ => rfl) ht, h3.2⟩
  · exact ⟨h3.1.put t (hv _ (fun _ => rfl) fun h => by cases h) ht, h3.2⟩

theorem RelY.ext {σ : Sg m} (hY : YOk P l I ys enc J Jx) (h : RelY I J Jx s σ a w) (hext : Ext w w') : RelY I J Jx s σ a w' := by
  obtain ⟨h1, h2, h3⟩ := h
  refine ⟨h1, h2, ?_⟩
  obtain ⟨pre, b⟩ := σ
  cases b
  · exact ⟨h3.1.ext0 hext, hY.growx _ _ _ h3.2 hext⟩
  · exact ⟨h3.1.ext0 hext, hY.grow _ _ _ h3.2 hext⟩

/-- One operation that is no call of yield. -/
theorem opY (hT : TabOk P T) (hY : YOk P l I ys enc J Jx) {σ : Sg m} {o : Oper} {K : St → Prop} (h : aopQ P T o s K) (hr : RelY I J Jx s σ a w) (hn : a.tmps.size = n) (hd : ∀ x, o.dst = some x → x < n) {KK : Act → World → Prop} {Q : Exit → Act → World → Prop}
    (hK : ∀ s' a' w', K s' → RelY I J Jx s' σ a' w' → a'.tmps.size = n → KK a' w') : o.wpIn Fence.wide 4 P a w KK Q := by
  have main : ∃ (v : Value) (d : D), QVal P o a w v ∧ K (s.put o.dst d) ∧ ∀ w', Ext w w' → RelY I J Jx (s.put o.dst d) σ (a.put o.dst v) w' := by
    obtain ⟨h1, h2, h3⟩ := hr
    obtain ⟨pre, b⟩ := σ
    cases b
    · obtain ⟨v, d, h4, h5, h6⟩ := aopQ_sound hT o h h3.1
      refine ⟨v, d, h4, h6, fun w' hext => RelY.ext hY (σ := (pre, false)) (RelY.put (σ := (pre, false)) ⟨h1, h2, h3⟩ o.dst (fun g _ hg => by rw [hg rfl]; exact h5) (fun x hx => by rw [hn]; exact hd x hx)) hext⟩
    · obtain ⟨v, d, h4, h5, h6⟩ := aopQ_sound hT o h h3.1
      refine ⟨v, d, h4, h6, fun w' hext => RelY.ext hY (σ := (pre, true)) (RelY.put (σ := (pre, true)) ⟨h1, h2, h3⟩ o.dst (fun g hg _ => by rw [hg rfl]; exact h5) (fun x hx => by rw [hn]; exact hd x hx)) hext⟩
  obtain ⟨v, d, h4, h5, h6⟩ := main
  refine ⟨fun f _ => trivial, ?_⟩
  have hq := h4 w (.refl w)
  unfold Oper.quietAt at hq
  have hsem : Oper.semAt Fence.wide.round a.eval o = execOp a.eval o := rfl
  rw [hsem]
  generalize (execOp a.eval o).run P w = r at hq ⊢
  have fin : ∀ w', Ext w w' → KK (a.put o.dst v) w' := fun w' hext => hK _ _ _ h5 (h6 w' hext) (by rw [put_size, hn])
  cases r with
  | ok nx w1 =>
    cases nx with
    | value u => obtain ⟨rfl, rfl⟩ := hq; exact fin _ (.refl _)
    | skip => obtain ⟨rfl, rfl⟩ := hq; exact fin _ (.refl _)
    | enter f args =>
      obtain ⟨rfl, hc⟩ := hq
      refine ⟨fun hh => (by cases hh), callsIn_wide.2 (hc.mono ?_)⟩
      rintro e w2 ⟨rfl, hext⟩
      exact fin w2 hext
    | _ => exact hq.elim
  | halt x w1 => exact hq.elim

theorem nums_lk {t : Nat} {d : D} : ∀ (tm : List (Nat × D)) (seen : List Nat), lk t (numsL seen tm) = some d → seen.contains t = false ∧ lk t tm = some d ∧ d.scal = true
  | [], seen, h => by cases h
  | (u, e) :: l, seen, h => by
    simp only [numsL] at h
    split at h
    · rename_i hc
      obtain ⟨h1, h2, h3⟩ := nums_lk l seen h
      refine ⟨h1, ?_, h3⟩
      rw [lk_cons, if_neg (fun e => by subst e; rw [h1] at hc; cases hc)]
      exact h2
    · rename_i hc
      split at h
      · rename_i hs
        rw [lk_cons] at h
        split at h
        · rename_i e'
          cases h
          subst e'
          exact ⟨by simpa using hc, by rw [lk_cons, if_pos rfl], hs⟩
        · rename_i hne
          obtain ⟨h1, h2, h3⟩ := nums_lk l _ h
          exact ⟨by simp at h1 ⊢; exact h1.2, by rw [lk_cons, if_neg hne]; exact h2, h3⟩
      · obtain ⟨h1, h2, h3⟩ := nums_lk l _ h
        have hne : ¬ t = u := by simp at h1; exact h1.1
        exact ⟨by simp at h1 ⊢; exact h1.2, by rw [lk_cons, if_neg hne]; exact h2, h3⟩

/-- A call of yield. -/
theorem yieldY (hY : YOk P l I ys enc J Jx) {pre : List (Fin m)} {o : Oper} {ds : List D} (hy : yargs o s l = some ds) (hlen : pre.length < m) {x : Fin m} (hx : ds = ys x) (hr : RelY I J Jx s (pre, true) a w) (hn : a.tmps.size = n) (hd : ∀ t, o.dst = some t → t < n)
    {KK : Act → World → Prop} {Q : Exit → Act → World → Prop}
    (hK : ∀ w', RelY I J Jx (s.put o.dst (.bool true)) (pre ++ [x], true) (a.put o.dst (.bool true)) w' → KK (a.put o.dst (.bool true)) w')
    (hK' : ∀ w', RelY I J Jx (s.nums.put o.dst (.bool false)) (pre ++ [x], false) (a.put o.dst (.bool false)) w' → KK (a.put o.dst (.bool false)) w') : o.wpIn Fence.wide 4 P a w KK Q := by
  obtain ⟨h1, h2, h3, h4⟩ := hr
  unfold yargs at hy
  split at hy <;> try cases hy
  rename_i c ho
  split at hy <;> try cases hy
  rename_i f hc
  split at hy <;> try cases hy
  rename_i l' hf
  split at hy <;> cases hy
  rename_i hl
  subst hl
  have hff := h3.ev f
  rw [hf] at hff
  generalize hfv : a.eval f = fv at hff
  cases hff with
  | fn _ fiv cav _ _ h5 h6 h7 h8 =>
  have e1 : fiv = #[] := Array.eq_empty_of_size_eq_zero (by simpa using h5)
  have e2 : cav = #[] := Array.eq_empty_of_size_eq_zero (by simpa using h6)
  subst e1; subst e2
  obtain ⟨h9, h10⟩ := map_rel h3 c.args
  have henc : c.args.map a.eval = enc x := hY.enc x _ w _ (by rw [h9, hx]) (fun i v d hv hd => h10 i v d hv (by rw [hx]; exact hd))
  obtain ⟨fn, tmps, assign, body, hrun, hround⟩ := hY.round pre x w h4 hlen
  refine ⟨fun f _ => trivial, ?_⟩
  have hsem : Oper.semAt Fence.wide.round a.eval o = execOp a.eval o := rfl
  rw [hsem]
  have hex : (execOp a.eval o).run P w = .ok (.round l' fn tmps assign body) w := by
    unfold execOp
    simp [ho, resolve, hc, hfv, Deferred.ofValue, invoke, henc, hrun]
  rw [hex]
  refine ⟨fun hh => (by cases hh), hround.mono ?_⟩
  rintro e w' (⟨rfl, hj, hkp⟩ | ⟨rfl, hj⟩)
  · refine hK w' (RelY.put (σ := (pre ++ [x], true)) ⟨h1, h2, ?_, hj⟩ o.dst (fun g _ _ => .c _ _ (.bool _)) fun t ht => by rw [hn]; exact hd t ht)
    have hk : Keeps I w w' := fun b hb => hkp b hb (h3.o.cel b hb)
    refine ⟨fun t d ht => let ⟨v, h11, h12⟩ := h3.tm t d ht; ⟨v, h11, h12.mono hk (.refl _)⟩, h3.defers, ⟨fun id o h => ?_, fun id o id' o' b h => ?_, fun id _ => ⟨rfl, rfl⟩, fun b hb => ⟨((h3.o.cel b hb).keep (hk b hb)).lt, (h3.o.imm b hb).2⟩, fun b hb => (h3.o.cel b hb).keep (hk b hb)⟩⟩
    · rw [h1] at h; cases h
    · rw [h1] at h; cases h
  · refine hK' w' (RelY.put (σ := (pre ++ [x], false)) ⟨rfl, rfl, ⟨fun t d ht => ?_, h3.defers, ⟨fun id o h => (by cases h), fun id o id' o' b h => (by cases h), fun id _ => ⟨rfl, rfl⟩, fun b hb => hb.elim, fun b hb => hb.elim⟩⟩, hj⟩ o.dst (fun g _ _ => .c _ _ (.bool _)) fun t ht => by rw [hn]; exact hd t ht)
    obtain ⟨_, h11, h12⟩ := nums_lk _ _ ht
    obtain ⟨v, h13, h14⟩ := h3.tm t d h11
    exact ⟨v, h13, h14.any h12⟩

theorem aopsY_sound (hT : TabOk P T) (hY : YOk P l I ys enc J Jx) (all : Array Oper) {K : St → Sg m → Prop} {Q : Exit → Act → World → Prop} : ∀ (ops : List Oper) {s : St} {σ : Sg m} {a : Act} {w : World}, (∀ o ∈ ops, dstOk1 n o = true) → aopsY P T l ys K ops s σ → RelY I J Jx s σ a w → a.tmps.size = n →
    (∀ s' σ' a' w', K s' σ' → RelY I J Jx s' σ' a' w' → a'.tmps.size = n → Q .normal a' w') → wpListIn Fence.wide 4 P all Q ops a w
  | [], s, σ, a, w, _, h, hr, hn, hQ => hQ _ _ _ _ h hr hn
  | o :: rest, s, σ, a, w, hd, h, hr, hn, hQ => by
    have hdo : ∀ x, o.dst = some x → x < n := fun x hx => by
      have := hd o (by simp)
      unfold dstOk1 at this
      rw [hx] at this
      simpa using this
    have hrest : ∀ o ∈ rest, dstOk1 n o = true := fun o ho => hd o (by simp [ho])
    obtain ⟨hg, h⟩ := h
    have hw : Region.wanted o (yielded all a.tmps) = true := by simp [Region.wanted, hg]
    simp only [wpListIn, hw, if_true]
    split at h
    · rename_i ds hds
      obtain ⟨hlive, hlen, x, hx, h1, h2⟩ := h
      obtain ⟨pre, b⟩ := σ
      have hb : b = true := hlive
      subst hb
      exact yieldY hY hds hlen hx hr hn hdo (fun w' hr' => aopsY_sound hT hY all rest hrest h1 hr' (by rw [put_size, hn]) hQ) (fun w' hr' => aopsY_sound hT hY all rest hrest h2 hr' (by rw [put_size, hn]) hQ)
    · exact opY hT hY h hr hn hdo fun s' a' w' hK hr' hn' => aopsY_sound hT hY all rest hrest hK hr' hn' hQ

theorem RelY.sub {σ : Sg m} (h : RelY I J Jx s σ a w) (hs : s'.os = [] ∧ s'.nx = 0 ∧ subT s.tm s'.tm) : RelY I J Jx s' σ a w := by
  obtain ⟨h1, h2, h3⟩ := h
  have key : ∀ {I : Nat → Prop}, Rel [] (G0 I) s a w → Rel [] (G0 I) s' a w := fun hr => ⟨fun t d ht => by
    obtain ⟨d', h4, h5⟩ := subT_get hs.2.2 ht
    obtain ⟨v, h6, h7⟩ := hr.tm t d' h4
    exact ⟨v, h6, h7.le h5⟩, hr.defers, ⟨fun id o h => (by rw [hs.1] at h; cases h), fun id o id' o' b h => (by rw [hs.1] at h; cases h), fun id _ => ⟨rfl, rfl⟩, fun b hb => ⟨(hr.o.imm b hb).1, fun ⟨id, o, h, _⟩ => by rw [hs.1] at h; cases h⟩, hr.o.cel⟩⟩
  refine ⟨hs.1, hs.2.1, ?_⟩
  obtain ⟨pre, b⟩ := σ
  cases b
  · exact ⟨key h3.1, h3.2⟩
  · exact ⟨key h3.1, h3.2⟩

theorem SY.region (hT : TabOk P T) (hY : YOk P l I ys enc J Jx) {i : Nat} {ops : Array Oper} {Q : Exit → St → Sg m → Prop} {σ : Sg m} (hd : ops.toList.all (dstOk1 n) = true) (h : aopsY P T l ys (Q .normal) ops.toList s σ) : SY P n I J Jx (.region i ops false) Q s σ := fun a w hr hn =>
  wpIn_region_list (aopsY_sound hT hY ops ops.toList (fun o ho => List.all_eq_true.1 hd o ho) h hr hn fun s' σ' a' w' h1 h2 h3 => ⟨s', σ', h1, h2, h3⟩)
theorem SY.seq {x y : Code} {Q : Exit → St → Sg m → Prop} {σ : Sg m} (h : SY P n I J Jx x (fun e s σ => match e with | .normal => SY P n I J Jx y Q s σ | e => Q e s σ) s σ) : SY P n I J Jx (.seq x y) Q s σ := fun a w hr hn => by
  refine wpIn_seq (wpIn_mono (h a w hr hn) fun e a' w' ⟨s', σ', h1, h2, h3⟩ => ?_)
  cases e with
  | normal => exact h1 a' w' h2 h3
  | _ => exact ⟨s', σ', h1, h2, h3⟩
theorem RelY.ev {σ : Sg m} (h : RelY I J Jx s σ a w) {c : Operand} {b : Bool} (hc : s.ev c = .bool b) : a.eval c = .bool b := by
  obtain ⟨h1, h2, h3⟩ := h
  obtain ⟨pre, b'⟩ := σ
  cases b'
  · have := h3.1.ev c; rw [hc] at this; exact this.bool_inv
  · have := h3.1.ev c; rw [hc] at this; exact this.bool_inv
theorem SY.cond {c : Operand} {x y : Code} {b : Bool} {Q : Exit → St → Sg m → Prop} {σ : Sg m} (hc : s.ev c = .bool b) (h1 : b = true → SY P n I J Jx x Q s σ) (h2 : b = false → SY P n I J Jx y Q s σ) : SY P n I J Jx (.cond c x y) Q s σ := fun a w hr hn => by
  refine wpIn_cond (hr.ev hc) ?_
  cases b with
  | true => exact h1 rfl a w hr hn
  | false => exact h2 rfl a w hr hn
theorem SY.skip {Q : Exit → St → Sg m → Prop} {σ : Sg m} (h : Q .normal s σ) : SY P n I J Jx .skip Q s σ := fun a w hr hn => wpIn_skip ⟨s, σ, h, hr, hn⟩
theorem SY.ret {Q : Exit → St → Sg m → Prop} {σ : Sg m} (h : Q .ret s σ) : SY P n I J Jx .ret Q s σ := fun a w hr hn => wpIn_ret ⟨s, σ, h, hr, hn⟩
theorem SY.exit {i : Nat} {Q : Exit → St → Sg m → Prop} {σ : Sg m} (h : Q (.exit i) s σ) : SY P n I J Jx (.exit i) Q s σ := fun a w hr hn => wpIn_exit ⟨s, σ, h, hr, hn⟩
theorem SY.block {i : Nat} {c : Code} {Q : Exit → St → Sg m → Prop} {σ : Sg m} (h : SY P n I J Jx c (fun e s σ => match e with | .exit j => if j = i then Q .normal s σ else Q (.exit j) s σ | e => Q e s σ) s σ) : SY P n I J Jx (.block i c) Q s σ := fun a w hr hn => by
  refine wpIn_block (wpIn_mono (h a w hr hn) fun e a' w' ⟨s', σ', h1, h2, h3⟩ => ?_)
  cases e with
  | exit j =>
    simp only [Exit.inBlock]
    dsimp only at h1
    split
    · rename_i hj; rw [if_pos hj] at h1; exact ⟨s', σ', h1, h2, h3⟩
    · rename_i hj; rw [if_neg hj] at h1; exact ⟨s', σ', h1, h2, h3⟩
  | _ => exact ⟨s', σ', h1, h2, h3⟩
/-- A loop over a number that grows to at most 'k'. -/
theorem SY.loop {c : Code} {Q : Exit → St → Sg m → Prop} {σ : Sg m} (k : Nat) (S : Nat → St) (G' : Nat → Sg m) (i0 : Nat) (h0 : ∀ a w, RelY I J Jx s σ a w → RelY I J Jx (S i0) (G' i0) a w) (hi0 : i0 ≤ k)
    (hround : ∀ i, i ≤ k → SY P n I J Jx c (fun e s' σ' => match e with | .normal => i < k ∧ σ' = G' (i + 1) ∧ (S (i + 1)).os = [] ∧ (S (i + 1)).nx = 0 ∧ subT s'.tm (S (i + 1)).tm | e => Q e s' σ') (S i) (G' i)) : SY P n I J Jx (.loop c) Q s σ := by
  have key : ∀ (j i : Nat) (a : Act) (w : World), i ≤ k → k - i = j → RelY I J Jx (S i) (G' i) a w → a.tmps.size = n →
      Code.roundsIn Fence.wide 4 P c (fun e a' w' => ∃ s' σ', Q e s' σ' ∧ RelY I J Jx s' σ' a' w' ∧ a'.tmps.size = n) (j + 1) a w := by
    intro j
    induction j with
    | zero =>
      intro i a w hi hj hr hn
      refine wpIn_mono (hround i hi a w hr hn) fun e a' w' ⟨s', σ', h1, h2, h3⟩ => ?_
      cases e with
      | normal => have := h1.1; omega
      | _ => exact ⟨s', σ', h1, h2, h3⟩
    | succ j ih =>
      intro i a w hi hj hr hn
      refine wpIn_mono (hround i hi a w hr hn) fun e a' w' ⟨s', σ', h1, h2, h3⟩ => ?_
      cases e with
      | normal =>
        obtain ⟨h4, rfl, h5, h6, h7⟩ := h1
        exact ih (i + 1) a' w' h4 (by omega) (h2.sub ⟨h5, h6, h7⟩) h3
      | _ => exact ⟨s', σ', h1, h2, h3⟩
  exact fun a w hr hn => wpIn_loop_rounds (k - i0 + 1) (key (k - i0) i0 a w hi0 rfl (h0 a w hr) hn)
end
end Dm
