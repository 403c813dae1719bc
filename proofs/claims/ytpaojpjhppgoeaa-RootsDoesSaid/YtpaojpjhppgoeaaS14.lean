import Derived.Test.YtpaojpjhppgoeaaS13
import Derived.Test.YtpaojpjhppgoeaaFresh2
set_option linter.unusedSimpArgs false
set_option linter.unusedVariables false
/-! A region that draws its order, all of whose operations only compute and read: one walk in the text's order. -/
namespace Dm
open Go

/-- Operations that only compute and read. -/
def quietOp : Op → Bool
  | .move _ => true
  | .assign _ => true
  | .pick _ _ _ => true
  | .load _ _ => true
  | .nilCheck _ => true
  | .binOp _ _ _ _ _ => true
  | .unOp _ _ _ => true
  | .convert _ _ _ => true
  | .makeFunc _ _ _ => true
  | .fieldAddr _ _ _ => true
  | .field _ _ _ => true
  | .indexAddr _ _ _ => true
  | .index _ _ _ => true
  | .extract _ _ => true
  | .build _ _ => true
  | .call c => match c.callee with
    | .builtin .len => true
    | .builtin .min => true
    | .builtin .max => true
    | _ => false
  | _ => false

/-- A call whose result is numbers alone. -/
def QCall (P : Program) (f : FuncId) (ds : List D) (os : List (Nat × Ob)) (K : D → Prop) : Prop :=
  ∃ rs r, PureFn P f rs r ∧ r.scal = true ∧ pw (pur2 os) ds rs ∧ K r

theorem sh3_scal {k : Nat} {r : D} (h : (r.sh3 k).scal = true) : r.scal = true := by
  have h1 : ∀ d : D, (d.sh1 k).scal1 = true → d.scal1 = true := fun d hd => by
    cases d <;> first | exact hd | cases hd
  have h2 : ∀ d : D, (d.sh2 k).scal1 = true → d.scal1 = true := fun d hd => by
    cases d <;> first | exact h1 _ hd | cases hd
  cases r with
  | tup l =>
    simp only [D.sh3, D.scal, List.all_map, List.all_eq_true] at h ⊢
    exact fun x hx => h2 x (h x hx)
  | agg l =>
    simp only [D.sh3, D.sh2, D.scal, List.all_map, List.all_eq_true] at h ⊢
    exact fun x hx => h1 x (h x hx)
  | _ => first | exact h | cases h
/-- A call by the table, whose result is numbers alone. -/
def XQ (P : Program) (T : Tab) (f : FuncId) (ds : List D) (os : List (Nat × Ob)) (K : D → Prop) : Prop :=
  match look T os 0 f ds with
  | some (p, r, _) => p ∧ r.scal = true ∧ K r
  | none => QCall P f ds os K
theorem TabOk.q {P : Program} {T : Tab} (hT : TabOk P T) {f : FuncId} {ds : List D} {os : List (Nat × Ob)} {K : D → Prop} (h : XQ P T f ds os K) : QCall P f ds os K := by
  unfold XQ at h
  split at h
  · rename_i p r os' hl
    unfold look at hl
    split at hl
    · rename_i sp hsp
      split at hl
      · rename_i rs hrs
        split at hl
        · rename_i p' r' fr hs
          cases hl
          have hf := hT f sp rs _ _ _ hsp hs h.1
          cases fr with
          | nil => exact ⟨rs, r', hf, h.2.1, pures2_pur hrs, h.2.2⟩
          | cons x l =>
            have h3 := hf.1
            have h4 : (r'.sh3 0).scal = true := h.2.1
            rw [sh3_scal h4] at h3
            cases h3
        · cases hl
      · cases hl
    · cases hl
  · exact h

def aopQ (P : Program) (T : Tab) (o : Oper) (s : St) (K : St → Prop) : Prop :=
  match o.op with
  | .call c => match c.callee with
    | .value f => match s.ev f with
      | .fn (.func gf) fi ca => XQ P T gf (fi ++ c.args.toList.map s.ev ++ ca) s.os fun v => K (s.put o.dst v)
      | _ => False
    | _ => quietOp o.op = true ∧ aop P T o s K
  | .slice t x lo hi mx => okP (sliceD P t (s.ev x) (lo.map s.ev) (hi.map s.ev) (mx.map s.ev)) o.dst s K
  | _ => quietOp o.op = true ∧ aop P T o s K
def aopsQ (P : Program) (T : Tab) (all : Array Oper) : List Oper → St → (St → Prop) → Prop
  | [], s, K => K s
  | o :: rest, s, K => match o.guard with
    | none => aopQ P T o s fun s' => aopsQ P T all rest s' K
    | some (j, w) => grd (gtmp all j) (s.gd (gtmp all j)) w (fun s => aopQ P T o s fun s' => aopsQ P T all rest s' K) (fun s => aopsQ P T all rest (s.put o.dst .skip) K) s

section
variable {δ : List Deferred} {P : Program} {T : Tab} {g g' : G} {s s' : St} {a : Act} {w w' : World} {n N : Nat}

theorem Ext.trans {w1 w2 w3 : World} (h : Ext w1 w2) (h' : Ext w2 w3) : Ext w1 w3 := ⟨Nat.le_trans h.1 h'.1, fun b hb => (h'.2.1 b (Nat.lt_of_lt_of_le hb h.1)).trans (h.2.1 b hb), h.2.2.trans h'.2.2⟩

/-- An operation that yields this value here and in each later world. -/
def QVal (P : Program) (o : Oper) (a : Act) (w : World) (v : Value) : Prop := ∀ w', Ext w w' → o.quietAt P a (Ext w) w' v

theorem QVal.of {o : Oper} {v : Value} (h : ∀ w', Ext w w' → (execOp a.eval o).run P w' = .ok (.value v) w') : QVal P o a w v := fun w' hw' => by
  unfold Oper.quietAt
  rw [h w' hw']
  exact ⟨rfl, rfl⟩

set_option maxHeartbeats 1000000 in
theorem aop_quiet (T : Tab) (o : Oper) (hq : quietOp o.op = true) {K : St → Prop} (h : aop P T o s K) (hr : Rel δ g s a w) :
    ∃ v d, QVal P o a w v ∧ VRel g w v d ∧ K (s.put o.dst d) := by
  unfold aop at h
  split at h
  · rename_i x ho
    exact ⟨_, _, .of fun w' _ => by unfold execOp; simp only [ho]; rfl, hr.ev x, h⟩
  · rename_i x ho
    exact ⟨_, _, .of fun w' _ => by unfold execOp; simp only [ho]; rfl, hr.ev x, h⟩
  · rename_i c x y ho
    unfold pk at h
    split at h
    · rename_i b hb
      have hc := hr.ev c
      rw [hb] at hc
      have hc' := hc.bool_inv
      cases b with
      | true => exact ⟨_, _, .of fun w' _ => by unfold execOp; simp [ho, hc', asBool], hr.ev x, h.1 rfl⟩
      | false => exact ⟨_, _, .of fun w' _ => by unfold execOp; simp [ho, hc', asBool], hr.ev y, h.2 rfl⟩
    · cases h
  · rename_i t ho; rw [ho] at hq; cases hq
  · rename_i t x ho; rw [ho] at hq; cases hq
  · rename_i t ps ho
    unfold okD at h
    split at h
    · rename_i d hb
      obtain ⟨h1, h2⟩ := parts_rel hr ps
      obtain ⟨r, h3, h4⟩ := build_sound h1 h2 hb (ps.map fun (i, x) => (i, a.eval x)) rfl
      exact ⟨r, d, .of fun w' hw' => by unfold execOp; simp [ho, h3 w' hw'], h4, h⟩
    · cases h
  · rename_i t k ps ho; rw [ho] at hq; cases hq
  · rename_i t x ho
    unfold okD at h
    split at h
    · rename_i d hl
      obtain ⟨r, h1, h2⟩ := hr.load (hr.ev x) hl
      exact ⟨r, d, .of fun w' hw' => by unfold execOp; simp [ho, h1 w' hw'], h2, h⟩
    · cases h
  · rename_i t p x ho; rw [ho] at hq; cases hq
  · rename_i x ho
    unfold nchk at h
    have hx := hr.ev x
    generalize hxv : a.eval x = xv at hx
    split at h
    · rename_i id off he
      rw [he] at hx
      have hx' := hx
      cases hx' with
      | ref b _ _ hb => exact ⟨_, _, .of fun w' _ => by unfold execOp; simp [ho, hxv], hx, h⟩
    · rename_i id m sz i off he
      rw [he] at hx
      have hx' := hx
      cases hx' with
      | eref => exact ⟨_, _, .of fun w' _ => by unfold execOp; simp [ho, hxv], hx, h⟩
    · rename_i cs he
      rw [he] at hx
      have hx' := hx
      cases hx' with
      | rp => exact ⟨_, _, .of fun w' _ => by unfold execOp; simp [ho, hxv], hx, h⟩
    · rename_i f fi ca he
      rw [he] at hx
      have hx' := hx
      cases hx' with
      | fn => exact ⟨_, _, .of fun w' _ => by unfold execOp; simp [ho, hxv], hx, h⟩
    · cases h
  · rename_i op t x y ty ho
    unfold okU at h
    split at h
    · rename_i neg c0 hq
      obtain ⟨b, h1, h2⟩ := nilq_sound op t (hr.ev x) (hr.ev y) hq x y
      exact ⟨_, _, .of fun w' hw' => by unfold execOp; simp only [ho]; rw [Sem.run_bind, h2 w' hw']; rfl, .c _ _ (.bool _), h b h1⟩
    unfold okP at h
    split at h
    · rename_i c0 d hb
      obtain ⟨r, h1, h2⟩ := bin_sound op t (hr.ev x) (hr.ev y) hb h.1 x y
      exact ⟨r, d, .of fun w' hw' => by unfold execOp; simp only [ho]; rw [Sem.run_bind, h1 w' hw']; rfl, h2, h.2⟩
    · cases h
  · rename_i op t x ho
    unfold okD at h
    split at h
    · rename_i d hb
      obtain ⟨r, h1, h2⟩ := un_sound (P := P) op (hr.ev x) hb
      exact ⟨r, d, .of fun w' hw' => by unfold execOp; simp [ho, h1 w' hw'], h2, h⟩
    · cases h
  · rename_i t u x ho
    unfold okD at h
    split at h
    · rename_i d hb
      obtain ⟨r, h1, h2⟩ := conv_sound (P := P) t u (hr.ev x) hb
      exact ⟨r, d, .of fun w' hw' => by unfold execOp; simp [ho, h1 w' hw'], h2, h⟩
    · cases h
  · rename_i f fi ca ho
    obtain ⟨h1, h2⟩ := map_rel hr fi
    obtain ⟨h3, h4⟩ := map_rel hr ca
    exact ⟨.func f (fi.map a.eval) (ca.map a.eval), _, .of fun w' hw' => by unfold execOp; simp [ho, Instr.makeFunc], .fn f _ _ _ _ h1 h3 h2 h4, h⟩
  · rename_i t l c ho; rw [ho] at hq; cases hq
  · rename_i t x lo hi mx ho; rw [ho] at hq; cases hq
  · rename_i t x f ho
    unfold okD at h
    split at h
    · rename_i d hb
      obtain ⟨r, h1, h2⟩ := fad_sound (P := P) (hr.ev x) hb
      exact ⟨r, d, .of fun w' hw' => by unfold execOp; simp [ho, h1 w' hw'], h2, h⟩
    · cases h
  · rename_i t x f ho
    unfold okD at h
    split at h
    · rename_i d hb
      obtain ⟨r, h1, h2⟩ := field_sound (P := P) (hr.ev x) hb
      exact ⟨r, d, .of fun w' hw' => by unfold execOp; simp [ho, h1 w' hw'], h2, h⟩
    · cases h
  · rename_i t x i ho
    unfold okP at h
    split at h
    · rename_i c0 d hb
      obtain ⟨r, h1, h2⟩ := ia_sound (P := P) (hr.ev x) (hr.ev i) hb h.1
      exact ⟨r, d, .of fun w' hw' => by unfold execOp; simp [ho, h1 w' hw'], h2, h.2⟩
    · cases h
  · rename_i t x i ho
    unfold okP at h
    split at h
    · rename_i c0 d hb
      obtain ⟨r, h1, h2⟩ := index_sound (P := P) (hr.ev x) (hr.ev i) hb h.1
      exact ⟨r, d, .of fun w' hw' => by unfold execOp; simp [ho, h1 w' hw'], h2, h.2⟩
    · cases h
  · rename_i x i ho
    unfold okD at h
    split at h
    · rename_i d hb
      obtain ⟨r, h1, h2⟩ := ext_sound (P := P) i (hr.ev x) hb
      exact ⟨r, d, .of fun w' hw' => by unfold execOp; simp [ho, h1 w' hw'], h2, h⟩
    · cases h
  · rename_i c ho
    split at h
    · rename_i hc
      split at h
      · rename_i x t hargs htys
        unfold okH at h
        obtain ⟨h0, h⟩ := h
        split at h
        · rename_i c0 d hb
          obtain ⟨h1, r, h2, h3⟩ := len_sound (P := P) t o.type h0 (hr.ev x) hb
          have e1 : c.args = #[x] := Array.toList_inj.1 (by simpa using hargs)
          have e2 : c.argTypes = #[t] := Array.toList_inj.1 (by simpa using htys)
          exact ⟨r, d, .of fun w' hw' => by unfold execOp; simp [ho, resolve, hc, e1, e2, invoke, builtin, h2 w' hw'], h3, h h1⟩
        · cases h
      · cases h
    · rename_i hc
      unfold okD at h
      split at h
      · rename_i d hb
        obtain ⟨h1, h2⟩ := map_rel hr c.args
        obtain ⟨r, h3, h4⟩ := min_sound (P := P) c.argTypes o.type h1 h2 hb
        exact ⟨r, d, .of fun w' hw' => by unfold execOp; simp [ho, resolve, hc, invoke, builtin, h3 w' hw'], h4, h⟩
      · cases h
    · rename_i hc
      unfold okD at h
      split at h
      · rename_i d hb
        obtain ⟨h1, h2⟩ := map_rel hr c.args
        obtain ⟨r, h3, h4⟩ := max_sound (P := P) c.argTypes o.type h1 h2 hb
        exact ⟨r, d, .of fun w' hw' => by unfold execOp; simp [ho, resolve, hc, invoke, builtin, h3 w' hw'], h4, h⟩
      · cases h
    · rename_i hc; rw [ho] at hq; simp only [quietOp, hc] at hq; cases hq
    · rename_i hc; rw [ho] at hq; simp only [quietOp, hc] at hq; cases hq
    · rename_i hc; rw [ho] at hq; simp only [quietOp, hc] at hq; cases hq
    · rename_i f hc; rw [ho] at hq; simp only [quietOp, hc] at hq; cases hq
    · cases h
  · cases h

/-- The value that numbers are. -/
def D.val1 : D → Value
  | .c (.bool b) => .bool b
  | .c (.int k n) => .int k n
  | .c (.flt k n) => .float k n
  | .c (.str x) => .string x
  | _ => .nilFunc
def D.val : D → Value
  | .tup l => .tuple (l.map D.val1).toArray
  | .agg l => .agg (l.map D.val1).toArray
  | d => d.val1
theorem VRel.val1 {v : Value} {r : D} (hs : r.scal1 = true) (h : VRel g w v r) : v = r.val1 := by
  cases r <;> simp only [D.scal1, Bool.false_eq_true] at hs
  rename_i x
  cases h with
  | c _ _ h => cases x <;> first | (simp at hs; done) | (cases h; rfl)
theorem VRel.val {v : Value} {r : D} (hs : r.scal = true) (h : VRel g w v r) : v = r.val := by
  unfold D.scal at hs
  split at hs
  · cases h with
    | tup vs _ hl hp =>
      simp only [D.val]
      congr 1
      apply Array.ext
      · simp [hl]
      · intro i h1 h2
        have hd := List.getElem?_eq_getElem (l := _) (i := i) (by rw [← hl]; exact h1)
        have := VRel.val1 (List.all_eq_true.1 hs _ (List.getElem_mem _)) (hp i _ _ (Array.getElem?_eq_getElem h1) hd)
        rw [this]
        simp
  · cases h with
    | agg vs _ hl hp =>
      simp only [D.val]
      congr 1
      apply Array.ext
      · simp [hl]
      · intro i h1 h2
        have hd := List.getElem?_eq_getElem (l := _) (i := i) (by rw [← hl]; exact h1)
        have := VRel.val1 (List.all_eq_true.1 hs _ (List.getElem_mem _)) (hp i _ _ (Array.getElem?_eq_getElem h1) hd)
        rw [this]
        simp
  · rename_i hne hne'
    have e : r.val = r.val1 := by
      cases r <;> first | rfl | exact absurd rfl (hne _) | exact absurd rfl (hne' _)
    rw [e]
    exact VRel.val1 hs h

theorem val1_rel {r : D} (hs : r.scal1 = true) : VRel g w r.val1 r := by
  cases r <;> simp only [D.scal1, Bool.false_eq_true] at hs
  rename_i x
  refine .c _ _ ?_
  cases x <;> first | (simp at hs; done) | skip
  all_goals constructor
theorem val_rel {r : D} (hs : r.scal = true) : VRel g w r.val r := by
  unfold D.scal at hs
  split at hs
  · rename_i l
    refine .tup _ _ (by simp) fun i v d hv hd => ?_
    simp only [List.getElem?_toArray, List.getElem?_map, hd, Option.map_some, Option.some.injEq] at hv
    subst hv
    exact val1_rel (List.all_eq_true.1 hs _ (List.mem_of_getElem? hd))
  · rename_i l
    refine .agg _ _ (by simp) fun i v d hv hd => ?_
    simp only [List.getElem?_toArray, List.getElem?_map, hd, Option.map_some, Option.some.injEq] at hv
    subst hv
    exact val1_rel (List.all_eq_true.1 hs _ (List.mem_of_getElem? hd))
  · rename_i hne hne'
    have e : r.val = r.val1 := by
      cases r <;> first | rfl | exact absurd rfl (hne _) | exact absurd rfl (hne' _)
    rw [e]
    exact val1_rel hs

theorem aopQ_sound (hT : TabOk P T) (o : Oper) {K : St → Prop} (h : aopQ P T o s K) (hr : Rel δ g s a w) : ∃ v d, QVal P o a w v ∧ VRel g w v d ∧ K (s.put o.dst d) := by
  unfold aopQ at h
  split at h
  · rename_i c ho
    split at h
    · rename_i f hc
      split at h
      · rename_i gf fi ca hf
        obtain ⟨rs, r, ⟨⟨fn, h1, h2, h3⟩, h4⟩, h5, h6, h7⟩ := hT.q h
        have hff := hr.ev f
        rw [hf] at hff
        generalize hfv : a.eval f = fv at hff
        cases hff with
        | fn _ fiv cav _ _ h8 h9 h10 h11 =>
        obtain ⟨h12, h13⟩ := map_rel hr c.args
        have hrun := fun w' => run_call_value (P := P) (w := w') hc ho hfv h1 h2 h3
        have hargs : ∀ (i : Nat) (v : Value) (d : D), (fiv ++ c.args.map a.eval ++ cav)[i]? = some v → (fi ++ c.args.toList.map s.ev ++ ca)[i]? = some d → VRel g w v d := fun i v d hv hd => by
          simp only [Array.getElem?_append] at hv
          simp only [List.getElem?_append, List.length_append] at hd
          rw [← h8, ← h12] at hd
          simp only [Array.size_append] at hv
          split at hv
          · rename_i hlt
            rw [if_pos hlt] at hd
            split at hv
            · rename_i hlt2
              rw [if_pos hlt2] at hd
              exact h10 _ _ _ hv hd
            · rename_i hlt2
              rw [if_neg hlt2] at hd
              exact h13 _ _ _ hv hd
          · rename_i hlt
            rw [if_neg hlt] at hd
            exact h11 _ _ _ hv hd
        have hall : ∀ w', Ext w w' → Calls P gf (fiv ++ c.args.map a.eval ++ cav) w' fun e w'' => e = .returned r.val ∧ Ext w' w'' := by
          intro w' hw'
          obtain ⟨h14, h15⟩ := hr.o.grow hw' (I := g.I) (fun b hb => hb) (fun b _ hb => hb) (fun b hb => (hr.o.cel b hb).keep (hw'.2.1 b (hr.o.imm b hb).1))
          obtain ⟨h16, h17⟩ := args_pur h14 (.inl rfl) (I := fun b => g.I b ∨ Own (g.imm g.I) s b) (fun b hb => .inl hb) (fun _ b hb => .inr hb) (vs := fiv ++ c.args.map a.eval ++ cav) (by simp only [Array.size_append, List.length_append]; omega) (fun i v d hv hd => h15.vrel hr.o (hargs i v d hv hd)) h6
          refine (h4 _ w' _ (fun b hb => hb.elim (fun hb => h14.cel b hb) (Own.cel h14)) h16 h17).mono ?_
          rintro e w'' ⟨v, I', he, hvr, hext, _⟩
          exact ⟨by rw [he, hvr.val h5], hext⟩
        refine ⟨r.val, r, fun w' hw' => ?_, ?_, h7⟩
        · unfold Oper.quietAt
          rw [hrun w']
          refine ⟨rfl, (hall w' hw').mono fun e w'' ⟨h18, h19⟩ => ⟨h18, hw'.trans h19⟩⟩
        · exact val_rel h5
      · cases h
    · exact aop_quiet T o h.1 h.2 hr
  · rename_i t x lo hi mx ho
    unfold okP at h
    split at h
    · rename_i c0 d hb
      obtain ⟨r, h1, h2⟩ := slice_sound (P := P) hr t (hr.ev x) hb h.1
      exact ⟨r, d, .of fun w' hw' => by unfold execOp; simp [ho, h1 w' hw'], h2, h.2⟩
    · cases h
  · exact aop_quiet T o h.1 h.2 hr

theorem aopsQ_sound (hT : TabOk P T) (all : Array Oper) : ∀ (l : List Oper) {s : St} {a : Act} {K : St → Prop}, (∀ o ∈ l, dstOk1 n o = true) → aopsQ P T all l s K → Rel δ g s a w → a.tmps.size = n →
    wpQuiet P all (Ext w) (fun a' => ∃ s', K s' ∧ Rel δ g s' a' w ∧ a'.tmps.size = n ∧ s'.os = s.os ∧ s'.nx = s.nx) l a
  | [], s, a, K, _, h, hr, hn => ⟨s, h, hr, hn, rfl, rfl⟩
  | o :: rest, s, a, K, hd, h, hr, hn => by
    have hdo : ∀ x, o.dst = some x → x < n := fun x hx => by
      have := hd o (by simp)
      unfold dstOk1 at this
      rw [hx] at this
      simpa using this
    have hrest : ∀ o ∈ rest, dstOk1 n o = true := fun o ho => hd o (by simp [ho])
    have hputos : ∀ (s : St) (t : Option Nat) (d : D), (s.put t d).os = s.os ∧ (s.put t d).nx = s.nx := fun s t d => by cases t <;> exact ⟨rfl, rfl⟩
    have mono : ∀ (l : List Oper) (a : Act) (Q Q' : Act → Prop), (∀ a, Q a → Q' a) → wpQuiet P all (Ext w) Q l a → wpQuiet P all (Ext w) Q' l a := by
      intro l
      induction l with
      | nil => exact fun a Q Q' h hh => h a hh
      | cons o l ih =>
        intro a Q Q' h hh
        simp only [wpQuiet] at hh ⊢
        split
        · rename_i hw
          rw [if_pos hw] at hh
          exact Go.Oper.quiet_mono (fun a hh => ih a Q Q' h hh) hh
        · rename_i hw
          rw [if_neg hw] at hh
          exact ih _ Q Q' h hh
    have go : ∀ {s1 : St}, Rel δ g s1 a w → s1.os = s.os ∧ s1.nx = s.nx → Region.wanted o (yielded all a.tmps) = true → aopQ P T o s1 (fun s' => aopsQ P T all rest s' K) → wpQuiet P all (Ext w) (fun a' => ∃ s', K s' ∧ Rel δ g s' a' w ∧ a'.tmps.size = n ∧ s'.os = s.os ∧ s'.nx = s.nx) (o :: rest) a := by
      intro s1 hr1 hos hw hop
      obtain ⟨v, d, h1, h2, h3⟩ := aopQ_sound hT o hop hr1
      simp only [wpQuiet, hw, if_true]
      refine ⟨v, h1, mono _ _ _ _ ?_ (aopsQ_sound hT all rest hrest h3 (hr1.put o.dst h2 (fun x hx => by rw [hn]; exact hdo x hx)) (by rw [put_size, hn]))⟩
      rintro a' ⟨s', h4, h5, h6, h7, h8⟩
      exact ⟨s', h4, h5, h6, by rw [h7, (hputos _ _ _).1, hos.1], by rw [h8, (hputos _ _ _).2, hos.2]⟩
    have past : ∀ {s1 : St}, Rel δ g s1 a w → s1.os = s.os ∧ s1.nx = s.nx → Region.wanted o (yielded all a.tmps) = false → aopsQ P T all rest (s1.put o.dst .skip) K → wpQuiet P all (Ext w) (fun a' => ∃ s', K s' ∧ Rel δ g s' a' w ∧ a'.tmps.size = n ∧ s'.os = s.os ∧ s'.nx = s.nx) (o :: rest) a := by
      intro s1 hr1 hos hw hop
      simp only [wpQuiet, hw, Bool.false_eq_true, if_false]
      refine mono _ _ _ _ ?_ (aopsQ_sound hT all rest hrest hop (hr1.put o.dst .skip (fun x hx => by rw [hn]; exact hdo x hx)) (by rw [put_size, hn]))
      rintro a' ⟨s', h4, h5, h6, h7, h8⟩
      exact ⟨s', h4, h5, h6, by rw [h7, (hputos _ _ _).1, hos.1], by rw [h8, (hputos _ _ _).2, hos.2]⟩
    simp only [aopsQ] at h
    split at h
    · rename_i hg
      exact go hr ⟨rfl, rfl⟩ (by simp [Region.wanted, hg]) h
    · rename_i j want hg
      have hwant : Region.wanted o (yielded all a.tmps) = (yielded all a.tmps j == some want) := by simp [Region.wanted, hg]
      unfold grd at h
      split at h
      · rename_i b hb
        cases ht : gtmp all j with
        | none => rw [ht] at hb; cases hb
        | some t =>
          rw [ht] at hb h
          have hv := hr.bool_at hb
          have hy : yielded all a.tmps j = some b := by rw [yielded_gtmp, ht]; simp [hv]
          rw [hy] at hwant
          by_cases hbw : b = want
          · subst hbw
            exact go (hr.rep hv) ⟨rfl, rfl⟩ (by rw [hwant]; simp) (h.1 rfl)
          · have hbw' : b = !want := by cases b <;> cases want <;> simp_all
            have h2 := h.2 hbw'
            rw [← hbw'] at h2
            exact past (hr.rep hv) ⟨rfl, rfl⟩ (by rw [hwant]; simp [hbw]) h2
      · rename_i hb
        cases ht : gtmp all j with
        | none => rw [ht] at hb; cases hb
        | some t =>
          rw [ht] at hb
          have hv := hr.skip_at hb
          have hy : yielded all a.tmps j = none := by rw [yielded_gtmp, ht]; simp [hv, Go.undef]
          rw [hy] at hwant
          exact past hr ⟨rfl, rfl⟩ (by rw [hwant]; rfl) h
      · cases h

/-- A region whose order is drawn, all of whose operations only compute, read, and call what only computes numbers. -/
theorem ADraw.quiet (hT : TabOk P T) {i : Nat} {ops : Array Oper} {Q : Exit → St → Prop} (hm : P.follows .mixedOrders = true) (hB : Region.lexB .any ops = true) (hd : ops.toList.all (dstOk1 n) = true)
    (h : aopsQ P T ops ops.toList s (Q .normal)) : ADraw P n N i ops Q s := by
  intro δ g a w hr hn
  have hC : Ext w { w with drawn := w.drawn + 1 } := ⟨Nat.le_refl _, fun _ _ => rfl, rfl, rfl, rfl⟩
  refine wp_region_quiet (C := Ext w) hm hB hC ?_
  have := aopsQ_sound (n := n) hT ops ops.toList (fun o ho => List.all_eq_true.1 hd o ho) h hr hn
  have mono : ∀ (l : List Oper) (a : Act) (Q Q' : Act → Prop), (∀ a, Q a → Q' a) → wpQuiet P ops (Ext w) Q l a → wpQuiet P ops (Ext w) Q' l a := by
    intro l
    induction l with
    | nil => exact fun a Q Q' h hh => h a hh
    | cons o l ih =>
      intro a Q Q' h hh
      simp only [wpQuiet] at hh ⊢
      split
      · rename_i hw
        rw [if_pos hw] at hh
        exact Go.Oper.quiet_mono (fun a hh => ih a Q Q' h hh) hh
      · rename_i hw
        rw [if_neg hw] at hh
        exact ih _ Q Q' h hh
  refine mono _ _ _ _ ?_ this
  rintro a' ⟨s', h1, h2, h3, h4, h5⟩ w' hw'
  obtain ⟨h6, h7⟩ := hr.o.grow hw' (I := g.I) (fun b hb => hb) (fun b _ hb => hb) (fun b hb => (hr.o.cel b hb).keep (hw'.2.1 b (hr.o.imm b hb).1))
  have e : (⟨s'.tm, s.os, s.nx⟩ : St) = s' := by rw [← h4, ← h5]
  obtain ⟨h8, h9⟩ := h2.o.grow hw' (I := g.I) (fun b hb => hb) (fun b _ hb => hb) (fun b hb => (hr.o.cel b hb).keep (hw'.2.1 b (hr.o.imm b hb).1))
  refine ⟨g.imm g.I, s', h1, h2.of h8 h9.tm rfl, h3, ?_⟩
  have h10 := (h7.toN (N := N)).tm (tm := s.tm) (tm' := s'.tm)
  rw [e] at h10
  exact h10
end
end Dm
