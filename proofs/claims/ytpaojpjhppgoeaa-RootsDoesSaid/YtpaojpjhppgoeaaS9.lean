import Derived.Test.YtpaojpjhppgoeaaView
set_option linter.unusedSimpArgs false
set_option linter.unusedVariables false
/-! Soundness, ninth part: one operation; a region; code. -/
namespace Dm
open Go
section
variable {δ : List Deferred} {P : Program} {T : Tab} {g g' : G} {s : St} {a : Act} {w w' : World} {n : Nat}

/-- What is so behind. -/
def Aft (δ : List Deferred) (n : Nat) (g : G) (s : St) (w : World) (K : St → Prop) : Act → World → Prop :=
  fun a' w' => ∃ g' s', K s' ∧ Rel δ g' s' a' w' ∧ a'.tmps.size = n ∧ Step g s w g' s' w'

theorem Oper.wp_val {o : Oper} {next : Act → World → Prop} {Q : Exit → Act → World → Prop} {v : Value} (h : (execOp a.eval o).run P w = .ok (.value v) w') (hn : next (a.put o.dst v) w') : o.wp P a w next Q := by
  unfold Oper.wp
  rw [h]
  exact hn
theorem Oper.wp_skip {o : Oper} {next : Act → World → Prop} {Q : Exit → Act → World → Prop} (h : (execOp a.eval o).run P w = .ok .skip w') (hn : next (a.put o.dst undef) w') : o.wp P a w next Q := by
  unfold Oper.wp
  rw [h]
  exact hn

theorem Step.put {d : D} (t : Option Tmp) : Step g s w g (s.put t d) w := by
  cases t <;> exact ⟨.refl g, Nat.le_refl _, fun _ _ _ => rfl, fun _ _ h => h, fun _ _ _ h => h, .refl w⟩

theorem Aft.put (hr : Rel δ g s a w) (hn : a.tmps.size = n) {K : St → Prop} {t : Option Tmp} (ht : ∀ x, t = some x → x < n) {v : Value} {d : D} (hv : VRel g w v d) (hK : K (s.put t d)) : Aft δ n g s w K (a.put t v) w :=
  ⟨g, s.put t d, hK, hr.put t hv (fun x hx => by rw [hn]; exact ht x hx), by rw [put_size, hn], Step.put t⟩

theorem map_rel (hr : Rel δ g s a w) (xs : Array Operand) : (xs.map a.eval).size = (xs.toList.map s.ev).length ∧ ∀ (i : Nat) (v : Value) (d : D), (xs.map a.eval)[i]? = some v → (xs.toList.map s.ev)[i]? = some d → VRel g w v d := by
  refine ⟨by simp, fun i v d hv hd => ?_⟩
  simp only [Array.getElem?_map, Option.map_eq_some_iff] at hv
  obtain ⟨x, hx, rfl⟩ := hv
  simp only [List.getElem?_map, Array.getElem?_toList, hx, Option.map_some, Option.some.injEq] at hd
  subst hd
  exact hr.ev x

theorem parts_rel (hr : Rel δ g s a w) (ps : Array (Nat × Operand)) : (ps.map fun (i, x) => (i, a.eval x)).toList.length = (ps.toList.map fun (i, x) => (i, s.ev x)).length ∧
    ∀ (k : Nat) (i : Nat) (v : Value) (j : Nat) (d : D), (ps.map fun (i, x) => (i, a.eval x)).toList[k]? = some (i, v) → (ps.toList.map fun (i, x) => (i, s.ev x))[k]? = some (j, d) → i = j ∧ VRel g w v d := by
  refine ⟨by simp, fun k i v j d hv hd => ?_⟩
  simp only [Array.toList_map, List.getElem?_map, Option.map_eq_some_iff, Prod.mk.injEq] at hv hd
  obtain ⟨⟨i', x⟩, hx, rfl, rfl⟩ := hv
  obtain ⟨⟨j', y⟩, hy, rfl, rfl⟩ := hd
  rw [hx] at hy
  cases hy
  exact ⟨rfl, hr.ev x⟩

theorem run_call_value {c : Call} {f : Operand} (hc : c.callee = .value f) {o : Oper} (ho : o.op = .call c) {gf : FuncId} {fi ca : Array Value} (hf : a.eval f = .func (.func gf) fi ca) {fn : Func} (h1 : P.funcs[gf]? = some fn) (h2 : (fn.name == "runtime.NumGoroutine") = false) (h3 : fn.body.isNone = false) :
    (execOp a.eval o).run P w = .ok (.enter gf (fi ++ c.args.map a.eval ++ ca)) w := by
  unfold execOp
  have h2' : ¬ fn.name = "runtime.NumGoroutine" := by simpa using h2
  have h3' : ¬ fn.body = none := fun e => by rw [e] at h3; simp at h3
  simp [ho, resolve, hc, hf, Deferred.ofValue, invoke, callFunc, h1, h2', h3']

set_option maxHeartbeats 1000000 in
theorem aop_sound (hT : TabS P T) (o : Oper) (hd : ∀ x, o.dst = some x → x < n) {K : St → Prop} (h : aop P T o s K) (hr : Rel δ g s a w) (hn : a.tmps.size = n) (Q : Exit → Act → World → Prop) :
    o.wp P a w (Aft δ n g s w K) Q := by
  have hd' : ∀ x, o.dst = some x → x < a.tmps.size := fun x hx => by rw [hn]; exact hd x hx
  unfold aop at h
  split at h
  · rename_i x ho
    exact Oper.wp_val (by unfold execOp; simp only [ho]; rfl) (Aft.put hr hn hd (hr.ev x) h)
  · rename_i x ho
    exact Oper.wp_val (by unfold execOp; simp only [ho]; rfl) (Aft.put hr hn hd (hr.ev x) h)
  · rename_i c x y ho
    unfold pk at h
    split at h
    · rename_i b hb
      have hc := hr.ev c
      rw [hb] at hc
      have hc' := hc.bool_inv
      cases b with
      | true => exact Oper.wp_val (by unfold execOp; simp [ho, hc', asBool]) (Aft.put hr hn hd (hr.ev x) (h.1 rfl))
      | false => exact Oper.wp_val (by unfold execOp; simp [ho, hc', asBool]) (Aft.put hr hn hd (hr.ev y) (h.2 rfl))
    · cases h
  · rename_i t ho
    unfold okB at h
    split at h
    · rename_i z hz
      split at h
      · rename_i cs hc
        unfold zOf at hz
        cases hi : P.info? t with
        | none => simp [hi] at hz
        | some i =>
          cases hzz : i.zero with
          | none => simp [hi, hzz] at hz
          | some v =>
            simp only [hi, hzz, Option.some.injEq] at hz
            obtain ⟨g', h1, h2⟩ := box_sound hr (v := v) (d := z) (by rw [← hz]; exact valD_rel v) hc t o.dst hd'
            exact Oper.wp_val (w' := w.alloc (.cells v.cells t)) (v := .pointer (some ⟨w.heap.size, 0, none⟩)) (by unfold execOp; simp [ho, Instr.alloc, zeroValue, typeInfo, hi, hzz, newVar, newRow]) ⟨g', _, h, h1, by rw [put_size, hn], h2⟩
      · cases h
    · cases h
  · rename_i t x ho
    unfold okB at h
    split at h
    · rename_i z hz
      cases hz
      split at h
      · rename_i cs hc
        obtain ⟨g', h1, h2⟩ := box_sound hr (hr.ev x) hc t o.dst hd'
        exact Oper.wp_val (w' := w.alloc (.cells (a.eval x).cells t)) (v := .pointer (some ⟨w.heap.size, 0, none⟩)) (by unfold execOp; simp [ho, Instr.box, newVar, newRow]) ⟨g', _, h, h1, by rw [put_size, hn], h2⟩
      · cases h
    · cases h
  · rename_i t ps ho
    unfold okD at h
    split at h
    · rename_i d hb
      obtain ⟨h1, h2⟩ := parts_rel hr ps
      obtain ⟨r, h3, h4⟩ := build_sound h1 h2 hb (ps.map fun (i, x) => (i, a.eval x)) rfl
      have h3 := h3.here
      exact Oper.wp_val (by unfold execOp; simp [ho, h3]) (Aft.put hr hn hd h4 h)
    · cases h
  · rename_i t k ps ho
    unfold okV at h
    split at h
    · rename_i z e els hb
      obtain ⟨h1, h2⟩ := parts_rel hr ps
      obtain ⟨r, w', g', h3, h4, h5⟩ := bsl_sound hr h1 h2 hb (ps.map fun (i, x) => (i, a.eval x)) rfl o.dst hd'
      exact Oper.wp_val (by unfold execOp; simp [ho, h3]) ⟨g', _, h, h4, by rw [put_size, hn], h5⟩
    · cases h
  · rename_i t x ho
    unfold okD at h
    split at h
    · rename_i d hl
      obtain ⟨r, h1, h2⟩ := hr.load (hr.ev x) hl
      have h1 := h1.here
      exact Oper.wp_val (by unfold execOp; simp [ho, h1]) (Aft.put hr hn hd h2 h)
    · cases h
  · rename_i t p x ho
    unfold okS at h
    split at h
    · rename_i s' hl
      obtain ⟨w', g', h1, h2, h3⟩ := store_sound hr (hr.ev p) (hr.ev x) hl
      refine Oper.wp_skip (w' := w') (by unfold execOp; simp [ho, h1]) ⟨g', _, h, h2.put o.dst .skip hd', by rw [put_size, hn], h3.trans (Step.put _)⟩
    · cases h
  · rename_i x ho
    unfold nchk at h
    have hx := hr.ev x
    generalize hxv : a.eval x = xv at hx
    split at h
    · rename_i id off he
      rw [he] at hx
      have hx' := hx
      cases hx' with
      | ref b _ _ hb => exact Oper.wp_val (by unfold execOp; simp [ho, hxv]) (Aft.put hr hn hd hx h)
    · rename_i id m sz i off he
      rw [he] at hx
      have hx' := hx
      cases hx' with
      | eref => exact Oper.wp_val (by unfold execOp; simp [ho, hxv]) (Aft.put hr hn hd hx h)
    · rename_i cs he
      rw [he] at hx
      have hx' := hx
      cases hx' with
      | rp => exact Oper.wp_val (by unfold execOp; simp [ho, hxv]) (Aft.put hr hn hd hx h)
    · rename_i f fi ca he
      rw [he] at hx
      have hx' := hx
      cases hx' with
      | fn => exact Oper.wp_val (by unfold execOp; simp [ho, hxv]) (Aft.put hr hn hd hx h)
    · cases h
  · rename_i op t x y ty ho
    unfold okU at h
    split at h
    · rename_i neg c0 hq
      obtain ⟨b, h1, h2⟩ := nilq_sound op t (hr.ev x) (hr.ev y) hq x y
      have h2 := h2.here
      exact Oper.wp_val (by unfold execOp; simp only [ho]; rw [Sem.run_bind, h2]; rfl) (Aft.put hr hn hd (.c _ _ (.bool _)) (h b h1))
    unfold okP at h
    split at h
    · rename_i c0 d hb
      obtain ⟨r, h1, h2⟩ := bin_sound op t (hr.ev x) (hr.ev y) hb h.1 x y
      have h1 := h1.here
      exact Oper.wp_val (by unfold execOp; simp only [ho]; rw [Sem.run_bind, h1]; rfl) (Aft.put hr hn hd h2 h.2)
    · cases h
  · rename_i op t x ho
    unfold okD at h
    split at h
    · rename_i d hb
      obtain ⟨r, h1, h2⟩ := un_sound (P := P) op (hr.ev x) hb
      have h1 := h1.here
      exact Oper.wp_val (by unfold execOp; simp [ho, h1]) (Aft.put hr hn hd h2 h)
    · cases h
  · rename_i t u x ho
    unfold okD at h
    split at h
    · rename_i d hb
      obtain ⟨r, h1, h2⟩ := conv_sound (P := P) t u (hr.ev x) hb
      have h1 := h1.here
      exact Oper.wp_val (by unfold execOp; simp [ho, h1]) (Aft.put hr hn hd h2 h)
    · cases h
  · rename_i f fi ca ho
    obtain ⟨h1, h2⟩ := map_rel hr fi
    obtain ⟨h3, h4⟩ := map_rel hr ca
    exact Oper.wp_val (v := .func f (fi.map a.eval) (ca.map a.eval)) (by unfold execOp; simp [ho, Instr.makeFunc]) (Aft.put hr hn hd (.fn f _ _ _ _ h1 h3 h2 h4) h)
  · rename_i t l c ho
    unfold okT at h
    split at h
    · rename_i c0 s' hb
      obtain ⟨r, w', g', h1, h2, h3⟩ := mk_sound hr (hr.ev l) (hr.ev c) o.dst hd' hb h.1
      exact Oper.wp_val (by unfold execOp; simp [ho, h1]) ⟨g', _, h.2, h2, by rw [put_size, hn], h3⟩
    · cases h
  · rename_i t x lo hi mx ho
    unfold okF at h
    split at h
    · split at h
      · rename_i p hb
        unfold bndV at hb
        split at hb
        · rename_i id nn k l hx hlo hhi hmx
          split at hb
          · rename_i e0 hd0 sz e els hel hlk
            cases hb
            obtain ⟨⟨rfl, h1, h2⟩, h3⟩ := h
            obtain ⟨hu, hs⟩ := elOf_elem hel
            have hv := hr.ev x
            rw [hx] at hv
            obtain ⟨a0, cap, hval, g1, hr1, hv1, hst1⟩ := cut_sound (l := l.toNat) hr hv hlk (by omega)
            have hrun : (Instr.sliceAt t (a.eval x) (lo.map a.eval) (hi.map a.eval) (mx.map a.eval)).run P w = .ok (sliced a0 l.toNat els.length cap e0.2.1) w := by
              rw [OptRel.none_inv hhi, OptRel.none_inv hmx, OptRel.some_inv hr hlo, hval, run_sliceAt_slice (h := hu), run_slice_l w t a0 _ cap hu _ _ h1 h2, hs w]; rfl
            exact Oper.wp_val (v := sliced a0 l.toNat els.length cap e0.2.1) (by unfold execOp; simp [ho, hrun]) (Aft.put hr hn hd (.undef _) h3)
          · cases hb
        · cases hb
      · cases h
    unfold okQ at h
    split at h
    · rename_i p d s1 hb
      unfold cutV at hb
      split at hb
      · rename_i id nn k l hx hlo hhi hmx
        split at hb
        · rename_i e0 z y hd0 sz e els hel hlk
          split at hb
          · rename_i hc
            obtain ⟨rfl, rfl⟩ := hc
            cases hb
            obtain ⟨⟨h1, h2⟩, h3⟩ := h
            obtain ⟨hu, hs⟩ := elOf_elem hel
            have hv := hr.ev x
            rw [hx] at hv
            obtain ⟨a0, cap, hval, g1, hr1, hv1, hst1⟩ := cut_sound (l := l.toNat) hr hv hlk (by omega)
            have hrun : (Instr.sliceAt t (a.eval x) (lo.map a.eval) (hi.map a.eval) (mx.map a.eval)).run P w = .ok (sliced a0 l.toNat els.length cap sz) w := by
              rw [OptRel.none_inv hhi, OptRel.none_inv hmx, OptRel.some_inv hr hlo, hval, run_sliceAt_slice (h := hu), run_slice_l w t a0 _ cap hu _ _ h1 h2, hs w]; rfl
            obtain ⟨g2, s2, h4, h5, h6, h7⟩ := Aft.put hr1 hn hd hv1 h3
            refine Oper.wp_val (by unfold execOp; simp [ho, hrun]) ⟨g2, s2, h4, h5, h6, hst1.trans h7⟩
          · cases hb
        · cases hb
      · rename_i id c sz lo' hi' hx
        split at hb
        · rename_i e0 z y hd0 sz' e els hel hlk
          obtain ⟨hu, hs⟩ := elOf_elem hel
          have hv := hr.ev x
          rw [hx] at hv
          split at hb <;> cases hb
          · rename_i hlo hhi hmx
            obtain ⟨⟨h1, h2, h3⟩, h4⟩ := h
            subst h3
            obtain ⟨a', hval, hl, hh, hcut⟩ := view_cut hr hv hlk h1 h2
            have hrun : (Instr.sliceAt t (a.eval x) (lo.map a.eval) (hi.map a.eval) (mx.map a.eval)).run P w = .ok (sliced a' 0 (hi' - lo') (c - lo') sz') w := by
              rw [OptRel.none_inv hlo, OptRel.none_inv hhi, OptRel.none_inv hmx, hval, run_sliceAt_slice (h := hu), run_slice_all w t a' _ (c - lo') hu, hs w]; rfl
            have := hcut 0 (hi' - lo') (Nat.zero_le _) (by omega)
            rw [Nat.add_zero, show lo' + (hi' - lo') = hi' by omega] at this
            exact Oper.wp_val (by unfold execOp; simp [ho, hrun]) (Aft.put hr hn hd this h4)
          · rename_i k b hlo hhi hmx
            obtain ⟨⟨h1, h2, h3, h5, h6⟩, h4⟩ := h
            subst h3
            obtain ⟨a', hval, hl, hh, hcut⟩ := view_cut hr hv hlk h1 h2
            have hrun : (Instr.sliceAt t (a.eval x) (lo.map a.eval) (hi.map a.eval) (mx.map a.eval)).run P w = .ok (sliced a' 0 b.toNat (c - lo') sz') w := by
              rw [OptRel.none_inv hlo, OptRel.some_inv hr hhi, OptRel.none_inv hmx, hval, run_sliceAt_slice (h := hu), run_slice_h w t a' _ (c - lo') hu _ _ h5 (by omega), hs w]; rfl
            have := hcut 0 b.toNat (Nat.zero_le _) (by omega)
            rw [Nat.add_zero] at this
            exact Oper.wp_val (by unfold execOp; simp [ho, hrun]) (Aft.put hr hn hd this h4)
          · rename_i k b hlo hhi hmx
            obtain ⟨⟨h1, h2, h3, h5, h6⟩, h4⟩ := h
            subst h3
            obtain ⟨a', hval, hl, hh, hcut⟩ := view_cut hr hv hlk h1 h2
            have hrun : (Instr.sliceAt t (a.eval x) (lo.map a.eval) (hi.map a.eval) (mx.map a.eval)).run P w = .ok (sliced a' b.toNat (hi' - lo') (c - lo') sz') w := by
              rw [OptRel.some_inv hr hlo, OptRel.none_inv hhi, OptRel.none_inv hmx, hval, run_sliceAt_slice (h := hu), run_slice_l w t a' _ (c - lo') hu _ _ h5 (by omega), hs w]; rfl
            have := hcut b.toNat (hi' - lo') (by omega) (by omega)
            rw [show lo' + (hi' - lo') = hi' by omega] at this
            exact Oper.wp_val (by unfold execOp; simp [ho, hrun]) (Aft.put hr hn hd this h4)
          · rename_i k b k' b' hlo hhi hmx
            obtain ⟨⟨h1, h2, h3, h5, h6, h7⟩, h4⟩ := h
            subst h3
            obtain ⟨a', hval, hl, hh, hcut⟩ := view_cut hr hv hlk h1 h2
            have hrun : (Instr.sliceAt t (a.eval x) (lo.map a.eval) (hi.map a.eval) (mx.map a.eval)).run P w = .ok (sliced a' b.toNat b'.toNat (c - lo') sz') w := by
              rw [OptRel.some_inv hr hlo, OptRel.some_inv hr hhi, OptRel.none_inv hmx, hval, run_sliceAt_slice (h := hu), run_slice_lh w t a' _ (c - lo') hu _ _ _ _ h5 h6 (by omega), hs w]; rfl
            have := hcut b.toNat b'.toNat (by omega) (by omega)
            exact Oper.wp_val (by unfold execOp; simp [ho, hrun]) (Aft.put hr hn hd this h4)
        · cases hb
      · cases hb
    unfold okP at h
    split at h
    · rename_i c0 d hb
      generalize hz : frz s (s.ev x) = z at hb h
      obtain ⟨g1, hr1, hv1, hst1, htm⟩ := frz_sound (d' := z.1) (s' := z.2) hr (hr.ev x) hz
      have hev : s.ev = z.2.ev := funext fun y => by cases y <;> first | rfl | exact congrArg (fun l => (lk _ l).getD D.undef) htm.symm
      rw [hev] at hb
      obtain ⟨r, h1, h2⟩ := slice_sound (P := P) hr1 t hv1 hb h.1
      have h1 := h1.here
      obtain ⟨g2, s2, h3, h4, h5, h6⟩ := Aft.put hr1 hn hd h2 h.2
      exact Oper.wp_val (by unfold execOp; simp [ho, h1]) ⟨g2, s2, h3, h4, h5, hst1.trans h6⟩
    · cases h
  · rename_i t x f ho
    unfold okD at h
    split at h
    · rename_i d hb
      obtain ⟨r, h1, h2⟩ := fad_sound (P := P) (hr.ev x) hb
      have h1 := h1.here
      exact Oper.wp_val (by unfold execOp; simp [ho, h1]) (Aft.put hr hn hd h2 h)
    · cases h
  · rename_i t x f ho
    unfold okD at h
    split at h
    · rename_i d hb
      obtain ⟨r, h1, h2⟩ := field_sound (P := P) (hr.ev x) hb
      have h1 := h1.here
      exact Oper.wp_val (by unfold execOp; simp [ho, h1]) (Aft.put hr hn hd h2 h)
    · cases h
  · rename_i t x i ho
    unfold okP at h
    split at h
    · rename_i c0 d hb
      obtain ⟨r, h1, h2⟩ := ia_sound (P := P) (hr.ev x) (hr.ev i) hb h.1
      have h1 := h1.here
      exact Oper.wp_val (by unfold execOp; simp [ho, h1]) (Aft.put hr hn hd h2 h.2)
    · cases h
  · rename_i t x i ho
    unfold okP at h
    split at h
    · rename_i c0 d hb
      obtain ⟨r, h1, h2⟩ := index_sound (P := P) (hr.ev x) (hr.ev i) hb h.1
      have h1 := h1.here
      exact Oper.wp_val (by unfold execOp; simp [ho, h1]) (Aft.put hr hn hd h2 h.2)
    · cases h
  · rename_i x i ho
    unfold okD at h
    split at h
    · rename_i d hb
      obtain ⟨r, h1, h2⟩ := ext_sound (P := P) i (hr.ev x) hb
      have h1 := h1.here
      exact Oper.wp_val (by unfold execOp; simp [ho, h1]) (Aft.put hr hn hd h2 h)
    · cases h
  · rename_i c ho
    split at h
    · -- len
      rename_i hc
      split at h
      · rename_i x t hargs htys
        unfold okH at h
        obtain ⟨h0, h⟩ := h
        split at h
        · rename_i c0 d hb
          obtain ⟨h1, r, h2, h3⟩ := len_sound (P := P) t o.type h0 (hr.ev x) hb
          have h2 := h2.here
          have e1 : c.args = #[x] := Array.toList_inj.1 (by simpa using hargs)
          have e2 : c.argTypes = #[t] := Array.toList_inj.1 (by simpa using htys)
          exact Oper.wp_val (by unfold execOp; simp [ho, resolve, hc, e1, e2, invoke, builtin, h2]) (Aft.put hr hn hd h3 (h h1))
        · cases h
      · cases h
    · rename_i hc
      unfold okD at h
      split at h
      · rename_i d hb
        obtain ⟨h1, h2⟩ := map_rel hr c.args
        obtain ⟨r, h3, h4⟩ := min_sound (P := P) c.argTypes o.type h1 h2 hb
        have h3 := h3.here
        exact Oper.wp_val (by unfold execOp; simp [ho, resolve, hc, invoke, builtin, h3]) (Aft.put hr hn hd h4 h)
      · cases h
    · rename_i hc
      unfold okD at h
      split at h
      · rename_i d hb
        obtain ⟨h1, h2⟩ := map_rel hr c.args
        obtain ⟨r, h3, h4⟩ := max_sound (P := P) c.argTypes o.type h1 h2 hb
        have h3 := h3.here
        exact Oper.wp_val (by unfold execOp; simp [ho, resolve, hc, invoke, builtin, h3]) (Aft.put hr hn hd h4 h)
      · cases h
    · rename_i hc
      split at h
      · rename_i x y t u hargs htys
        have e1 : c.args = #[x, y] := Array.toList_inj.1 (by simpa using hargs)
        have e2 : c.argTypes = #[t, u] := Array.toList_inj.1 (by simpa using htys)
        unfold okM at h
        split at h
        · rename_i p nn z e els hb
          obtain ⟨r, w', g', cc, h1, h2, h3, h4, h5⟩ := apm_sound (ty := o.type) hr (hr.ev x) (hr.ev y) o.dst hd' hb h.1
          exact Oper.wp_val (by unfold execOp; simp [ho, resolve, hc, e1, e2, invoke, builtin, h1]) ⟨g', _, h.2 cc h2 h3, h4, by rw [put_size, hn], h5⟩
        obtain ⟨rfl, h⟩ := h
        unfold okT at h
        split at h
        · rename_i c0 s' hb
          obtain ⟨r, w', g', h1, h2, h3⟩ := app_sound hr (hr.ev x) (hr.ev y) o.dst hd' hb h.1 o.type
          exact Oper.wp_val (by unfold execOp; simp [ho, resolve, hc, e1, e2, invoke, builtin, h1]) ⟨g', _, h.2, h2, by rw [put_size, hn], h3⟩
        · cases h
      · cases h
    · rename_i hc
      split at h
      · rename_i x t hargs htys
        obtain ⟨h0, h⟩ := h
        unfold okP at h
        split at h
        · rename_i c0 d hb
          obtain ⟨r, h2, h3⟩ := cap_sound (P := P) hr t o.type h0 (hr.ev x) hb h.1
          have e1 : c.args = #[x] := Array.toList_inj.1 (by simpa using hargs)
          have e2 : c.argTypes = #[t] := Array.toList_inj.1 (by simpa using htys)
          exact Oper.wp_val (by unfold execOp; simp [ho, resolve, hc, e1, e2, invoke, builtin, h2]) (Aft.put hr hn hd h3 h.2)
        · cases h
      · cases h
    · rename_i hc
      split at h
      · rename_i x y t u hargs htys
        have e1 : c.args = #[x, y] := Array.toList_inj.1 (by simpa using hargs)
        have e2 : c.argTypes = #[t, u] := Array.toList_inj.1 (by simpa using htys)
        unfold okQ at h
        split at h
        · rename_i p d s1 hb
          obtain ⟨r, w', g', h1, h2, h3, h4, h5⟩ := cpy_sound (ty := o.type) (u := u) hr (hr.ev x) (hr.ev y) hb h.1
          obtain ⟨g2, s2, h6, h7, h8, h9⟩ := Aft.put h3 hn hd h2 h.2
          exact Oper.wp_val (by unfold execOp; simp [ho, resolve, hc, e1, e2, invoke, builtin, h1]) ⟨g2, s2, h6, h7, h8, h4.trans h9⟩
        · cases h
      · cases h
    · rename_i f hc
      split at h
      · rename_i gf fi ca hf
        split at h
        · obtain ⟨h0, h⟩ := h
          have hff := hr.ev f
          rw [hf] at hff
          generalize hfv : a.eval f = fv at hff
          cases hff with
          | fn _ fiv cav _ _ h4 h5 h6 h7 =>
          obtain ⟨h8, h9⟩ := map_rel hr c.args
          have hrun := ov_sound (vs := fiv ++ c.args.map a.eval ++ cav) hr h0 (by simp only [Array.size_append, List.length_append]; omega) (fun i v d hv hd => by
            simp only [Array.getElem?_append] at hv
            simp only [List.getElem?_append, List.length_append] at hd
            rw [← h4, ← h8] at hd
            simp only [Array.size_append] at hv
            split at hv
            · rename_i hlt
              rw [if_pos hlt] at hd
              split at hv
              · rename_i hlt2
                rw [if_pos hlt2] at hd
                exact h6 _ _ _ hv hd
              · rename_i hlt2
                rw [if_neg hlt2] at hd
                exact h9 _ _ _ hv hd
            · rename_i hlt
              rw [if_neg hlt] at hd
              exact h7 _ _ _ hv hd)
          exact Oper.wp_val (by unfold execOp; rw [Array.append_assoc] at hrun; simp [ho, resolve, hc, hfv, Deferred.ofValue, invoke, hrun]) (Aft.put hr hn hd (.c _ _ (.bool _)) h)
        obtain ⟨⟨fn, h1, h2, h3⟩, h⟩ := hT _ _ _ _ _ h
        have hff := hr.ev f
        rw [hf] at hff
        generalize hfv : a.eval f = fv at hff
        cases hff with
        | fn _ fiv cav _ _ h4 h5 h6 h7 =>
        have hrun := run_call_value (P := P) (w := w) hc ho hfv h1 h2 h3
        obtain ⟨h8, h9⟩ := map_rel hr c.args
        have hcall := h g w (fiv ++ c.args.map a.eval ++ cav) hr.o.tm (by simp only [Array.size_append, List.length_append]; omega) (fun i v d hv hd => by
          simp only [Array.getElem?_append] at hv
          simp only [List.getElem?_append, List.length_append] at hd
          rw [← h4, ← h8] at hd
          simp only [Array.size_append] at hv
          split at hv
          · rename_i hlt
            rw [if_pos hlt] at hd
            split at hv
            · rename_i hlt2
              rw [if_pos hlt2] at hd
              exact h6 _ _ _ hv hd
            · rename_i hlt2
              rw [if_neg hlt2] at hd
              exact h9 _ _ _ hv hd
          · rename_i hlt
            rw [if_neg hlt] at hd
            exact h7 _ _ _ hv hd)
        unfold Oper.wp
        rw [hrun]
        refine hcall.mono fun e w' ⟨v, d, g', os', nx', he, hq, hro, hvr, hst⟩ => ?_
        subst he
        have hr' : Rel δ g' ⟨s.tm, os', nx'⟩ a w' := hr.of (s' := ⟨s.tm, os', nx'⟩) hro.tm hst.tm rfl
        exact ⟨g', _, hq, hr'.put o.dst hvr hd', by rw [put_size, hn], (hst.tm (tm := s.tm) (tm' := s.tm)).trans (Step.put _)⟩
      · cases h
    · cases h
  · cases h
end
end Dm
