/- Any channel's score, how much any is liked, and any channels in order, or why not, are as the reference says; of every input, no condition. -/
import Derived.Test.YtoimbhfclbbnfaaP5
import Derived.Below
import Derived.ChangeOld
import Derived.OpenShut
import Derived.ProofKit
import Derived.ShutString
import Derived.SizedLaws
import Derived.Test.YtoimbhfclbbnfaaRows
import Derived.WalkKit
set_option linter.unusedSimpArgs false
set_option linter.unusedVariables false
set_option linter.unusedSectionVars false
namespace Go.Proofs.Ytoimbhfclbbnfaa.ScoreDoesLaw
open Go.ChangeShapes Go.WideShapes Go.ChangeAt Go.RowKit
theorem own : ownKnob Try.prog.godebug = none := by kernel_rfl
theorem laidOut : laidOutB Try.prog = true := by kernel_rfl
set_option maxRecDepth 100000 in
theorem lifted (os : Os) (started : os.Started) (H : Type) (enc : TypeId × Value → H) :
    ReturnsInHanded {} Try.checked os 4 .any (Rows.scoreDoesSpec.pre6 enc Try.prog Try.f4 Rows.scoreDoesRow.domain false) (Rows.scoreDoesSpec.post enc Try.prog Try.f4 false true false false) := by
  refine returnsInHanded_of_change_sized (C := Try.checked) own started (by kernel_rfl) Try.func4
    (ChangeSpec.witness6 (enc := enc) (C := Try.checked) false ⟨#[], #[.slice none 0 0, .slice none 0 0, .int .u64 0, .float .f64 0, .float .f64 0, .int .u64 0, .agg #[.int .u64 0, .int .u64 0, .int .u64 0, .int .u64 0, .int .u64 0, .slice none 0 0, .bool false]], []⟩ 8 (by kernel_rfl) (by kernel_rfl) (by kernel_rfl) (by kernel_rfl)) ?_
  intro W base args ds gs before hval0 hW hcnd hsz0 _
  have hval : ∀ (j : Nat) t v, Try.f4.params[j]? = some t → args[j]? = some v → Value.okWide Try.prog W .any base t v := hval0
  have hW' := hW
  obtain ⟨p, q, hA0, hV, rfl, hfz, hnd⟩ := hW
  have hA : DataW.TrodAll enc Try.prog W 0 (fun _ => true) true Try.f4.params.toList args.toList ds p := hA0
  rw [Try.params4] at hA hval
  obtain ⟨v0, vs0, d0, ds0, p0, q0, hargs, rfl, rfl, h0, r0⟩ := trodAll_cons hA
  obtain ⟨v1, vs1, d1, ds1, p1, q1, rfl, rfl, rfl, h1, r1⟩ := trodAll_cons r0
  obtain ⟨v2, vs2, d2, ds2, p2, q2, rfl, rfl, rfl, h2, r2⟩ := trodAll_cons r1
  obtain ⟨v3, vs3, d3, ds3, p3, q3, rfl, rfl, rfl, h3, r3⟩ := trodAll_cons r2
  obtain ⟨v4, vs4, d4, ds4, p4, q4, rfl, rfl, rfl, h4, r4⟩ := trodAll_cons r3
  obtain ⟨v5, vs5, d5, ds5, p5, q5, rfl, rfl, rfl, h5, r5⟩ := trodAll_cons r4
  obtain ⟨v6, vs6, d6, ds6, p6, q6, rfl, rfl, rfl, h6, r6⟩ := trodAll_cons r5
  obtain ⟨rfl, rfl, rfl⟩ := trodAll_nil r6
  obtain rfl : args = #[v0, v1, v2, v3, v4, v5, v6] := by cases args; simp_all
  obtain ⟨rfl, rfl⟩ := trodVars_none hV
  have lt0 : ∀ x ∈ p0, x.block < W.heap.size := by obtain ⟨m, hm⟩ := h0; exact DataW.trod_lt m _ _ _ hm
  have lt1 : ∀ x ∈ p1, x.block < W.heap.size := by obtain ⟨m, hm⟩ := h1; exact DataW.trod_lt m _ _ _ hm
  have lt2 : ∀ x ∈ p2, x.block < W.heap.size := by obtain ⟨m, hm⟩ := h2; exact DataW.trod_lt m _ _ _ hm
  have lt3 : ∀ x ∈ p3, x.block < W.heap.size := by obtain ⟨m, hm⟩ := h3; exact DataW.trod_lt m _ _ _ hm
  have lt4 : ∀ x ∈ p4, x.block < W.heap.size := by obtain ⟨m, hm⟩ := h4; exact DataW.trod_lt m _ _ _ hm
  have lt5 : ∀ x ∈ p5, x.block < W.heap.size := by obtain ⟨m, hm⟩ := h5; exact DataW.trod_lt m _ _ _ hm
  have lt6 : ∀ x ∈ p6, x.block < W.heap.size := by obtain ⟨m, hm⟩ := h6; exact DataW.trod_lt m _ _ _ hm
  obtain ⟨x0, t0, c0⟩ := Dm.arg_conv (k := 9) (hval 0 22 v0 rfl rfl) h0 (by kernel_rfl)
  obtain ⟨x1, t1, c1⟩ := Dm.arg_conv (k := 9) (hval 1 23 v1 rfl rfl) h1 (by kernel_rfl)
  obtain ⟨x2, t2, c2⟩ := Dm.arg_conv (k := 9) (hval 2 24 v2 rfl rfl) h2 (by kernel_rfl)
  obtain ⟨x3, t3, c3⟩ := Dm.arg_conv (k := 9) (hval 3 36 v3 rfl rfl) h3 (by kernel_rfl)
  obtain ⟨x4, t4, c4⟩ := Dm.arg_conv (k := 9) (hval 4 36 v4 rfl rfl) h4 (by kernel_rfl)
  obtain ⟨x5, t5, c5⟩ := Dm.arg_conv (k := 9) (hval 5 24 v5 rfl rfl) h5 (by kernel_rfl)
  obtain ⟨x6, t6, c6⟩ := Dm.arg_conv (k := 9) (hval 6 33 v6 rfl rfl) h6 (by kernel_rfl)
  obtain ⟨l, rfl, hl⟩ := Dm.typ22 t0
  obtain ⟨w, rfl, hw⟩ := Dm.typ23 t1
  obtain ⟨n, rfl, hn⟩ := Dm.typ24 t2
  obtain ⟨a, rfl⟩ := Dm.typ36 t3
  obtain ⟨b, rfl⟩ := Dm.typ36 t4
  obtain ⟨id, rfl, hid⟩ := Dm.typ24 t5
  obtain ⟨c, rfl, hc⟩ := Dm.typ33x t6
  refine ((Dm.ScoreDoes_ok l w n a b id c).2 (Dm.below W) W #[v0, v1, v2, v3, v4, v5, v6] (fun b hb => hb) rfl (fun i v d hv hd => ?_)).mono ?_
  · rcases i with _ | _ | _ | _ | _ | _ | _ | i <;> simp at hv hd
    · subst hv; subst hd; exact c0
    · subst hv; subst hd; exact c1
    · subst hv; subst hd; exact c2
    · subst hv; subst hd; exact c3
    · subst hv; subst hd; exact c4
    · subst hv; subst hd; exact c5
    · subst hv; subst hd; exact c6
  · rintro e W' ⟨v, I', rfl, hvr, hext, _⟩
    obtain rfl := hvr.bool_inv
    have bel := Dm.below_of _ _ hext
    exact ⟨_, rfl, _, _, _, [], _, [], hW', trodAll_mk1 (shut_bool Try.underlying4 _), trodAll_cons_mk (Below.trod laidOut (by kernel_rfl) (of_decide_eq_true (by kernel_rfl)) h0 bel lt0) (trodAll_cons_mk (Below.trod laidOut (by kernel_rfl) (of_decide_eq_true (by kernel_rfl)) h1 bel lt1) (trodAll_cons_mk (Below.trod laidOut (by kernel_rfl) (of_decide_eq_true (by kernel_rfl)) h2 bel lt2) (trodAll_cons_mk (Below.trod laidOut (by kernel_rfl) (of_decide_eq_true (by kernel_rfl)) h3 bel lt3) (trodAll_cons_mk (Below.trod laidOut (by kernel_rfl) (of_decide_eq_true (by kernel_rfl)) h4 bel lt4) (trodAll_cons_mk (Below.trod laidOut (by kernel_rfl) (of_decide_eq_true (by kernel_rfl)) h5 bel lt5) (trodAll_cons_mk (Below.trod laidOut (by kernel_rfl) (of_decide_eq_true (by kernel_rfl)) h6 bel lt6) trodAll_mk0)))))), rfl, bel.frame _, fun h => by cases h⟩
theorem over : Rows.scoreDoesRow.holds Try.pinned (OpenSpec.ofChange Rows.scoreDoesSpec) :=
  OpenClaim.holds_of_wide 4 Try.f4 rfl rfl rfl rfl rfl rfl rfl ⟨rfl, rfl, rfl, rfl, rfl⟩ rfl rfl rfl rfl rfl (by kernel_rfl) Try.func4 (by kernel_rfl)
    (of_decide_eq_true (by kernel_rfl)) (by unfold Func.isWrapper; first | (rw [if_pos (by decide +kernel)]; kernel_rfl) | (rw [if_neg (by decide +kernel)]; exact ⟨rfl, rfl⟩))
    (fun os started H enc _ => lifted os started H enc)
theorem proved : Rows.ScoreDoesSaid := over
end Go.Proofs.Ytoimbhfclbbnfaa.ScoreDoesLaw
