/- What any items are together, any paid, and any that are even, is what the document says, and the wallet stays as it was: BatchDoes is true for every input. -/
import Derived.Test.YtplhfjbnofapfaaGreatP6
import Derived.Below
import Derived.ChangeOld
import Derived.OpenShut
import Derived.ProofKit
import Derived.ShutString
import Derived.SizedLaws
import Derived.Test.YtplhfjbnofapfaaGreatRows
import Derived.WalkKit
set_option linter.unusedSimpArgs false
set_option linter.unusedVariables false
set_option linter.unusedSectionVars false
set_option linter.defProp false
namespace Go.Proofs.YtplhfjbnofapfaaGreat.BatchDoesLaw
open Go.ChangeShapes Go.WideShapes Go.ChangeAt Go.RowKit
theorem own:ownKnob Tryz.prog.godebug=none:=by kernel_rfl
theorem laidOut:laidOutB Tryz.prog=true:=by kernel_rfl
set_option maxRecDepth 100000 in
theorem lifted (os:Os) (started:os.Started) (H:Type) (enc:TypeId×Value→H):
 ReturnsInHanded {} Tryz.checked os 3 .any (Rows.batchDoesSpec.pre6 enc Tryz.prog Tryz.f3 Rows.batchDoesRow.domain false) (Rows.batchDoesSpec.post enc Tryz.prog Tryz.f3 false true false false):=by
 refine returnsInHanded_of_change_sized (C:=Tryz.checked) own started (by kernel_rfl) Tryz.func3
  (ChangeSpec.witness6 (enc:=enc) (C:=Tryz.checked) false ⟨#[], #[.agg #[.slice none 0 0, .slice none 0 0, .slice none 0 0, .slice none 0 0, .int .u64 0, .slice none 0 0, .int .u64 0, .int .u64 0], .slice none 0 0, .int .u64 0, .slice none 0 0],[]⟩ 8 (by kernel_rfl) (by kernel_rfl) (by kernel_rfl) (by kernel_rfl)) ?_
 intro W base args ds gs before hval0 hW hcnd hsz0 _
 have hval:∀(j:Nat) t v,Tryz.f3.params[j]? =some t→args[j]? =some v→Value.okWide Tryz.prog W .any base t v:=hval0
 have hW':=hW
 obtain⟨p,q,hA0,hV,rfl,hfz,hnd⟩:=hW
 have hA:DataW.TrodAll enc Tryz.prog W 0 (fun _=>true) true Tryz.f3.params.toList args.toList ds p:=hA0
 rw [Tryz.params3]at hA hval
 obtain⟨v0,vs0,d0,ds0,p0,q0,hargs,rfl,rfl,h0,r0⟩:=trodAll_cons hA
 obtain⟨v1,vs1,d1,ds1,p1,q1,rfl,rfl,rfl,h1,r1⟩:=trodAll_cons r0
 obtain⟨v2,vs2,d2,ds2,p2,q2,rfl,rfl,rfl,h2,r2⟩:=trodAll_cons r1
 obtain⟨v3,vs3,d3,ds3,p3,q3,rfl,rfl,rfl,h3,r3⟩:=trodAll_cons r2
 obtain⟨rfl,rfl,rfl⟩:=trodAll_nil r3
 obtain rfl:args= #[v0,v1,v2,v3]:=by cases args;simp_all
 obtain⟨rfl,rfl⟩:=trodVars_none hV
 have lt0:∀x∈p0,x.block<W.heap.size:=by obtain⟨m,hm⟩:=h0;exact DataW.trod_lt m _ _ _ hm
 have lt1:∀x∈p1,x.block<W.heap.size:=by obtain⟨m,hm⟩:=h1;exact DataW.trod_lt m _ _ _ hm
 have lt2:∀x∈p2,x.block<W.heap.size:=by obtain⟨m,hm⟩:=h2;exact DataW.trod_lt m _ _ _ hm
 have lt3:∀x∈p3,x.block<W.heap.size:=by obtain⟨m,hm⟩:=h3;exact DataW.trod_lt m _ _ _ hm
 obtain⟨x0,t0,c0⟩:=Dm.arg_conv (k:=9) (hval 0 31 v0 rfl rfl) h0 (by kernel_rfl)
 obtain⟨x1,t1,c1⟩:=Dm.arg_conv (k:=9) (hval 1 32 v1 rfl rfl) h1 (by kernel_rfl)
 obtain⟨x2,t2,c2⟩:=Dm.arg_conv (k:=9) (hval 2 26 v2 rfl rfl) h2 (by kernel_rfl)
 obtain⟨x3,t3,c3⟩:=Dm.arg_conv (k:=9) (hval 3 33 v3 rfl rfl) h3 (by kernel_rfl)
 obtain⟨w,rfl,hw⟩:=Dm.typ31x t0
 obtain⟨l,rfl,hl⟩:=Dm.typ32 t1
 obtain⟨n,rfl,hn⟩:=Dm.typ26 t2
 obtain⟨h,rfl,hh⟩:=Dm.typ33 t3
 refine((Dm.BatchDoes_ok w l n h hw.2.2.2.2.1.1).2 (Dm.below W) W #[v0,v1,v2,v3] ⟨fun b hb=>hb,fun n ns hn=>by cases hn⟩ rfl (fun i v d hv hd=> ?_)).mono ?_
 ·rcases i with _|_|_|_|i<;>simp at hv hd
  ·subst hv;subst hd;exact c0
  ·subst hv;subst hd;exact c1
  ·subst hv;subst hd;exact c2
  ·subst hv;subst hd;exact c3
 ·rintro e W' ⟨v,I',rfl,hvr,hext,_⟩
  obtain rfl:=hvr.bool_inv
  have bel:=Dm.below_of _ _ hext
  exact⟨_,rfl,_,_,_,[],_,[],hW',trodAll_mk1 (shut_bool Tryz.underlying4 _),trodAll_cons_mk (Below.trod laidOut (by kernel_rfl) (of_decide_eq_true (by kernel_rfl)) h0 bel lt0) (trodAll_cons_mk (Below.trod laidOut (by kernel_rfl) (of_decide_eq_true (by kernel_rfl)) h1 bel lt1) (trodAll_cons_mk (Below.trod laidOut (by kernel_rfl) (of_decide_eq_true (by kernel_rfl)) h2 bel lt2) (trodAll_cons_mk (Below.trod laidOut (by kernel_rfl) (of_decide_eq_true (by kernel_rfl)) h3 bel lt3) trodAll_mk0))),rfl,bel.frame _,fun h=>by cases h⟩
theorem over:Rows.batchDoesRow.holds Tryz.pinned (OpenSpec.ofChange Rows.batchDoesSpec):=
 OpenClaim.holds_of_wide 3 Tryz.f3 rfl rfl rfl rfl rfl rfl rfl ⟨rfl,rfl,rfl,rfl,rfl⟩ rfl rfl rfl rfl rfl (by kernel_rfl) Tryz.func3 (by kernel_rfl)
  (of_decide_eq_true (by kernel_rfl)) (by unfold Func.isWrapper;first|(rw [if_pos (by decide+kernel)];kernel_rfl)|(rw [if_neg (by decide+kernel)];exact⟨rfl,rfl⟩))
  (fun os started H enc _=>lifted os started H enc)
theorem proved:Rows.BatchDoesSaid:=over
end Go.Proofs.YtplhfjbnofapfaaGreat.BatchDoesLaw
