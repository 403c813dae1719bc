/- Any channel opened, and closed, how channels are liked, any later tick, whether any wallet may be, and whether two are the same, is what the document says, and the wallet stays as it was: WalletTurns is true for every input. -/
import Derived.Test.YtpiadnkkmfkmmaaGreatP6
import Derived.Below
import Derived.ChangeOld
import Derived.OpenShut
import Derived.ProofKit
import Derived.ShutString
import Derived.SizedLaws
import Derived.Test.YtpiadnkkmfkmmaaGreatRows
import Derived.WalkKit
set_option linter.unusedSimpArgs false
set_option linter.unusedVariables false
set_option linter.unusedSectionVars false
set_option linter.defProp false
namespace Go.Proofs.YtpiadnkkmfkmmaaGreat.WalletTurnsLaw
open Go.ChangeShapes Go.WideShapes Go.ChangeAt Go.RowKit
theorem own:ownKnob Tryz.prog.godebug=none:=by kernel_rfl
theorem laidOut:laidOutB Tryz.prog=true:=by kernel_rfl
set_option maxRecDepth 100000 in
theorem lifted (os:Os) (started:os.Started) (H:Type) (enc:TypeId×Value→H):
 ReturnsInHanded {} Tryz.checked os 4 .any (Rows.walletTurnsSpec.pre6 enc Tryz.prog Tryz.f4 Rows.walletTurnsRow.domain false) (Rows.walletTurnsSpec.post enc Tryz.prog Tryz.f4 false true false false):=by
 refine returnsInHanded_of_change_sized (C:=Tryz.checked) own started (by kernel_rfl) Tryz.func4
  (ChangeSpec.witness6 (enc:=enc) (C:=Tryz.checked) false ⟨#[], #[.agg #[.slice none 0 0, .slice none 0 0, .slice none 0 0, .slice none 0 0, .int .u64 0, .slice none 0 0, .int .u64 0, .int .u64 0], .agg #[.slice none 0 0, .slice none 0 0, .slice none 0 0, .slice none 0 0, .int .u64 0, .slice none 0 0, .int .u64 0, .int .u64 0], .agg #[.int .u8 0, .int .u64 0, .int .u64 0, .int .u64 0, .int .u64 0, .bool false, .int .u64 0, .int .u64 0, .int .u64 0, .int .u64 0, .int .u64 0, .slice none 0 0, .bool false, .slice none 0 0]],[]⟩ 8 (by kernel_rfl) (by kernel_rfl) (by kernel_rfl) (by kernel_rfl)) ?_
 intro W base args ds gs before hval0 hW hcnd hsz0 _
 have hval:∀(j:Nat) t v,Tryz.f4.params[j]? =some t→args[j]? =some v→Value.okWide Tryz.prog W .any base t v:=hval0
 have hW':=hW
 obtain⟨p,q,hA0,hV,rfl,hfz,hnd⟩:=hW
 have hA:DataW.TrodAll enc Tryz.prog W 0 (fun _=>true) true Tryz.f4.params.toList args.toList ds p:=hA0
 rw [Tryz.params4]at hA hval
 obtain⟨v0,vs0,d0,ds0,p0,q0,hargs,rfl,rfl,h0,r0⟩:=trodAll_cons hA
 obtain⟨v1,vs1,d1,ds1,p1,q1,rfl,rfl,rfl,h1,r1⟩:=trodAll_cons r0
 obtain⟨v2,vs2,d2,ds2,p2,q2,rfl,rfl,rfl,h2,r2⟩:=trodAll_cons r1
 obtain⟨rfl,rfl,rfl⟩:=trodAll_nil r2
 obtain rfl:args= #[v0,v1,v2]:=by cases args;simp_all
 obtain⟨rfl,rfl⟩:=trodVars_none hV
 have lt0:∀x∈p0,x.block<W.heap.size:=by obtain⟨m,hm⟩:=h0;exact DataW.trod_lt m _ _ _ hm
 have lt1:∀x∈p1,x.block<W.heap.size:=by obtain⟨m,hm⟩:=h1;exact DataW.trod_lt m _ _ _ hm
 have lt2:∀x∈p2,x.block<W.heap.size:=by obtain⟨m,hm⟩:=h2;exact DataW.trod_lt m _ _ _ hm
 obtain⟨x0,t0,c0⟩:=Dm.arg_conv (k:=9) (hval 0 31 v0 rfl rfl) h0 (by kernel_rfl)
 obtain⟨x1,t1,c1⟩:=Dm.arg_conv (k:=9) (hval 1 31 v1 rfl rfl) h1 (by kernel_rfl)
 obtain⟨x2,t2,c2⟩:=Dm.arg_conv (k:=9) (hval 2 36 v2 rfl rfl) h2 (by kernel_rfl)
 obtain⟨w,rfl,hw⟩:=Dm.typ31x t0
 obtain⟨v,rfl,hv⟩:=Dm.typ31x t1
 obtain⟨o,rfl,ho⟩:=Dm.typ36x t2
 refine((Dm.WalletTurns_ok w v o ⟨hw.2.2.2.2.1.1,hv.2.2.2.2.1.1⟩).2 (Dm.below W) W #[v0,v1,v2] ⟨fun b hb=>hb,fun n ns hn=>by cases hn⟩ rfl (fun i v d hv hd=> ?_)).mono ?_
 ·rcases i with _|_|_|i<;>simp at hv hd
  ·subst hv;subst hd;exact c0
  ·subst hv;subst hd;exact c1
  ·subst hv;subst hd;exact c2
 ·rintro e W' ⟨v,I',rfl,hvr,hext,_⟩
  obtain rfl:=hvr.bool_inv
  have bel:=Dm.below_of _ _ hext
  exact⟨_,rfl,_,_,_,[],_,[],hW',trodAll_mk1 (shut_bool Tryz.underlying4 _),trodAll_cons_mk (Below.trod laidOut (by kernel_rfl) (of_decide_eq_true (by kernel_rfl)) h0 bel lt0) (trodAll_cons_mk (Below.trod laidOut (by kernel_rfl) (of_decide_eq_true (by kernel_rfl)) h1 bel lt1) (trodAll_cons_mk (Below.trod laidOut (by kernel_rfl) (of_decide_eq_true (by kernel_rfl)) h2 bel lt2) trodAll_mk0)),rfl,bel.frame _,fun h=>by cases h⟩
theorem over:Rows.walletTurnsRow.holds Tryz.pinned (OpenSpec.ofChange Rows.walletTurnsSpec):=
 OpenClaim.holds_of_wide 4 Tryz.f4 rfl rfl rfl rfl rfl rfl rfl ⟨rfl,rfl,rfl,rfl,rfl⟩ rfl rfl rfl rfl rfl (by kernel_rfl) Tryz.func4 (by kernel_rfl)
  (of_decide_eq_true (by kernel_rfl)) (by unfold Func.isWrapper;first|(rw [if_pos (by decide+kernel)];kernel_rfl)|(rw [if_neg (by decide+kernel)];exact⟨rfl,rfl⟩))
  (fun os started H enc _=>lifted os started H enc)
theorem proved:Rows.WalletTurnsSaid:=over
end Go.Proofs.YtpiadnkkmfkmmaaGreat.WalletTurnsLaw
