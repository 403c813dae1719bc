/- Any new bank, and its tokens, are what the document says; each token may do what nobody bound it to, and told of another root it may do nothing; of all keys and requests, under the condition of the row that the variable request.methods holds what the program lays (the card ties it to the program). -/
import Derived.Test.YthcioaapafehhaaGreatDoorP10
import Derived.Below
import Derived.ChangeOld
import Derived.LaidMore
import Derived.Lib.LaidTab
import Derived.OpenShut
import Derived.ProofKit
import Derived.SevenTiedAt
import Derived.ShutString
import Derived.SizedLaws
import Derived.Stop.Joined
import Derived.Test.YthcioaapafehhaaGreatDoorCards
import Derived.Test.YthcioaapafehhaaGreatDoorRows
import Derived.Test.YthcioaapafehhaaGreatDoorTie
import Derived.WalkKit
set_option linter.unusedSimpArgs false
set_option linter.unusedVariables false
set_option linter.unusedSectionVars false
namespace Go.Proofs.YthcioaapafehhaaGreatDoor.GuardNewLaw
open Go.ChangeShapes Go.WideShapes Go.ChangeAt Go.RowKit
theorem own:ownKnob Tryz.prog.godebug=none:=by kernel_rfl
theorem laidOut:laidOutB Tryz.prog=true:=by kernel_rfl
theorem gM:Tryz.prog.globalNamed "damson/request.methods" =some 0:=by kernel_rfl
theorem tM:(Tryz.prog.globals[0]?).map (·.type)=some 288:=by kernel_rfl
theorem uM:Tryz.prog.underlying 288=some (.array 11 3):=by kernel_rfl
theorem uE:Tryz.prog.underlying 3=some (.int .i64):=by kernel_rfl
theorem cE:Tryz.prog.cellsOf 3=1:=by kernel_rfl
theorem cM:Tryz.prog.cellsOf 288=11:=by kernel_rfl
theorem ba2 {W:World} {b:Nat} {v:Value} (h:W.cell? ⟨b,0,none⟩=some v):Dm.below W b:=by
 unfold World.cell? at h
 dsimp only at h
 split at h
 ·rename_i hb;exact Dm.Cel.of hb
 ·cases h
theorem cells {W:World} (h:laidMetH Tryz.prog [("damson/request.methods",Rows.laid_damson_request_methods)] W):∀n ns,Dm.glv n=some ns→Dm.below W n∧∀(j:Nat) (x:Int),ns[j]? =some x→W.cell? ⟨n,j,none⟩=some (.int .i64 x):=by
 rw [MakeChecks.laidMetH_plain _ _ _ (by kernel_rfl)]at h
 have hT:Lib.TabIs Tryz.prog W "damson/request.methods" .i64 [0,71,17,79,3,2,2,0,6,4,32]:=Lib.tabIs_of_head gM tM uM uE cE cM h
 intro n ns hn
 obtain⟨rfl,rfl⟩:n=0∧ns=[0,71,17,79,3,2,2,0,6,4,32]:=by
  unfold Dm.glv at hn
  split at hn
  ·rename_i h0;cases hn;exact⟨h0,rfl⟩
  ·cases hn
 have hc:∀(j:Nat) (x:Int),([0,71,17,79,3,2,2,0,6,4,32]:List Int)[j]? =some x→W.cell? ⟨0,j,none⟩=some (.int .i64 x):=fun j x hx=>by
  obtain⟨hj,e⟩:=List.getElem?_eq_some_iff.1 hx
  rw [hT.cell gM j hj,List.getD_eq_getElem?_getD,hx];rfl
 exact⟨ba2 (hc 0 0 rfl),hc⟩
theorem ybz (os:Os) (args:Array Value):laidMetH Tryz.prog [("damson/request.methods",Rows.laid_damson_request_methods)] ((World.doorLaid Tryz.prog 14 os).forCall (fun _ _=>0) ⟨#[],args,[]⟩).memory:=
 laidMetH_of_parts3 (fuel:=8) (laidMet_of_run' 8 (by kernel_rfl) (by kernel_rfl)) (by kernel_rfl) (by kernel_rfl)
set_option maxRecDepth 100000 in
theorem lifted (os:Os) (started:os.Started) (H:Type) (enc:TypeId×Value→H):
 ReturnsInHanded {} Tryz.checked os 3 .any (fun w args=>(Rows.guardNewSpec.pre enc Tryz.prog Tryz.f3 [] false w args∧laidMetH Tryz.prog [("damson/request.methods",Rows.laid_damson_request_methods)] w)∧sizedMet enc Tryz.prog Tryz.f3 (OpenSpec.ofChange Rows.guardNewSpec) false w args)
  (Rows.guardNewSpec.post enc Tryz.prog Tryz.f3 false true false false):=by
 refine returnsInHanded_of_change_and (C:=Tryz.checked) (X:=fun w _=>laidMetH Tryz.prog [("damson/request.methods",Rows.laid_damson_request_methods)] w) (fun _ _ _ hh h=>h.of_heap hh) own started (by kernel_rfl) Tryz.func3
  (ChangeSpec.witness_shaped (enc:=enc) (C:=Tryz.checked) (os:=os) (X:=fun w _=>laidMetH Tryz.prog [("damson/request.methods",Rows.laid_damson_request_methods)] w) false (World.doorLaid Tryz.prog 14 os) #[.slice none 0 0, .agg #[.int .u64 0, .int .i64 0, .int .u64 0, .int .u64 0, .slice none 0 0, .int .i64 0, .int .u64 0, .int .u64 0, .int .u64 0, .slice none 0 0, .slice none 0 0], .int .u64 0] 8 rfl (World.shaped_of_RefB (by kernel_rfl) (by kernel_rfl)) (by kernel_rfl) (by kernel_rfl) (by kernel_rfl) (ybz os _)) ?_
 intro W base args ds gs before hval0 hW _ _ hL _
 have hval:∀(j:Nat) t v,Tryz.f3.params[j]? =some t→args[j]? =some v→Value.okWide Tryz.prog W .any base t v:=hval0
 have hW':=hW
 obtain⟨p,q,hA0,hV,rfl,hfz,hnd⟩:=hW
 have hA:DataW.TrodAll enc Tryz.prog W 0 (fun _=>true) true Tryz.f3.params.toList args.toList ds p:=hA0
 rw [Tryz.params3]at hA hval
 obtain⟨v0,vs0,d0,ds0,p0,q0,hargs,rfl,rfl,h0,r0⟩:=trodAll_cons hA
 obtain⟨v1,vs1,d1,ds1,p1,q1,rfl,rfl,rfl,h1,r1⟩:=trodAll_cons r0
 obtain⟨v2,vs2,d2,ds2,p2,q2,rfl,rfl,rfl,h2,r2⟩:=trodAll_cons r1
 obtain⟨rfl,rfl,rfl⟩:=trodAll_nil r2
 obtain rfl:args= #[v0,v1,v2]:=by cases args;simp_all
 obtain⟨rfl,rfl⟩:=trodVars_none hV
 have lt0:∀x∈p0,x.block<W.heap.size:=by obtain⟨m,hm⟩:=h0;exact DataW.trod_lt m _ _ _ hm
 have lt1:∀x∈p1,x.block<W.heap.size:=by obtain⟨m,hm⟩:=h1;exact DataW.trod_lt m _ _ _ hm
 have lt2:∀x∈p2,x.block<W.heap.size:=by obtain⟨m,hm⟩:=h2;exact DataW.trod_lt m _ _ _ hm
 obtain⟨x0,t0,c0⟩:=Dm.bak (k:=9) (hval 0 22 v0 rfl rfl) h0 (by kernel_rfl)
 obtain⟨x1,t1,c1⟩:=Dm.bak (k:=9) (hval 1 29 v1 rfl rfl) h1 (by kernel_rfl)
 obtain⟨x2,t2,c2⟩:=Dm.bak (k:=9) (hval 2 23 v2 rfl rfl) h2 (by kernel_rfl)
 obtain⟨keys,rfl,hkeys⟩:=Dm.xd2 t0
 obtain⟨r,rfl,hr⟩:=Dm.ycS t1
 obtain⟨who,rfl,hwho⟩:=Dm.vaI t2
 refine((Dm.uaJ keys r who).2 (Dm.below W) W #[v0,v1,v2] ⟨fun b hb=>hb,cells hL⟩ rfl (fun i v d hv hd=> ?_)).mono ?_
 ·rcases i with _|_|_|i<;>simp at hv hd
  ·subst hv;subst hd;exact c0
  ·subst hv;subst hd;exact c1
  ·subst hv;subst hd;exact c2
 ·rintro e W' ⟨v,I',rfl,hvr,hext,_⟩
  obtain rfl:=hvr.vk
  have bel:=Dm.wbx _ _ hext
  exact⟨_,rfl,_,_,_,[],_,[],hW',trodAll_mk1 (shut_bool Tryz.underlying4 _),trodAll_cons_mk (Below.trod laidOut (by kernel_rfl) (of_decide_eq_true (by kernel_rfl)) h0 bel lt0) (trodAll_cons_mk (Below.trod laidOut (by kernel_rfl) (of_decide_eq_true (by kernel_rfl)) h1 bel lt1) (trodAll_cons_mk (Below.trod laidOut (by kernel_rfl) (of_decide_eq_true (by kernel_rfl)) h2 bel lt2) trodAll_mk0)),rfl,bel.frame _,fun h=>by cases h⟩
theorem over:Rows.GuardNewSaid:=
 OpenClaim.holds_of_wide 3 Tryz.f3 rfl rfl rfl rfl rfl rfl rfl ⟨rfl,rfl,rfl,rfl,rfl⟩ rfl rfl rfl rfl rfl (by kernel_rfl) Tryz.func3 (by kernel_rfl)
  (of_decide_eq_true (by kernel_rfl)) (by unfold Func.isWrapper;first|(rw [if_pos (by decide+kernel)];kernel_rfl)|(rw [if_neg (by decide+kernel)];exact⟨rfl,rfl⟩))
  (fun os started H enc _=>lifted os started H enc)
theorem proved:Rows.GuardNewCardSaid:=
 Claim7.holds_tied_plain_at .later [] [.data] true (true, "23020e2c71ca10fd40cf723a24c534f3bceb6f02341a7557c501b39b41daaf51") false
  over (fun _ h=>by cases h) (by kernel_rfl) (fun _ h=>by cases h) guardNew_row_tie rfl ⟨rfl,rfl⟩ (by kernel_rfl) rfl
  (fun f fn hf hfn=>by
   obtain rfl:f=3:=Option.some.inj ((show Tryz.prog.funcNamed "damson/damsonlaw21.GuardNew" =some 3 by kernel_rfl).symm.trans hf) |>.symm
   obtain rfl:fn=Tryz.f3:=(Option.some.inj (Tryz.func3.symm.trans hfn)).symm
   exact⟨by kernel_rfl,fun j t ht=>by
    rw [Tryz.params3]at ht
    have hm:t∈([22,29,23]:List TypeId):=by simpa using Array.mem_of_getElem? ht
    have hall:(([22,29,23]:List TypeId).all fun u=> !Tryz.prog.wantsStandIn u)=true:=by kernel_rfl
    exact(show Tryz.prog.wantsStandIn t=false by simpa using List.all_eq_true.1 hall t hm)⟩)
  (by kernel_rfl)
end Go.Proofs.YthcioaapafehhaaGreatDoor.GuardNewLaw
