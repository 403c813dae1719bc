/- Any use of any request, and whether it may be done, any root put in, turned, and revoked are, in any bank, what the document says: GuardDoes is true for every input. -/
import Derived.Test.YthcioaapafehhaaGreatDoorP12
import Derived.Below
import Derived.ChangeOld
import Derived.LaidMore
import Derived.Lib.LaidTab
import Derived.OpenShut
import Derived.ProofKit
import Derived.SevenTiedAt
import Derived.ShutString
import Derived.SizedLaws
import Derived.Stop.Joined
import Derived.Test.YthcioaapafehhaaGreatDoorCards
import Derived.Test.YthcioaapafehhaaGreatDoorRows
import Derived.Test.YthcioaapafehhaaGreatDoorTie
import Derived.WalkKit
set_option linter.unusedSimpArgs false
set_option linter.unusedVariables false
set_option linter.unusedSectionVars false
set_option linter.defProp false
namespace Go.Proofs.YthcioaapafehhaaGreatDoor.GuardDoesLaw
open Go.ChangeShapes Go.WideShapes Go.ChangeAt Go.RowKit
theorem own:ownKnob Tryz.prog.godebug=none:=by kernel_rfl
theorem laidOut:laidOutB Tryz.prog=true:=by kernel_rfl
theorem gM:Tryz.prog.globalNamed "damson/request.methods" =some 0:=by kernel_rfl
theorem tM:(Tryz.prog.globals[0]?).map (·.type)=some 288:=by kernel_rfl
theorem uM:Tryz.prog.underlying 288=some (.array 11 3):=by kernel_rfl
theorem uE:Tryz.prog.underlying 3=some (.int .i64):=by kernel_rfl
theorem cE:Tryz.prog.cellsOf 3=1:=by kernel_rfl
theorem cM:Tryz.prog.cellsOf 288=11:=by kernel_rfl
theorem vbm {W:World} {b:Nat} {v:Value} (h:W.cell? ⟨b,0,none⟩=some v):Dm.below W b:=by
 unfold World.cell? at h
 dsimp only at h
 split at h
 ·rename_i hb;exact Dm.Cel.of hb
 ·cases h
theorem cells {W:World} (h:laidMetH Tryz.prog [("damson/request.methods",Rows.laid_damson_request_methods)] W):∀n ns,Dm.glv n=some ns→Dm.below W n∧∀(j:Nat) (x:Int),ns[j]? =some x→W.cell? ⟨n,j,none⟩=some (.int .i64 x):=by
 rw [MakeChecks.laidMetH_plain _ _ _ (by kernel_rfl)]at h
 have hT:Lib.TabIs Tryz.prog W "damson/request.methods" .i64 [0,71,17,79,3,2,2,0,6,4,32]:=Lib.tabIs_of_head gM tM uM uE cE cM h
 intro n ns hn
 obtain⟨rfl,rfl⟩:n=0∧ns=[0,71,17,79,3,2,2,0,6,4,32]:=by
  unfold Dm.glv at hn
  split at hn
  ·rename_i h0;cases hn;exact⟨h0,rfl⟩
  ·cases hn
 have hc:∀(j:Nat) (x:Int),([0,71,17,79,3,2,2,0,6,4,32]:List Int)[j]? =some x→W.cell? ⟨0,j,none⟩=some (.int .i64 x):=fun j x hx=>by
  obtain⟨hj,e⟩:=List.getElem?_eq_some_iff.1 hx
  rw [hT.cell gM j hj,List.getD_eq_getElem?_getD,hx];rfl
 exact⟨vbm (hc 0 0 rfl),hc⟩
theorem gb1 (os:Os) (args:Array Value):laidMetH Tryz.prog [("damson/request.methods",Rows.laid_damson_request_methods)] ((World.doorLaid Tryz.prog 14 os).forCall (fun _ _=>0) ⟨#[],args,[]⟩).memory:=
 laidMetH_of_parts3 (fuel:=8) (laidMet_of_run' 8 (by kernel_rfl) (by kernel_rfl)) (by kernel_rfl) (by kernel_rfl)
set_option maxRecDepth 100000 in
theorem lifted (os:Os) (started:os.Started) (H:Type) (enc:TypeId×Value→H):
 ReturnsInHanded {} Tryz.checked os 7 .any (fun w args=>(Rows.guardDoesSpec.pre enc Tryz.prog Tryz.f7 [] false w args∧laidMetH Tryz.prog [("damson/request.methods",Rows.laid_damson_request_methods)] w)∧sizedMet enc Tryz.prog Tryz.f7 (OpenSpec.ofChange Rows.guardDoesSpec) false w args)
  (Rows.guardDoesSpec.post enc Tryz.prog Tryz.f7 false true false false):=by
 refine returnsInHanded_of_change_and (C:=Tryz.checked) (X:=fun w _=>laidMetH Tryz.prog [("damson/request.methods",Rows.laid_damson_request_methods)] w) (fun _ _ _ hh h=>h.of_heap hh) own started (by kernel_rfl) Tryz.func7
  (ChangeSpec.witness_shaped (enc:=enc) (C:=Tryz.checked) (os:=os) (X:=fun w _=>laidMetH Tryz.prog [("damson/request.methods",Rows.laid_damson_request_methods)] w) false (World.doorLaid Tryz.prog 14 os) #[.agg #[.slice none 0 0, .slice none 0 0, .slice none 0 0, .slice none 0 0, .int .u64 0, .slice none 0 0, .int .u64 0, .int .u64 0, .slice none 0 0, .slice none 0 0, .slice none 0 0, .slice none 0 0], .agg #[.slice none 0 0, .slice none 0 0, .slice none 0 0, .slice none 0 0, .int .u64 0, .slice none 0 0, .int .u64 0, .int .u64 0, .slice none 0 0, .slice none 0 0, .slice none 0 0, .slice none 0 0], .agg #[.int .u64 0, .int .i64 0, .int .u64 0, .int .u64 0, .slice none 0 0, .int .i64 0, .int .u64 0, .int .u64 0, .int .u64 0, .slice none 0 0, .slice none 0 0], .int .u64 0, .int .u64 0, .int .u64 0] 8 rfl (World.shaped_of_RefB (by kernel_rfl) (by kernel_rfl)) (by kernel_rfl) (by kernel_rfl) (by kernel_rfl) (gb1 os _)) ?_
 intro W base args ds gs before hval0 hW _ _ hL _
 have hval:∀(j:Nat) t v,Tryz.f7.params[j]? =some t→args[j]? =some v→Value.okWide Tryz.prog W .any base t v:=hval0
 have hW':=hW
 obtain⟨p,q,hA0,hV,rfl,hfz,hnd⟩:=hW
 have hA:DataW.TrodAll enc Tryz.prog W 0 (fun _=>true) true Tryz.f7.params.toList args.toList ds p:=hA0
 rw [Tryz.params7]at hA hval
 obtain⟨v0,vs0,d0,ds0,p0,q0,hargs,rfl,rfl,h0,r0⟩:=trodAll_cons hA
 obtain⟨v1,vs1,d1,ds1,p1,q1,rfl,rfl,rfl,h1,r1⟩:=trodAll_cons r0
 obtain⟨v2,vs2,d2,ds2,p2,q2,rfl,rfl,rfl,h2,r2⟩:=trodAll_cons r1
 obtain⟨v3,vs3,d3,ds3,p3,q3,rfl,rfl,rfl,h3,r3⟩:=trodAll_cons r2
 obtain⟨v4,vs4,d4,ds4,p4,q4,rfl,rfl,rfl,h4,r4⟩:=trodAll_cons r3
 obtain⟨v5,vs5,d5,ds5,p5,q5,rfl,rfl,rfl,h5,r5⟩:=trodAll_cons r4
 obtain⟨rfl,rfl,rfl⟩:=trodAll_nil r5
 obtain rfl:args= #[v0,v1,v2,v3,v4,v5]:=by cases args;simp_all
 obtain⟨rfl,rfl⟩:=trodVars_none hV
 have lt0:∀x∈p0,x.block<W.heap.size:=by obtain⟨m,hm⟩:=h0;exact DataW.trod_lt m _ _ _ hm
 have lt1:∀x∈p1,x.block<W.heap.size:=by obtain⟨m,hm⟩:=h1;exact DataW.trod_lt m _ _ _ hm
 have lt2:∀x∈p2,x.block<W.heap.size:=by obtain⟨m,hm⟩:=h2;exact DataW.trod_lt m _ _ _ hm
 have lt3:∀x∈p3,x.block<W.heap.size:=by obtain⟨m,hm⟩:=h3;exact DataW.trod_lt m _ _ _ hm
 have lt4:∀x∈p4,x.block<W.heap.size:=by obtain⟨m,hm⟩:=h4;exact DataW.trod_lt m _ _ _ hm
 have lt5:∀x∈p5,x.block<W.heap.size:=by obtain⟨m,hm⟩:=h5;exact DataW.trod_lt m _ _ _ hm
 obtain⟨x0,t0,c0⟩:=Dm.qL (k:=9) (hval 0 48 v0 rfl rfl) h0 (by kernel_rfl)
 obtain⟨x1,t1,c1⟩:=Dm.qL (k:=9) (hval 1 48 v1 rfl rfl) h1 (by kernel_rfl)
 obtain⟨x2,t2,c2⟩:=Dm.qL (k:=9) (hval 2 29 v2 rfl rfl) h2 (by kernel_rfl)
 obtain⟨x3,t3,c3⟩:=Dm.qL (k:=9) (hval 3 23 v3 rfl rfl) h3 (by kernel_rfl)
 obtain⟨x4,t4,c4⟩:=Dm.qL (k:=9) (hval 4 23 v4 rfl rfl) h4 (by kernel_rfl)
 obtain⟨x5,t5,c5⟩:=Dm.qL (k:=9) (hval 5 23 v5 rfl rfl) h5 (by kernel_rfl)
 obtain⟨b,rfl,hb⟩:=Dm.jco t0
 obtain⟨o,rfl,ho⟩:=Dm.jco t1
 obtain⟨r,rfl,hr⟩:=Dm.udv t2
 obtain⟨who,rfl,hwho⟩:=Dm.zas t3
 obtain⟨id,rfl,hid⟩:=Dm.zas t4
 obtain⟨key,rfl,hkey⟩:=Dm.zas t5
 refine((Dm.baH b o r who id key ⟨hb.1.2.2.2.2.1.1,ho.1.2.2.2.2.1.1,hid,hr.2.2.2.1.1,fun c hc=>(hr.2.2.2.1.2.1 c hc).2⟩).2 (Dm.below W) W #[v0,v1,v2,v3,v4,v5] ⟨fun b hb=>hb,cells hL⟩ rfl (fun i v d hv hd=> ?_)).mono ?_
 ·rcases i with _|_|_|_|_|_|i<;>simp at hv hd
  ·subst hv;subst hd;exact c0
  ·subst hv;subst hd;exact c1
  ·subst hv;subst hd;exact c2
  ·subst hv;subst hd;exact c3
  ·subst hv;subst hd;exact c4
  ·subst hv;subst hd;exact c5
 ·rintro e W' ⟨v,I',rfl,hvr,hext,_⟩
  obtain rfl:=hvr.yl
  have bel:=Dm.wbZ _ _ hext
  exact⟨_,rfl,_,_,_,[],_,[],hW',trodAll_mk1 (shut_bool Tryz.underlying4 _),trodAll_cons_mk (Below.trod laidOut (by kernel_rfl) (of_decide_eq_true (by kernel_rfl)) h0 bel lt0) (trodAll_cons_mk (Below.trod laidOut (by kernel_rfl) (of_decide_eq_true (by kernel_rfl)) h1 bel lt1) (trodAll_cons_mk (Below.trod laidOut (by kernel_rfl) (of_decide_eq_true (by kernel_rfl)) h2 bel lt2) (trodAll_cons_mk (Below.trod laidOut (by kernel_rfl) (of_decide_eq_true (by kernel_rfl)) h3 bel lt3) (trodAll_cons_mk (Below.trod laidOut (by kernel_rfl) (of_decide_eq_true (by kernel_rfl)) h4 bel lt4) (trodAll_cons_mk (Below.trod laidOut (by kernel_rfl) (of_decide_eq_true (by kernel_rfl)) h5 bel lt5) trodAll_mk0))))),rfl,bel.frame _,fun h=>by cases h⟩
theorem j0:(Rows.guardDoesRow.wf (OpenSpec.ofChange Rows.guardDoesSpec))=true:=by kernel_rfl
theorem j1:(laidOutB Tryz.prog)=true:=by kernel_rfl
theorem j2:(mapsRowed Tryz.prog)=true:=by kernel_rfl
theorem j3:(Tryz.f7.params.all (Tryz.prog.readableRec ·))=true:=by kernel_rfl
theorem j4:(namedTie Tryz.prog Rows.guardDoesRow.named Rows.guardDoesSpec.vars)=true:=by kernel_rfl
theorem j5:((Rows.guardDoesRow.stops==[]))=true:=by kernel_rfl
theorem j6:((Tryz.prog.stops==[]))=true:=by kernel_rfl
theorem j7:((Rows.guardDoesRow.knobs==[]))=true:=by kernel_rfl
theorem j8:((Tryz.prog.stopKnobs==[]))=true:=by kernel_rfl
theorem j9:((Rows.guardDoesRow.inPlace==Tryz.prog.inPlace 7))=true:=by kernel_rfl
theorem j10:((Rows.guardDoesRow.unfollowed==Tryz.prog.unfollowed 7))=true:=by kernel_rfl
theorem j11:((Rows.guardDoesRow.recurses==Tryz.prog.recurses 7))=true:=by kernel_rfl
theorem j12:((Rows.guardDoesRow.named==Tryz.prog.varsNamed 7))=true:=by kernel_rfl
theorem j13:((Rows.guardDoesRow.maps==(Tryz.f7.params.toList++Rows.guardDoesSpec.plain.varTypes Tryz.prog).any (Tryz.prog.mapsRec ·)))=true:=by kernel_rfl
theorem j14:((Rows.guardDoesRow.ifaces==(Tryz.f7.params.toList++Rows.guardDoesSpec.plain.varTypes Tryz.prog).any (Tryz.prog.ifacesRec ·)))=true:=by kernel_rfl
theorem j15:((Rows.guardDoesRow.mapsOut==Tryz.prog.mapsAmong Tryz.f7.resultTypes.toList))=true:=by kernel_rfl
theorem j16:((Rows.guardDoesRow.loops==(Tryz.f7.params.toList++Rows.guardDoesSpec.plain.varTypes Tryz.prog).any (Tryz.prog.loopsFrom ·)))=true:=by kernel_rfl
theorem j17:((Rows.guardDoesRow.wideKeys==(Tryz.f7.params.toList++Rows.guardDoesSpec.plain.varTypes Tryz.prog++Tryz.f7.resultTypes.toList).any (Tryz.prog.wideKeysFrom ·)))=true:=by kernel_rfl
theorem j18:(Rows.guardDoesSpec.vars.all (Tryz.prog.varReadable ·))=true:=by kernel_rfl
theorem j19:(Tryz.f7.resultTypes.all (fun t=>Tryz.prog.readableRec t&&decide (t<Tryz.prog.types.size)))=true:=by kernel_rfl
theorem j20:((Rows.guardDoesRow.ifacesOut==Tryz.f7.resultTypes.toList.any (Tryz.prog.ifacesRec ·)))=true:=by kernel_rfl
theorem j21:((Rows.guardDoesRow.loopsOut==Tryz.f7.resultTypes.toList.any (Tryz.prog.loopsFrom ·)))=true:=by kernel_rfl
theorem j22:((Rows.guardDoesRow.plainKeys==Tryz.prog.plainKeys))=true:=by kernel_rfl
theorem j23:(Rows.guardDoesRow.shortTexts.isNone)=true:=by kernel_rfl
theorem j24:(Tryz.prog.stopsHeard)=true:=by kernel_rfl
theorem j25:(Tryz.prog.mayEnter)=true:=by kernel_rfl
theorem j26:((Rows.guardDoesRow.lifted==Tryz.prog.liftsFinal))=true:=by kernel_rfl
theorem j27:((Tryz.prog.make==some Rows.guardDoesRow.make))=true:=by kernel_rfl
theorem j28:((Rows.guardDoesRow.kinds==(if Rows.guardDoesRow.domain.isEmpty then []else Tryz.f7.params.toList.map fun t=>match Tryz.prog.underlying t with|some (.int k)=>some k|_=>none)))=true:=by kernel_rfl
theorem j29:((Rows.guardDoesRow.pinned==Rows.guardDoesRow.pinnedBy))=true:=by kernel_rfl
theorem j30:((Rows.guardDoesRow.veiled==(Tryz.f7.params.toList++Rows.guardDoesSpec.plain.varTypes Tryz.prog++Tryz.f7.resultTypes.toList).any (Tryz.prog.veiledRec ·)))=true:=by kernel_rfl
theorem j31:(Rows.guardDoesRow.veiledFits Tryz.prog Tryz.f7.params.toList (Tryz.f7.params.toList++Rows.guardDoesSpec.plain.varTypes Tryz.prog++Tryz.f7.resultTypes.toList))=true:=by kernel_rfl
set_option maxRecDepth 100000 in
theorem joined:joinedFacts Tryz.prog 7 Tryz.f7 Rows.guardDoesSpec Rows.guardDoesRow=true:=by
 unfold joinedFacts;exact Bool.and_eq_true_iff.2 ⟨Bool.and_eq_true_iff.2 ⟨Bool.and_eq_true_iff.2 ⟨Bool.and_eq_true_iff.2 ⟨Bool.and_eq_true_iff.2 ⟨Bool.and_eq_true_iff.2 ⟨Bool.and_eq_true_iff.2 ⟨Bool.and_eq_true_iff.2 ⟨Bool.and_eq_true_iff.2 ⟨Bool.and_eq_true_iff.2 ⟨Bool.and_eq_true_iff.2 ⟨Bool.and_eq_true_iff.2 ⟨Bool.and_eq_true_iff.2 ⟨Bool.and_eq_true_iff.2 ⟨Bool.and_eq_true_iff.2 ⟨Bool.and_eq_true_iff.2 ⟨Bool.and_eq_true_iff.2 ⟨Bool.and_eq_true_iff.2 ⟨Bool.and_eq_true_iff.2 ⟨Bool.and_eq_true_iff.2 ⟨Bool.and_eq_true_iff.2 ⟨Bool.and_eq_true_iff.2 ⟨Bool.and_eq_true_iff.2 ⟨Bool.and_eq_true_iff.2 ⟨Bool.and_eq_true_iff.2 ⟨Bool.and_eq_true_iff.2 ⟨Bool.and_eq_true_iff.2 ⟨Bool.and_eq_true_iff.2 ⟨Bool.and_eq_true_iff.2 ⟨Bool.and_eq_true_iff.2 ⟨Bool.and_eq_true_iff.2 ⟨j0,j1⟩,j2⟩,j3⟩,j4⟩,j5⟩,j6⟩,j7⟩,j8⟩,j9⟩,j10⟩,j11⟩,j12⟩,j13⟩,j14⟩,j15⟩,j16⟩,j17⟩,j18⟩,j19⟩,j20⟩,j21⟩,j22⟩,j23⟩,j24⟩,j25⟩,j26⟩,j27⟩,j28⟩,j29⟩,j30⟩,j31⟩
theorem over:Rows.GuardDoesSaid:=
 OpenClaim.holds_of_wide 7 Tryz.f7 rfl rfl rfl rfl rfl rfl rfl ⟨rfl,rfl,rfl,rfl,rfl⟩ rfl rfl rfl rfl rfl (by kernel_rfl) Tryz.func7 joined
  (of_decide_eq_true (by kernel_rfl)) (by unfold Func.isWrapper;first|(rw [if_pos (by decide+kernel)];kernel_rfl)|(rw [if_neg (by decide+kernel)];exact⟨rfl,rfl⟩))
  (fun os started H enc _=>lifted os started H enc)
theorem proved:Rows.GuardDoesCardSaid:=
 Claim7.holds_tied_plain_at .later [] [.data] true (true, "23020e2c71ca10fd40cf723a24c534f3bceb6f02341a7557c501b39b41daaf51") false
  over (fun _ h=>by cases h) (by kernel_rfl) (fun _ h=>by cases h) guardDoes_row_tie rfl ⟨rfl,rfl⟩ (by kernel_rfl) rfl
  (fun f fn hf hfn=>by
   obtain rfl:f=7:=Option.some.inj ((show Tryz.prog.funcNamed "damson/damsonlaw21.GuardDoes" =some 7 by kernel_rfl).symm.trans hf) |>.symm
   obtain rfl:fn=Tryz.f7:=(Option.some.inj (Tryz.func7.symm.trans hfn)).symm
   exact⟨by kernel_rfl,fun j t ht=>by
    rw [Tryz.params7]at ht
    have hm:t∈([48,48,29,23,23,23]:List TypeId):=by simpa using Array.mem_of_getElem? ht
    have hall:(([48,48,29,23,23,23]:List TypeId).all fun u=> !Tryz.prog.wantsStandIn u)=true:=by kernel_rfl
    exact(show Tryz.prog.wantsStandIn t=false by simpa using List.all_eq_true.1 hall t hm)⟩)
  (by kernel_rfl)
end Go.Proofs.YthcioaapafehhaaGreatDoor.GuardDoesLaw
