import Derived.Test.YthcioaapafehhaaGreatDoorP4
import Derived.Below
import Derived.ChangeOld
import Derived.LoopNIn
import Derived.Shelf.Abstract
import Derived.StillTail
set_option linter.unusedSimpArgs false
set_option linter.unusedVariables false
set_option linter.unusedSectionVars false
set_option linter.defProp false
set_option maxRecDepth 20000
set_option maxHeartbeats 4000000
namespace Dm
open Go
end Dm
namespace Dm
open Go
theorem bvA {a b:Nat} (ha:a<18446744073709551616) (hb:b<18446744073709551616):(BitVec.ofInt 64 (a:Int)&&& BitVec.ofInt 64 (b:Int)).toNat=a&&& b:=by
 rw [BitVec.ofInt_natCast,BitVec.ofInt_natCast,BitVec.toNat_and,BitVec.toNat_ofNat,BitVec.toNat_ofNat,Nat.mod_eq_of_lt (by simpa using ha),Nat.mod_eq_of_lt (by simpa using hb)]
theorem wN {n:Nat} (h:n<18446744073709551616):IntKind.u64.wrap (n:Int)=n:=by
 rw [IntKind.wrap_u64];omega
theorem yex {a b:Nat} (ha:a<18446744073709551616) (hb:b<18446744073709551616):kaY .u64 (a:Int) (b:Int)=((a&&& b:Nat):Int):=by
 have h:(BitVec.ofInt IntKind.u64.bits (a:Int)&&& BitVec.ofInt IntKind.u64.bits (b:Int)).toNat=a&&& b:=bvA ha hb
 rw [kaY,h]
 exact wN (Nat.lt_of_le_of_lt Nat.and_le_left ha)
end Dm
namespace Dm
open Go
def mrk (D:Nat):Deferred:={target:= .collected D,args:= #[]}
section
variable {δ:List Deferred} {P:Program} {T:Tab} {g g' g'':G} {s s' s'':St} {a:Act} {w w' w'':World} {n N:Nat}
def SWm (P:Program) (n N:Nat) (c:Code) (Q:Exit→St→Prop) (s:St):Prop:=
 ∀(δ:List Deferred) (g:G) (a:Act) (w:World),Rel δ g s a w→a.tmps.size=n→
  c.wp P (fun e a' w'=>∃(Ds:List Nat) (g':G) (s':St),Q e s'∧Rel (Ds.map mrk++δ) g' s' a' w'∧(∀D∈Ds,w.heap.size≤D∧w'.heap[D]? =some (.deferred (some [])))∧Ds.Nodup∧a'.tmps.size=n∧kg N g s w g' s' w') a w
theorem SWm.of {c:Code} {Q:Exit→St→Prop} (h:SWp P n N c Q s):SWm P n N c Q s:=fun δ g a w hr hn=>
 wp_mono (h δ g a w hr hn) fun e a' w' ⟨g',s',h1,h2,h3,h4⟩=>⟨[],g',s',h1,h2,fun D hD=>(by cases hD),List.nodup_nil,h3,h4⟩
theorem kg.other (h:kg N g s w g' s' w') (ho:qj g s w) {D:Nat} {o:Obj} (hD:w.heap[D]? =some o) (hc:xI o=false):w'.heap[D]? =some o:=by
 rw [h.same D (Array.getElem?_eq_some_iff.1 hD).1 fun hown=> ?_,hD]
 obtain⟨o',h1,h2⟩:=Own.cel ho hown
 rw [h1]at hD
 cases hD
 rw [hc]at h2
 cases h2
theorem SWm.seq {x y:Code} {Q:Exit→St→Prop} (h:SWm P n N x (sq (SWm P n N y Q) Q) s):SWm P n N (.seq x y) Q s:=fun δ g a w hr hn=>by
 refine wp_seq (wp_mono (h δ g a w hr hn) fun e a' w' ⟨Ds,g',s',h1,h2,h3,h4,h5,h6⟩=> ?_)
 cases e with
 |normal=>
  refine wp_mono (h1 _ g' a' w' h2 h5) fun e a'' w'' ⟨Ds',g'',s'',h7,h8,h9,h10,h11,h12⟩=> ?_
  refine⟨Ds'++Ds,g'',s'',h7,by simpa using h8,fun D hD=> ?_, ?_,h11,h6.trans h12⟩
  ·rcases List.mem_append.1 hD with hD|hD
   ·exact⟨Nat.le_trans h6.size (h9 D hD).1,(h9 D hD).2⟩
   ·exact⟨(h3 D hD).1,h12.other h2.o (h3 D hD).2 rfl⟩
  ·refine List.nodup_append.2 ⟨h10,h4,fun D hD D' hD' e=> ?_⟩
   subst e
   have:=(h9 D hD).1
   have:=(Array.getElem?_eq_some_iff.1 (h3 D hD').2).1
   omega
 |_=>exact⟨Ds,g',s',h1,h2,h3,h4,h5,h6⟩
theorem SWm.block {id:Nat} {c:Code} {Q:Exit→St→Prop} (h:SWm P n N c (bl id Q) s):SWm P n N (.block id c) Q s:=fun δ g a w hr hn=>by
 refine wp_block (wp_mono (h δ g a w hr hn) fun e a' w' ⟨Ds,g',s',h1,h2,h3,h4,h5,h6⟩=> ?_)
 cases e with
 |exit i=>
  simp only [bl]at h1
  simp only [Exit.inBlock]
  split
  ·rename_i hi
   rw [if_pos hi]at h1
   exact⟨Ds,g',s',h1,h2,h3,h4,h5,h6⟩
  ·rename_i hi
   rw [if_neg hi]at h1
   exact⟨Ds,g',s',h1,h2,h3,h4,h5,h6⟩
 |_=>exact⟨Ds,g',s',h1,h2,h3,h4,h5,h6⟩
theorem SWm.mono {c:Code} {Q Q':Exit→St→Prop} (h:SWm P n N c Q s) (hq:∀e s',Q e s'→Q' e s'):SWm P n N c Q' s:=
 fun δ g a w hr hn=>wp_mono (h δ g a w hr hn) fun e a' w' ⟨Ds,g',s',h1,h2⟩=>⟨Ds,g',s',hq e s' h1,h2⟩
theorem Ext.grown (h:Ext w w'):w.grownBy w' none:=⟨h.2.2.os,h.2.2.tape,h.2.2.out,h.1,fun k hk _=>h.2.1 k hk⟩
theorem qj.grown {row:Option Nat} (ho:qj g s w) (hg:w.grownBy w' row) (hrow:∀r,row=some r→∃o:Obj,w.heap[r]? =some o∧xI o=false):qj g s w':=by
 have hcel:∀b,Cel w b→w'.heap[b]? =w.heap[b]? :=fun b hb=>hg.block b hb.lt fun e=>by
  obtain⟨o,h1,h2⟩:=hrow b e.symm
  obtain⟨o',h3,h4⟩:=hb
  rw [h3]at h1
  cases h1
  rw [h4]at h2
  cases h2
 have hk:jo g.I w w':=fun b hb=>hcel b (ho.cel b hb)
 exact⟨fun id o h=>(ho.ok id o h).mono hk (.refl g) (fun b hb=>hcel b (Own.cel ho ⟨id,o,h,hb⟩)) rfl,ho.apart,ho.fresh,fun b hb=>⟨Nat.lt_of_lt_of_le (ho.imm b hb).1 hg.size,(ho.imm b hb).2⟩,ho.cel.same fun b hb=>hcel b (ho.cel b hb)⟩
theorem Rel.grown {row:Option Nat} (hr:Rel δ g s a w) (hg:w.grownBy w' row) (hrow:∀r,row=some r→∃o:Obj,w.heap[r]? =some o∧xI o=false):Rel δ g s a w':=by
 have hk:jo g.I w w':=fun b hb=>hg.block b (hr.o.cel b hb).lt fun e=>by
  obtain⟨o,h1,h2⟩:=hrow b e.symm
  obtain⟨o',h3,h4⟩:=hr.o.cel b hb
  rw [h3]at h1
  cases h1
  rw [h4]at h2
  cases h2
 exact⟨fun t d ht=>let⟨v,h1,h2⟩:=hr.tm t d ht;⟨v,h1,h2.mono hk (.refl g)⟩,hr.defers,hr.o.grown hg hrow⟩
theorem kg.grown {row:Option Nat} (h:kg N g s w g' s' w') (hg:w'.grownBy w'' row) (hd:w'.drawn≤w''.drawn) (hrow:∀r,row=some r→w.heap.size≤r):kg N g s w g' s' w'':=
 ⟨h.ρ,h.κ,h.I,Nat.le_trans h.size hg.size,fun b hb ho=>(hg.block b (Nat.lt_of_lt_of_le hb h.size) fun e=>by have:=hrow b e.symm;omega).trans (h.same b hb ho),h.own,h.imm,h.env.trans ⟨hg.os,hg.output,hg.tape,hd⟩⟩
theorem kg.less {M:Nat} (hNM:N≤M) (h:kg M g s w g' s' w'):kg N g s w g' s' w':=
 ⟨fun id b hi=>h.ρ id b (by omega),fun id a l c hi=>h.κ id a l c (by omega),h.I,h.size,h.same,h.own,h.imm,h.env⟩
def xfi (P:Program) (gf:FuncId) (lb:Array Value) (I:Nat→Prop) {m:Nat} (ys:Fin m→List D) (order:List (Fin m)) (w:World):Prop:=
 ∀(l:Nat) (J Jx:List (Fin m)→World→Prop) (W:World),RowKit.Below w.heap.size w W→(∀pre A B,J pre A→Ext A B→J pre B)→(∀pre A B,Jx pre A→Ext A B→Jx pre B)→
  (∀pre x (vs:Array Value) W1,J pre W1→pre.length<m→vs.size=(ys x).length→(∀(j:Nat) (v:Value) (d:D),vs[j]? =some v→(ys x)[j]? =some d→ua (G0 I) W1 v d)→YieldAt Fence.wide 3 P l vs W1 fun e W'=>
   (e= .returned (.bool true)∧J (pre++[x]) W'∧∀b,I b→Cel W1 b→W'.heap[b]? =W1.heap[b]?)∨(e= .returned (.bool false)∧Jx (pre++[x]) W'∧∀b,I b→Cel W1 b→W'.heap[b]? =W1.heap[b]?))→
  J [] W→CallsIn Fence.wide 4 P gf (#[.func (.yield l) #[] #[]]++lb) W fun e W'=>(∃v,e= .returned v)∧((∃xs,xs=order∧J xs W')∨(∃pre,pre<+:order∧Jx pre W'))
def zaI (P:Program) (gf:FuncId) (caps:List D) {m:Nat} (ys:Fin m→List D) (order:List (Fin m)):Prop:=
 (∀(args:Array Value) (w:World),(callFunc gf args).run P w= .ok (.enter gf args) w)∧∀(I:Nat→Prop) (w:World) (lb:Array Value),uaH I w→lb.size=caps.length→(∀(i:Nat) (v:Value) (d:D),lb[i]? =some v→caps[i]? =some d→ua (G0 I) w v d)→
  xfi P gf lb I ys order w
def xa7:List Nat→List D→List (Nat×D)→List (Nat×D)
 |p::l,d::ds,tm=>xa7 l ds ((p,d)::tm)
 |_,_,tm=>tm
def asg (A:St→Prop):Exit→St→Prop
 | .normal,s=>A s
 |_,_=>False
def rfp (Q:Exit→St→Prop) (s:St) (A:St→Prop) (pfx:Prop):Exit→St→Prop
 | .normal,s'=>A s'
 | .ret,s'=>pfx→Q .ret ⟨s.tm,s'.os,s'.nx⟩
 | .exit i,s'=>pfx→Q (.exit i) ⟨s.tm,s'.os,s'.nx⟩
 |_,_=>False
theorem vaS {δ':List Deferred} {w:World}:∀(ps:List Nat) (ds:List D) (vs:List Value) {tm:List (Nat×D)} {os:List (Nat×Ob)} {nx:Nat} {a:Act},Rel δ' g ⟨tm,os,nx⟩ a w→vs.length=ds.length→(∀p∈ps,p<a.tmps.size)→
 (∀(j:Nat) (v:Value) (d:D),vs[j]? =some v→ds[j]? =some d→ua g w v d)→
 Rel δ' g ⟨xa7 ps ds tm,os,nx⟩ {tmps:=(ps.zip vs).foldl (fun t (p,v)=>t.setIfInBounds p v) a.tmps,defers:=a.defers} w∧((ps.zip vs).foldl (fun t (p,v)=>t.setIfInBounds p v) a.tmps).size=a.tmps.size
 |[],ds,vs,tm,os,nx,a,hr,_,_,_=>⟨by simpa [xa7]using hr,rfl⟩
 |p::ps,[],[],tm,os,nx,a,hr,_,_,_=>⟨by simpa [xa7]using hr,rfl⟩
 |p::ps,d::ds,v::vs,tm,os,nx,a,hr,hl,hp,hv=>by
  have h1:Rel δ' g ⟨(p,d)::tm,os,nx⟩ (a.put (some p) v) w:=hr.put (some p) (hv 0 v d rfl rfl) (fun x hx=>by cases hx;exact hp p (by simp))
  have h2:=vaS ps ds vs (a:=a.put (some p) v) h1 (by simpa using hl) (fun q hq=>by rw [ye];exact hp q (by simp [hq])) (fun j u e hu he=>hv (j+1) u e (by simpa using hu) (by simpa using he))
  refine⟨?_, ?_⟩
  ·have:=h2.1
   simpa [xa7,Act.put]using this
  ·have:=h2.2
   rw [ye]at this
   simpa [Act.put]using this
def vdJ:Code→Option Exit
 | .ret=>some .ret
 | .exit i=>some (.exit i)
 |_=>none
def D.qap:D→Bool
 | .c _=>true
 | .rp _=>true
 |_=>false
theorem ua.vfz {v:Value} {d:D} (hd:d.qap=true) (h:ua g w v d):ua (G0 g.I) w v d:=by
 cases d<;>simp only [D.qap,Bool.false_eq_true]at hd
 case c x=>cases h with|c _ _ h=>exact .c _ _ h
 case rp cs=>cases h with|rp b off _ vs hI hc=>exact .rp b off cs vs hI hc
theorem SWm.rangeFunc (hT:zbA P T) (lv:Nat→Option (List Nat)) {gop:Operand} {ps:Array Tmp} {assign body:Code} {Q:Exit→St→Prop} {gf:FuncId} {caps:List D} (hev:s.ev gop= .fn (.func gf) [] caps) (hcaps:∀d∈caps,d.qap=true)
 {m:Nat} {ys:Fin m→List D} {order:List (Fin m)} (hit:zaI P gf caps ys order) (O:List (Fin m)→List (Nat×Ob)) (ok:List (Fin m)→Prop)
 (hps:∀x,(ys x).length=ps.size) (hpn:∀p∈ps.toList,p<n) (hN:N≤s.nx)
 (ha1:kP assign=true) (ha2:xH n assign=true) (hb1:kP body=true) (hb2:xH n body=true)
 (h0:ok []∧Sub s.nx s ⟨s.tm,O [],s.nx⟩)
 (hround:∀pre x,ok pre→pre.length<m→awp P T n s.nx lv assign (asg fun s1=>
  awp P T n s.nx lv body (rfp Q s (fun s'=>ok (pre++[x])∧Sub s.nx ⟨s.tm,s'.os,s'.nx⟩ ⟨s.tm,O (pre++[x]),s.nx⟩) (pre++[x]<+:order)) s1) ⟨xa7 ps.toList (ys x) s.tm,O pre,s.nx⟩)
 (hdone:ok order→Q .normal ⟨s.tm,O order,s.nx⟩):SWm P n N (.rangeFunc gop ps assign body) Q s:=by
 intro δ g a w hr hn
 have hg:=hr.ev gop
 rw [hev]at hg
 generalize hgv:a.eval gop=gv at hg
 cases hg with
 |fn _ fiv lb _ _ h1 h2 h3 h4=>
 have hfi:fiv= #[]:=by
  apply Array.eq_empty_of_size_eq_zero
  simpa using h1
 subst hfi
 obtain⟨hent,hit⟩:=hit
 have hseq:=hit g.I w lb hr.o.cel h2 fun i v d hv hd=>(h4 i v d hv hd).vfz (hcaps d (List.mem_of_getElem? hd))
 have hst0:∃g1,Rel δ g1 ⟨s.tm,O [],s.nx⟩ a w∧kg s.nx g s w g1 ⟨s.tm,O [],s.nx⟩ w:=⟨_,hr.sub h0.2⟩
 refine wpIn_wide (n:=5).1 (wpIn_rangeFunc fun fn _=> ?_)
 obtain⟨rec,hrec⟩:∃rec:LoopState→Option Code→Loop,rec=fun st pe=>{state:=st,pending:=pe,fn,tmps:=a.tmps,params:=ps,assign,body,defers:=w.heap.size}:=⟨_,rfl⟩
 obtain⟨W1,hW1⟩:∃W1,(w.alloc (.deferred (some []))).alloc (.loop (rec .ready none))=W1:=⟨_,rfl⟩
 have hL1:W1.heap[w.heap.size+1]? =some (.loop (rec .ready none)):=by
  rw [←hW1];have:=World.alloc_heap_new (w.alloc (.deferred (some []))) (.loop (rec .ready none));rwa [World.size_alloc]at this
 have hD1:W1.heap[w.heap.size]? =some (.deferred (some [])):=by
  rw [←hW1];exact(RowKit.Below.heap_alloc _ _ _ (by simp)).trans (World.alloc_heap_new w _)
 have hb1':RowKit.Below w.heap.size w W1:=by
  rw [←hW1];exact((RowKit.Below.refl _ w).alloc (Nat.le_refl _) _).alloc (by simp) _
 obtain⟨J,hJ⟩:∃J:List (Fin m)→World→Prop,J=fun pre W=>ok pre∧∃g1,Rel δ g1 ⟨s.tm,O pre,s.nx⟩ a W∧kg s.nx g s w g1 ⟨s.tm,O pre,s.nx⟩ W:=⟨_,rfl⟩
 obtain⟨Jx,hJx⟩:∃Jx:Code→List (Fin m)→World→Prop,Jx=fun c pre W=>∃(e:Exit) (s':St) (g1:G),vdJ c=some e∧(pre<+:order→Q e ⟨s.tm,s'.os,s'.nx⟩)∧Rel δ g1 ⟨s.tm,s'.os,s'.nx⟩ a W∧kg s.nx g s w g1 ⟨s.tm,s'.os,s'.nx⟩ W:=⟨_,rfl⟩
 have hJe:∀pre W W',J pre W→Ext W W'→J pre W':=by
  intro pre W W' h he
  rw [hJ]at h⊢
  obtain⟨h5,g1,h6,h7⟩:=h
  exact⟨h5,g1,h6.grown he.grown fun r e=>(by cases e),h7.grown he.grown he.2.2.drw fun r e=>by cases e⟩
 have hJxe:∀c pre W W',Jx c pre W→Ext W W'→Jx c pre W':=by
  intro c pre W W' h he
  rw [hJx]at h⊢
  obtain⟨e,s',g1,h5,h8,h6,h7⟩:=h
  exact⟨e,s',g1,h5,h8,h6.grown he.grown fun r e=>(by cases e),h7.grown he.grown he.2.2.drw fun r e=>by cases e⟩
 have hJg:∀pre W W' row,J pre W→W.grownBy W' row→W.drawn≤W'.drawn→(∀r,row=some r→w.heap.size≤r∧∃o:Obj,W.heap[r]? =some o∧xI o=false)→J pre W':=by
  intro pre W W' row h hgr hdr hrow
  rw [hJ]at h⊢
  obtain⟨h5,g1,h6,h7⟩:=h
  exact⟨h5,g1,h6.grown hgr fun r e=>(hrow r e).2,h7.grown hgr hdr fun r e=>(hrow r e).1⟩
 have hJxg:∀c pre W W' row,Jx c pre W→W.grownBy W' row→W.drawn≤W'.drawn→(∀r,row=some r→w.heap.size≤r∧∃o:Obj,W.heap[r]? =some o∧xI o=false)→Jx c pre W':=by
  intro c pre W W' row h hgr hdr hrow
  rw [hJx]at h⊢
  obtain⟨e,s',g1,h5,h8,h6,h7⟩:=h
  exact⟨e,s',g1,h5,h8,h6.grown hgr fun r e=>(hrow r e).2,h7.grown hgr hdr fun r e=>(hrow r e).1⟩
 have hput:∀(W:World) (o:Obj),W.heap[w.heap.size+1]? =some o→xI o=false→∀r,some (w.heap.size+1)=some r→w.heap.size≤r∧∃o:Obj,W.heap[r]? =some o∧xI o=false:=fun W o h h' r e=>by cases e;exact⟨by omega,o,h,h'⟩
 have hW1g:∀pre,J pre w→J pre W1:=fun pre h=>by
  rw [←hW1]
  exact hJg _ _ _ none (hJg _ _ _ none h (World.grownBy_alloc w _ none) (Nat.le_refl _) (fun r e=>by cases e)) (World.grownBy_alloc _ _ none) (Nat.le_refl _) fun r e=>by cases e
 refine⟨w.heap.size+1,[{target:= .collected w.heap.size,args:= #[]}],W1,{target:= .fn (.func gf) lb,args:= #[.func (.yield (w.heap.size+1)) #[] #[]]},W1,gf,
  #[.func (.yield (w.heap.size+1)) #[] #[]]++lb,W1, ?_, ?_, ?_, ?_,fun _=>by omega, ?_⟩
 ·rw [←hW1,hrec];exact run_enterLoop_outer _ _ _ _ _
 ·simp only [resolve,hgv]
  simp [go_sem]
 ·intro f' _;trivial
 ·simp [invoke,go_sem,hent]
 ·refine(hseq (w.heap.size+1)
   (fun pre W=>J pre W∧W.heap[w.heap.size+1]? =some (.loop (rec .ready none))∧W.heap[w.heap.size]? =some (.deferred (some [])))
   (fun pre W=>∃c,Jx c pre W∧W.heap[w.heap.size+1]? =some (.loop (rec .done (some c)))∧W.heap[w.heap.size]? =some (.deferred (some [])))
   W1 hb1'
   (fun pre A B hs he=>⟨hJe pre A B hs.1 he,(he.2.1 _ (Array.getElem?_eq_some_iff.1 hs.2.1).1).trans hs.2.1,(he.2.1 _ (Array.getElem?_eq_some_iff.1 hs.2.2).1).trans hs.2.2⟩)
   (fun pre A B hs he=>by
    obtain⟨c,hc,hl,hk⟩:=hs
    exact⟨c,hJxe c pre A B hc he,(he.2.1 _ (Array.getElem?_eq_some_iff.1 hl).1).trans hl,(he.2.1 _ (Array.getElem?_eq_some_iff.1 hk).1).trans hk⟩)
   ?_ ⟨hW1g _ (by rw [hJ];exact⟨h0.1,hst0⟩),hL1,hD1⟩).mono ?_
  ·
   rintro pre x vs W ⟨hj,hl,hk⟩ hlen hvs1 hvs2
   rw [hJ]at hj
   obtain⟨hok,g1,hr1,hs1⟩:=hj
   have hy:=run_yield (P:=P) (args:=vs) hl (by rw [hrec];exact hvs1.trans (hps x))
   rw [hrec]at hy
   have henc:∀(j:Nat) (v:Value) (d:D),vs[j]? =some v→(ys x)[j]? =some d→ua g1 W v d:=fun j v d hv hd=>
    (hvs2 j v d hv hd).of0 (g:=g1) fun b hb=>hs1.I b hb
   have hset:=vaS (δ':=[]) ps.toList (ys x) vs.toList (a:={tmps:=a.tmps,defers:=[]}) (g:=g1) (w:=W) (tm:=s.tm) (os:=O pre) (nx:=s.nx) ⟨hr1.tm,rfl,hr1.o⟩ (by simpa using hvs1) (fun p hp=>by show p<a.tmps.size;rw [hn];exact hpn p hp) (fun j v d hv hd=>henc j v d (by simpa using hv) hd)
   have hzip:((ps.zip vs).foldl (fun t (p,v)=>t.setIfInBounds p v) a.tmps)=((ps.toList.zip vs.toList).foldl (fun t (p,v)=>t.setIfInBounds p v) a.tmps):=by
    rw [←Array.foldl_toList,Array.toList_zip]
   refine⟨fn,_,assign,body,hy,roundIn_of_wpIn trivial ?_⟩
   rw [hzip]
   refine wpIn_mono (zai hT lv assign _ _ ha1 ha2 (hround pre x hok hlen) g1 _ W hset.1 (by show _=n;rw [hset.2];exact hn)) ?_
   rintro e a2 W2 ⟨g2,s2,h5,h6,h7,h8⟩
   cases e with
   |normal=>
    have h5:awp P T n s.nx lv body _ s2:=h5
    have hl2:=h8.other hset.1.o hl rfl
    have hk2:=h8.other hset.1.o hk rfl
    refine⟨_,run_beginRound hl2 (by rw [hrec]), ?_⟩
    obtain⟨W3,hW3⟩:∃W3,W2.putObj (w.heap.size+1) (.loop {rec .ready none with state:= .busy})=W3:=⟨_,rfl⟩
    rw [hW3]
    have hg3:W2.grownBy W3 (some (w.heap.size+1)):=by rw [←hW3];exact grownBy_putObj' _ _ _
    have hlt2:w.heap.size+1<W2.heap.size:=(Array.getElem?_eq_some_iff.1 hl2).1
    have hl3:W3.heap[w.heap.size+1]? =some (.loop {rec .ready none with state:= .busy}):=by rw [←hW3];exact World.putObj_heap_same hlt2
    have hk3:W3.heap[w.heap.size]? =some (.deferred (some [])):=by rw [←hW3];exact(World.putObj_heap_other (by omega)).trans hk2
    have hr3:=h6.grown hg3 fun r e=>(hput W2 _ hl2 rfl r e).2
    have hs3:kg s.nx g s w g2 ⟨s.tm,s2.os,s2.nx⟩ W3:=((hs1.tm (tm:=s.tm) (tm':=s.tm)).trans (h8.tm (tm:=s.tm) (tm':=s.tm))).grown hg3 (by rw [←hW3];exact Nat.le_refl _) fun r e=>(hput W2 _ hl2 rfl r e).1
    refine wpIn_mono (zai hT lv body _ _ hb1 hb2 h5 g2 a2 W3 hr3 h7) ?_
    rintro e a4 W4 ⟨g4,s4,h9,h10,h11,h12⟩
    have hl4:=h12.other hr3.o hl3 rfl
    have hk4:=h12.other hr3.o hk3 rfl
    have hs4:kg s.nx g s w g4 ⟨s.tm,s4.os,s4.nx⟩ W4:=hs3.trans (h12.tm (tm:=s.tm) (tm':=s.tm))
    have hst:Step g s w g4 ⟨s.tm,s4.os,s4.nx⟩ W4:=hs4.step hr.o (Nat.le_refl _)
    have hr4:Rel δ g4 ⟨s.tm,s4.os,s4.nx⟩ a W4:=⟨fun t d ht=>let⟨v,h13,h14⟩:=hr.tm t d ht;⟨v,h13,hst.vch hr.o h14⟩,hr.defers,h10.o.tm⟩
    have fin:∀(jump:Option Code),∃W5,(Instr.endRound (w.heap.size+1) jump).run P W4= .ok (.bool jump.isNone) W5∧(W4.grownBy W5 (some (w.heap.size+1))∧W4.drawn≤W5.drawn)∧W5.heap[w.heap.size+1]? =some (.loop (rec (if jump.isNone then .ready else .done) jump))∧W5.heap[w.heap.size]? =some (.deferred (some [])):=fun jump=>by
     have:=run_endRound (P:=P) jump hl4
     rw [hrec]at this⊢
     exact⟨_,this,⟨grownBy_putObj' _ _ _,Nat.le_refl _⟩,World.putObj_heap_same (Array.getElem?_eq_some_iff.1 hl4).1,(World.putObj_heap_other (by omega)).trans hk4⟩
    have hkp:∀W5,W4.grownBy W5 (some (w.heap.size+1))→∀b,g.I b→Cel W b→W5.heap[b]? =W.heap[b]? :=fun W5 hg5 b hb _=>by
     have h13:W.heap[b]? =w.heap[b]? :=hs1.same b (hr.o.imm b hb).1 (hr.o.imm b hb).2
     have h14:W4.heap[b]? =w.heap[b]? :=hst.same b (hr.o.imm b hb).1 (hr.o.imm b hb).2
     have hlt:=(hr.o.imm b hb).1
     rw [h13,←h14]
     exact hg5.block b (Nat.lt_of_lt_of_le hlt hst.size) fun e=>by cases e;omega
    have leave:∀(c:Code) (e:Exit),vdJ c=some e→(pre++[x]<+:order→Q e ⟨s.tm,s4.os,s4.nx⟩)→Jx c (pre++[x]) W4:=fun c e h13 h14=>by
     rw [hJx]
     exact⟨e,s4,g4,h13,h14,hr4,hs4⟩
    cases e with
    |normal=>
     obtain⟨h13,h14⟩:ok (pre++[x])∧Sub s.nx ⟨s.tm,s4.os,s4.nx⟩ ⟨s.tm,O (pre++[x]),s.nx⟩:=h9
     obtain⟨h15,h16⟩:=hr4.sub h14
     obtain⟨W5,h17,h18,h19,h20⟩:=fin none
     refine⟨_,W5,h17, .inl ⟨rfl,⟨hJg _ W4 W5 _ (by rw [hJ];exact⟨h13,_,h15,hs4.trans h16⟩) h18.1 h18.2 (hput W4 _ hl4 rfl),h19,h20⟩,hkp W5 h18.1⟩⟩
    |ret=>
     obtain⟨W5,h17,h18,h19,h20⟩:=fin (some .ret)
     exact⟨_,W5,h17, .inr ⟨rfl,⟨.ret,hJxg _ _ W4 W5 _ (leave .ret .ret rfl h9) h18.1 h18.2 (hput W4 _ hl4 rfl),h19,h20⟩,hkp W5 h18.1⟩⟩
    |exit i=>
     obtain⟨W5,h17,h18,h19,h20⟩:=fin (some (.exit i))
     exact⟨_,W5,h17, .inr ⟨rfl,⟨.exit i,hJxg _ _ W4 W5 _ (leave (.exit i) (.exit i) rfl h9) h18.1 h18.2 (hput W4 _ hl4 rfl),h19,h20⟩,hkp W5 h18.1⟩⟩
    |_=>exact h9.elim
   |_=>exact h5.elim
  ·
   rintro e W2 ⟨⟨v,rfl⟩,(⟨xs,rfl,hi,hl,hk⟩|⟨pre,hSp,c,hi,hl,hk⟩)⟩
   ·refine⟨none,_,by have:=run_endLoop (P:=P) hl (by rw [hrec];simp);rw [hrec]at this;exact this, ?_⟩
    have hg3:=grownBy_putObj' W2 (w.heap.size+1) (.loop {rec .ready none with state:= .exhausted})
    have hi3:=hJg _ W2 _ _ hi hg3 (Nat.le_refl _) (hput W2 _ hl rfl)
    have hk3:=(World.putObj_heap_other (w:=W2) (r:=w.heap.size+1) (o:= .loop {rec .ready none with state:= .exhausted}) (k:=w.heap.size) (by omega)).trans hk
    rw [hrec]at hi3 hk3
    rw [hJ]at hi3
    obtain⟨h5,g1,h6,h7⟩:=hi3
    exact⟨[w.heap.size],g1,_,hdone h5,⟨h6.tm,by show _::a.defers=_;rw [hr.defers];rfl,h6.o⟩,fun D hD=>by simp at hD;subst hD;exact⟨Nat.le_refl _,hk3⟩,by simp,hn,kg.less hN h7⟩
   ·refine⟨some c,_,by have:=run_endLoop (P:=P) hl (by rw [hrec];simp);rw [hrec]at this;exact this, ?_⟩
    have hg3:=grownBy_putObj' W2 (w.heap.size+1) (.loop {rec .done (some c)with state:= .exhausted})
    have hi3:=hJxg c _ W2 _ _ hi hg3 (Nat.le_refl _) (hput W2 _ hl rfl)
    have hk3:=(World.putObj_heap_other (w:=W2) (r:=w.heap.size+1) (o:= .loop {rec .done (some c)with state:= .exhausted}) (k:=w.heap.size) (by omega)).trans hk
    rw [hrec]at hi3 hk3
    rw [hJx]at hi3
    have hfin:∀Wf,(∃(e:Exit) (s':St) (g1:G),vdJ c=some e∧(pre<+:order→Q e ⟨s.tm,s'.os,s'.nx⟩)∧Rel δ g1 ⟨s.tm,s'.os,s'.nx⟩ a Wf∧kg s.nx g s w g1 ⟨s.tm,s'.os,s'.nx⟩ Wf)→Wf.heap[w.heap.size]? =some (.deferred (some []))→
     c.wpIn Fence.wide 5 P (fun e a' w'=>∃(Ds:List Nat) (g':G) (s':St),Q e s'∧Rel (Ds.map mrk++δ) g' s' a' w'∧(∀D∈Ds,w.heap.size≤D∧w'.heap[D]? =some (.deferred (some [])))∧Ds.Nodup∧a'.tmps.size=n∧kg N g s w g' s' w') {a with defers:=[{target:= .collected w.heap.size,args:= #[]}]++a.defers} Wf:=by
     rintro Wf ⟨e,s',g1,h5,h8,h6,h7⟩ hkf
     have key:∃(Ds:List Nat) (g':G) (s':St),Q e s'∧Rel (Ds.map mrk++δ) g' s' {a with defers:=[{target:= .collected w.heap.size,args:= #[]}]++a.defers} Wf∧(∀D∈Ds,w.heap.size≤D∧Wf.heap[D]? =some (.deferred (some [])))∧Ds.Nodup∧a.tmps.size=n∧kg N g s w g' s' Wf:=
      ⟨[w.heap.size],g1,_,h8 hSp,⟨h6.tm,by show _::a.defers=_;rw [hr.defers];rfl,h6.o⟩,fun D hD=>by simp at hD;subst hD;exact⟨Nat.le_refl _,hkf⟩,by simp,hn,kg.less hN h7⟩
     cases c<;>simp only [vdJ,reduceCtorEq,Option.some.injEq]at h5
     ·subst h5;exact wpIn_exit key
     ·subst h5;exact wpIn_ret key
    exact hfin _ hi3 hk3
end
end Dm
namespace Dm
open Go
section
variable {δ:List Deferred} {P:Program} {T:Tab} {g g' g'':G} {s s' s'':St} {a:Act} {w w' w'':World} {n N:Nat}
theorem zaa {m:Nat} {fn:Func} {tmps:Array Value} {R:Ending→World→Prop} (K:World→Prop):∀(Ds:List Nat) (w:World),Ds.Nodup→(∀D∈Ds,w.heap[D]? =some (.deferred (some [])))→K w→
 (∀W D,D∈Ds→K W→W.heap[D]? =some (.deferred (some []))→K (W.putObj D (.deferred none)))→(∀W,K W→∃v,(results fn tmps).run P W= .ok v W∧R (.returned v) W)→
 LeavesInM Fence.wide m P fn tmps R (Ds.map mrk) .returning w
 |[],w,_,_,hK,_,h=>h w hK
 |D::Ds,w,hn,hD,hK,hs,h=>by
  obtain⟨hn1,hn2⟩:=List.nodup_cons.1 hn
  refine⟨by simp, .inl ⟨D,_,rfl,run_takeDeferred (hD D (by simp)), ?_⟩⟩
  refine zaa K Ds _ hn2 (fun D' hD'=> ?_) (hs w D (by simp) hK (hD D (by simp))) (fun W D' hD'=>hs W D' (by simp [hD'])) h
  have hne:D'≠D:=fun e=>hn1 (by rw [←e];exact hD')
  exact(World.putObj_heap_other hne).trans (hD D' (by simp [hD']))
theorem x9 {f:FuncId} {fn:Func} {c:Code} {ds:List D} {os:List (Nat×Ob)} {nx:Nat} {Q:D→List (Nat×Ob)→Nat→Prop}
 (hf:P.funcs[f]? =some fn) (hname:(fn.name== "runtime.NumGoroutine")=false) (hb:fn.body=some c) (hn:fn.ntmps=n) (hl:ds.length≤n) {rs:List ResultVar} (hrs:fn.results.toList=rs)
 (h:SWm P n nx c (fin P rs Q) ⟨prm 0 ds,os,nx⟩):jk P f ds os nx Q:=by
 refine⟨⟨fn,hf,hname,by rw [hb];rfl⟩,fun g w vs ho hsz hv=> ?_⟩
 refine callsIn_wide (n:=5).1 (callsIn_of_wp_marks hf hb trivial (wpIn_wide.2 ?_))
 subst hn
 have hr:Rel [] g ⟨prm 0 ds,os,nx⟩ {tmps:=vs++Array.replicate (fn.ntmps - vs.size) undef,defers:=[]} w:=by
  refine⟨fun t d ht=> ?_,rfl,ho.tm⟩
  obtain⟨_,h2⟩:=zbg ds 0 t d ht
  rw [Nat.sub_zero]at h2
  have ht:t<vs.size:=by
   rw [hsz]
   rcases Nat.lt_or_ge t ds.length with h|h
   ·exact h
   ·rw [List.getElem?_eq_none h]at h2;cases h2
  refine⟨vs[t], ?_,hv t _ d (Array.getElem?_eq_getElem ht) h2⟩
  rw [Array.getElem?_append_left ht,Array.getElem?_eq_getElem ht]
 refine wp_mono (h [] g _ w hr (by simp;omega)) fun e a' w' ⟨Ds,g',s',h1,h2,h3,h4,h5,h6⟩=> ?_
 rw [List.append_nil]at h2
 have fin:∀(hq:rto (rdD P s' rs) s' Q),LeavesInM Fence.wide 5 P fn a'.tmps (fun e w'=>∃v d g' os' nx',e= .returned v∧Q d os' nx'∧qj g' ⟨[],os',nx'⟩ w'∧ua g' w' v d∧Step g ⟨[],os,nx⟩ w g' ⟨[],os',nx'⟩ w') a'.defers .returning w':=by
  intro hq
  rw [h2.defers]
  refine zaa (fun W=>Rel (Ds.map mrk) g' s' a' W∧kg nx g ⟨prm 0 ds,os,nx⟩ w g' s' W) Ds w' h4 (fun D hD=>(h3 D hD).2) ⟨h2,h6⟩ (fun W D hD hK hd=> ?_) (fun W hK=> ?_)
  ·have hg:=grownBy_putObj' W D (.deferred none)
   exact⟨hK.1.grown hg fun r e=>by cases e;exact⟨_,hd,rfl⟩,hK.2.grown hg (Nat.le_refl _) fun r e=>by cases e;exact(h3 D hD).1⟩
  ·unfold rto at hq
   split at hq
   ·rename_i d hrd
    obtain⟨v,h7,h8⟩:=uT hK.1 fn hrs hrd
    exact⟨v,h7,v,d,g',s'.os,s'.nx,rfl,hq,hK.1.o.tm,h8,(hK.2.tm (tm:=[]) (tm':=[])).step ho (Nat.le_refl _)⟩
   ·cases hq
 cases e with
 |normal=>exact fin h1
 |ret=>exact fin h1
 |_=>cases h1
theorem SWm.awp (hT:zbA P T) (lv:Nat→Option (List Nat)) {c:Code} {Q:Exit→St→Prop} (hd:xH n c=true) (h:awp P T n N lv c Q s):SWm P n N c Q s:=SWm.of (ya hT lv c Q s hd h)
end
end Dm
namespace Dm
open Go
abbrev Sg (m:Nat):=List (Fin m)×Bool
section
variable {P:Program} {T:Tab} {g:G} {s s':St} {a:Act} {w w':World} {n l m:Nat}
structure YOk (P:Program) (l:Nat) (I:Nat→Prop) {m:Nat} (ys:Fin m→List D) (J Jx:List (Fin m)→World→Prop):Prop where
 round:∀pre x (vs:Array Value) W1,J pre W1→pre.length<m→vs.size=(ys x).length→(∀(j:Nat) (v:Value) (d:D),vs[j]? =some v→(ys x)[j]? =some d→ua (G0 I) W1 v d)→YieldAt Fence.wide 3 P l vs W1 fun e W'=>
  (e= .returned (.bool true)∧J (pre++[x]) W'∧∀b,I b→Cel W1 b→W'.heap[b]? =W1.heap[b]?)∨(e= .returned (.bool false)∧Jx (pre++[x]) W'∧∀b,I b→Cel W1 b→W'.heap[b]? =W1.heap[b]?)
 grow:∀pre W W',J pre W→Ext W W'→J pre W'
 growx:∀pre W W',Jx pre W→Ext W W'→Jx pre W'
def xQ (I:Nat→Prop) {m:Nat} (J Jx:List (Fin m)→World→Prop) (s:St) (σ:Sg m) (a:Act) (w:World):Prop:=
 s.os=[]∧s.nx=0∧match σ.2 with
  |true=>Rel [] (G0 I) s a w∧J σ.1 w
  |false=>Rel [] (G0 I) s a w∧Jx σ.1 w
def SY (P:Program) (n:Nat) (I:Nat→Prop) {m:Nat} (J Jx:List (Fin m)→World→Prop) (c:Code) (Q:Exit→St→Sg m→Prop) (s:St) (σ:Sg m):Prop:=
 ∀a w,xQ I J Jx s σ a w→a.tmps.size=n→c.wpIn Fence.wide 4 P (fun e a' w'=>∃s' σ',Q e s' σ'∧xQ I J Jx s' σ' a' w'∧a'.tmps.size=n) a w
def bbb (o:Oper) (s:St) (l:Nat):Option (List D):=match o.op with
 | .call c=>match c.callee with
  | .value f=>match s.ev f with
   | .fn (.yield l') [] []=>if l'=l then some (c.args.toList.map s.ev)else none
   |_=>none
  |_=>none
 |_=>none
def vaC:List Nat→List (Nat×D)→List (Nat×D)
 |_,[]=>[]
 |seen,(t,d)::l=>if seen.contains t=true then vaC seen l else if d.waY=true then(t,d)::vaC (t::seen) l else vaC (t::seen) l
def St.kbA (s:St):St:=⟨vaC [] s.tm,[],0⟩
def gaz (P:Program) (T:Tab) (l:Nat) {m:Nat} (ys:Fin m→List D) (K:St→Sg m→Prop):List Oper→St→Sg m→Prop
 |[],s,σ=>K s σ
 |o::rest,s,σ=>o.guard=none∧match bbb o s l with
  |some ds=>σ.2=true∧σ.1.length<m∧∃x,ds=ys x∧gaz P T l ys K rest (s.put o.dst (.bool true)) (σ.1++[x],true)∧gaz P T l ys K rest (s.kbA.put o.dst (.bool false)) (σ.1++[x],false)
  |none=>qH P T o s fun s'=>gaz P T l ys K rest s' σ
variable {I:Nat→Prop} {ys:Fin m→List D} {J Jx:List (Fin m)→World→Prop}
theorem Rel.be6 {I:Nat→Prop} (hr:Rel [] (G0 I) s a w) (hext:Ext w w'):Rel [] (G0 I) s a w':=by
 obtain⟨h1,h2⟩:=hr.o.grow hext (I:=I) (fun b hb=>hb) (fun b _ hb=>hb) (hr.o.cel.same fun b hb=>hext.2.1 b (hr.o.imm b hb).1)
 exact⟨fun t d ht=>let⟨v,h3,h4⟩:=hr.tm t d ht;⟨v,h3,h2.vch hr.o h4⟩,hr.defers,h1⟩
theorem xQ.put {σ:Sg m} (h:xQ I J Jx s σ a w) (t:Option Tmp) {v:Value} {d:D} (hv:∀g,(σ.2=true→g=G0 I)→(σ.2=false→g=G0 I)→ua g w v d) (ht:∀x,t=some x→x<a.tmps.size):xQ I J Jx (s.put t d) σ (a.put t v) w:=by
 obtain⟨h1,h2,h3⟩:=h
 refine⟨by cases t<;>exact h1,by cases t<;>exact h2, ?_⟩
 obtain⟨pre,b⟩:=σ
 cases b
 ·exact⟨h3.1.put t (hv _ (fun h=>by cases h) fun _=>rfl) ht,h3.2⟩
 ·exact⟨h3.1.put t (hv _ (fun _=>rfl) fun h=>by cases h) ht,h3.2⟩
theorem xQ.ext {σ:Sg m} (hY:YOk P l I ys J Jx) (h:xQ I J Jx s σ a w) (hext:Ext w w'):xQ I J Jx s σ a w':=by
 obtain⟨h1,h2,h3⟩:=h
 refine⟨h1,h2, ?_⟩
 obtain⟨pre,b⟩:=σ
 cases b
 ·exact⟨h3.1.be6 hext,hY.growx _ _ _ h3.2 hext⟩
 ·exact⟨h3.1.be6 hext,hY.grow _ _ _ h3.2 hext⟩
theorem opY (hT:za P T) (hY:YOk P l I ys J Jx) {σ:Sg m} {o:Oper} {K:St→Prop} (h:qH P T o s K) (hr:xQ I J Jx s σ a w) (hn:a.tmps.size=n) (hd:∀x,o.dst=some x→x<n) {KK:Act→World→Prop} {Q:Exit→Act→World→Prop}
 (hK:∀s' a' w',K s'→xQ I J Jx s' σ a' w'→a'.tmps.size=n→KK a' w'):o.wpIn Fence.wide 4 P a w KK Q:=by
 have main:∃(v:Value) (d:D),bc6 P o a w v∧K (s.put o.dst d)∧∀w',Ext w w'→xQ I J Jx (s.put o.dst d) σ (a.put o.dst v) w':=by
  obtain⟨h1,h2,h3⟩:=hr
  obtain⟨pre,b⟩:=σ
  cases b
  ·obtain⟨v,d,h4,h5,h6⟩:=xas hT o h h3.1
   refine⟨v,d,h4,h6,fun w' hext=>xQ.ext hY (σ:=(pre,false)) (xQ.put (σ:=(pre,false)) ⟨h1,h2,h3⟩ o.dst (fun g _ hg=>by rw [hg rfl];exact h5) (fun x hx=>by rw [hn];exact hd x hx)) hext⟩
  ·obtain⟨v,d,h4,h5,h6⟩:=xas hT o h h3.1
   refine⟨v,d,h4,h6,fun w' hext=>xQ.ext hY (σ:=(pre,true)) (xQ.put (σ:=(pre,true)) ⟨h1,h2,h3⟩ o.dst (fun g hg _=>by rw [hg rfl];exact h5) (fun x hx=>by rw [hn];exact hd x hx)) hext⟩
 obtain⟨v,d,h4,h5,h6⟩:=main
 refine⟨fun f _=>trivial, ?_⟩
 have hq:=h4 w (.refl w)
 unfold Oper.quietAt at hq
 have hsem:Oper.semAt Fence.wide.round a.eval o=execOp a.eval o:=rfl
 rw [hsem]
 generalize (execOp a.eval o).run P w=r at hq⊢
 have fin:∀w',Ext w w'→KK (a.put o.dst v) w':=fun w' hext=>hK _ _ _ h5 (h6 w' hext) (by rw [ye,hn])
 cases r with
 |ok nx w1=>
  cases nx with
  |value u=>obtain⟨rfl,rfl⟩:=hq;exact fin _ (.refl _)
  |skip=>obtain⟨rfl,rfl⟩:=hq;exact fin _ (.refl _)
  |enter f args=>
   obtain⟨rfl,hc⟩:=hq
   refine⟨fun hh=>(by cases hh),callsIn_wide.2 (hc.mono ?_)⟩
   rintro e w2 ⟨rfl,hext⟩
   exact fin w2 hext
  |_=>exact hq.elim
 |halt x w1=>exact hq.elim
theorem waC {t:Nat} {d:D}:∀(tm:List (Nat×D)) (seen:List Nat),lk t (vaC seen tm)=some d→seen.contains t=false∧lk t tm=some d∧d.waY=true
 |[],seen,h=>by cases h
 |(u,e)::l,seen,h=>by
  simp only [vaC]at h
  split at h
  ·rename_i hc
   obtain⟨h1,h2,h3⟩:=waC l seen h
   refine⟨h1, ?_,h3⟩
   rw [zb,if_neg (fun e=>by subst e;rw [h1]at hc;cases hc)]
   exact h2
  ·rename_i hc
   split at h
   ·rename_i hs
    rw [zb]at h
    split at h
    ·rename_i e'
     cases h
     subst e'
     exact⟨by simpa using hc,by rw [zb,if_pos rfl],hs⟩
    ·rename_i hne
     obtain⟨h1,h2,h3⟩:=waC l _ h
     exact⟨by simp at h1⊢;exact h1.2,by rw [zb,if_neg hne];exact h2,h3⟩
   ·obtain⟨h1,h2,h3⟩:=waC l _ h
    have hne:¬t=u:=by simp at h1;exact h1.1
    exact⟨by simp at h1⊢;exact h1.2,by rw [zb,if_neg hne];exact h2,h3⟩
theorem jdA (hY:YOk P l I ys J Jx) {pre:List (Fin m)} {o:Oper} {ds:List D} (hy:bbb o s l=some ds) (hlen:pre.length<m) {x:Fin m} (hx:ds=ys x) (hr:xQ I J Jx s (pre,true) a w) (hn:a.tmps.size=n) (hd:∀t,o.dst=some t→t<n)
 {KK:Act→World→Prop} {Q:Exit→Act→World→Prop}
 (hK:∀w',xQ I J Jx (s.put o.dst (.bool true)) (pre++[x],true) (a.put o.dst (.bool true)) w'→KK (a.put o.dst (.bool true)) w')
 (hK':∀w',xQ I J Jx (s.kbA.put o.dst (.bool false)) (pre++[x],false) (a.put o.dst (.bool false)) w'→KK (a.put o.dst (.bool false)) w'):o.wpIn Fence.wide 4 P a w KK Q:=by
 obtain⟨h1,h2,h3,h4⟩:=hr
 unfold bbb at hy
 split at hy<;>try cases hy
 rename_i c ho
 split at hy<;>try cases hy
 rename_i f hc
 split at hy<;>try cases hy
 rename_i l' hf
 split at hy<;>cases hy
 rename_i hl
 subst hl
 have hff:=h3.ev f
 rw [hf]at hff
 generalize hfv:a.eval f=fv at hff
 cases hff with
 |fn _ fiv cav _ _ h5 h6 h7 h8=>
 have e1:fiv= #[]:=Array.eq_empty_of_size_eq_zero (by simpa using h5)
 have e2:cav= #[]:=Array.eq_empty_of_size_eq_zero (by simpa using h6)
 subst e1;subst e2
 obtain⟨h9,h10⟩:=uq h3 c.args
 have hvs:∀(j:Nat) (v:Value) (d:D),(c.args.map a.eval)[j]? =some v→(ys x)[j]? =some d→ua (G0 I) w v d:=fun j v d hv hd=>h10 j v d hv (by rw [hx];exact hd)
 obtain⟨fn,tmps,assign,body,hrun,hround⟩:=hY.round pre x (c.args.map a.eval) w h4 hlen (by rw [h9,hx]) hvs
 refine⟨fun f _=>trivial, ?_⟩
 have hsem:Oper.semAt Fence.wide.round a.eval o=execOp a.eval o:=rfl
 rw [hsem]
 have hex:(execOp a.eval o).run P w= .ok (.round l' fn tmps assign body) w:=by
  unfold execOp
  simp [ho,resolve,hc,hfv,Deferred.ofValue,invoke,hrun]
 rw [hex]
 refine⟨fun hh=>(by cases hh),hround.mono ?_⟩
 rintro e w' (⟨rfl,hj,hkp⟩|⟨rfl,hj,hkp⟩)
 ·refine hK w' (xQ.put (σ:=(pre++[x],true)) ⟨h1,h2, ?_,hj⟩ o.dst (fun g _ _=> .c _ _ (.bool _)) fun t ht=>by rw [hn];exact hd t ht)
  have hk:jo I w w':=fun b hb=>hkp b hb (h3.o.cel b hb)
  refine⟨fun t d ht=>let⟨v,h11,h12⟩:=h3.tm t d ht;⟨v,h11,h12.mono hk (.refl _)⟩,h3.defers,⟨fun id o h=> ?_,fun id o id' o' b h=> ?_,fun id _=>⟨rfl,rfl⟩,fun b hb=>⟨((h3.o.cel b hb).keep (hk b hb)).lt,(h3.o.imm b hb).2⟩,h3.o.cel.same fun b hb=>hk b hb⟩⟩
  ·rw [h1]at h;cases h
  ·rw [h1]at h;cases h
 ·have hk:jo I w w':=fun b hb=>hkp b hb (h3.o.cel b hb)
  refine hK' w' (xQ.put (σ:=(pre++[x],false)) ⟨rfl,rfl,⟨fun t d ht=> ?_,h3.defers,⟨fun id o h=>(by cases h),fun id o id' o' b h=>(by cases h),fun id _=>⟨rfl,rfl⟩,fun b hb=>⟨((h3.o.cel b hb).keep (hk b hb)).lt,fun⟨_,_,h,_⟩=>by cases h⟩,h3.o.cel.same fun b hb=>hk b hb⟩⟩,hj⟩ o.dst (fun g _ _=> .c _ _ (.bool _)) fun t ht=>by rw [hn];exact hd t ht)
  obtain⟨_,h11,h12⟩:=waC _ _ ht
  obtain⟨v,h13,h14⟩:=h3.tm t d h11
  exact⟨v,h13,h14.any h12⟩
theorem uB (hT:za P T) (hY:YOk P l I ys J Jx) (all:Array Oper) {K:St→Sg m→Prop} {Q:Exit→Act→World→Prop}:∀(ops:List Oper) {s:St} {σ:Sg m} {a:Act} {w:World},(∀o∈ops,xl n o=true)→gaz P T l ys K ops s σ→xQ I J Jx s σ a w→a.tmps.size=n→
 (∀s' σ' a' w',K s' σ'→xQ I J Jx s' σ' a' w'→a'.tmps.size=n→Q .normal a' w')→wpListIn Fence.wide 4 P all Q ops a w
 |[],s,σ,a,w,_,h,hr,hn,hQ=>hQ _ _ _ _ h hr hn
 |o::rest,s,σ,a,w,hd,h,hr,hn,hQ=>by
  have hdo:∀x,o.dst=some x→x<n:=fun x hx=>by
   have:=hd o (by simp)
   unfold xl at this
   rw [hx]at this
   simpa using this
  have hrest:∀o∈rest,xl n o=true:=fun o ho=>hd o (by simp [ho])
  obtain⟨hg,h⟩:=h
  have hw:Region.wanted o (yielded all a.tmps)=true:=by simp [Region.wanted,hg]
  simp only [wpListIn,hw,if_true]
  split at h
  ·rename_i ds hds
   obtain⟨hlive,hlen,x,hx,h1,h2⟩:=h
   obtain⟨pre,b⟩:=σ
   have hb:b=true:=hlive
   subst hb
   exact jdA hY hds hlen hx hr hn hdo (fun w' hr'=>uB hT hY all rest hrest h1 hr' (by rw [ye,hn]) hQ) (fun w' hr'=>uB hT hY all rest hrest h2 hr' (by rw [ye,hn]) hQ)
  ·exact opY hT hY h hr hn hdo fun s' a' w' hK hr' hn'=>uB hT hY all rest hrest hK hr' hn' hQ
theorem xQ.sub {σ:Sg m} (h:xQ I J Jx s σ a w) (hs:s'.os=[]∧s'.nx=0∧uc5 s.tm s'.tm):xQ I J Jx s' σ a w:=by
 obtain⟨h1,h2,h3⟩:=h
 have key:∀{I:Nat→Prop},Rel [] (G0 I) s a w→Rel [] (G0 I) s' a w:=fun hr=>⟨fun t d ht=>by
  obtain⟨d',h4,h5⟩:=gaG hs.2.2 ht
  obtain⟨v,h6,h7⟩:=hr.tm t d' h4
  exact⟨v,h6,h7.le h5⟩,hr.defers,⟨fun id o h=>(by rw [hs.1]at h;cases h),fun id o id' o' b h=>(by rw [hs.1]at h;cases h),fun id _=>⟨rfl,rfl⟩,fun b hb=>⟨(hr.o.imm b hb).1,fun⟨id,o,h,_⟩=>by rw [hs.1]at h;cases h⟩,hr.o.cel⟩⟩
 refine⟨hs.1,hs.2.1, ?_⟩
 obtain⟨pre,b⟩:=σ
 cases b
 ·exact⟨key h3.1,h3.2⟩
 ·exact⟨key h3.1,h3.2⟩
theorem SY.region (hT:za P T) (hY:YOk P l I ys J Jx) {i:Nat} {ops:Array Oper} {Q:Exit→St→Sg m→Prop} {σ:Sg m} (hd:ops.toList.all (xl n)=true) (h:gaz P T l ys (Q .normal) ops.toList s σ):SY P n I J Jx (.region i ops false) Q s σ:=fun a w hr hn=>
 wpIn_region_list (uB hT hY ops ops.toList (fun o ho=>List.all_eq_true.1 hd o ho) h hr hn fun s' σ' a' w' h1 h2 h3=>⟨s',σ',h1,h2,h3⟩)
theorem SY.seq {x y:Code} {Q:Exit→St→Sg m→Prop} {σ:Sg m} (h:SY P n I J Jx x (fun e s σ=>match e with| .normal=>SY P n I J Jx y Q s σ|e=>Q e s σ) s σ):SY P n I J Jx (.seq x y) Q s σ:=fun a w hr hn=>by
 refine wpIn_seq (wpIn_mono (h a w hr hn) fun e a' w' ⟨s',σ',h1,h2,h3⟩=> ?_)
 cases e with
 |normal=>exact h1 a' w' h2 h3
 |_=>exact⟨s',σ',h1,h2,h3⟩
theorem xQ.ev {σ:Sg m} (h:xQ I J Jx s σ a w) {c:Operand} {b:Bool} (hc:s.ev c= .bool b):a.eval c= .bool b:=by
 obtain⟨h1,h2,h3⟩:=h
 obtain⟨pre,b'⟩:=σ
 cases b'
 ·have:=h3.1.ev c;rw [hc]at this;exact this.yl
 ·have:=h3.1.ev c;rw [hc]at this;exact this.yl
theorem SY.cond {c:Operand} {x y:Code} {b:Bool} {Q:Exit→St→Sg m→Prop} {σ:Sg m} (hc:s.ev c= .bool b) (h1:b=true→SY P n I J Jx x Q s σ) (h2:b=false→SY P n I J Jx y Q s σ):SY P n I J Jx (.cond c x y) Q s σ:=fun a w hr hn=>by
 refine wpIn_cond (hr.ev hc) ?_
 cases b with
 |true=>exact h1 rfl a w hr hn
 |false=>exact h2 rfl a w hr hn
theorem SY.skip {Q:Exit→St→Sg m→Prop} {σ:Sg m} (h:Q .normal s σ):SY P n I J Jx .skip Q s σ:=fun a w hr hn=>wpIn_skip ⟨s,σ,h,hr,hn⟩
theorem SY.ret {Q:Exit→St→Sg m→Prop} {σ:Sg m} (h:Q .ret s σ):SY P n I J Jx .ret Q s σ:=fun a w hr hn=>wpIn_ret ⟨s,σ,h,hr,hn⟩
theorem SY.exit {i:Nat} {Q:Exit→St→Sg m→Prop} {σ:Sg m} (h:Q (.exit i) s σ):SY P n I J Jx (.exit i) Q s σ:=fun a w hr hn=>wpIn_exit ⟨s,σ,h,hr,hn⟩
theorem SY.block {i:Nat} {c:Code} {Q:Exit→St→Sg m→Prop} {σ:Sg m} (h:SY P n I J Jx c (fun e s σ=>match e with| .exit j=>if j=i then Q .normal s σ else Q (.exit j) s σ|e=>Q e s σ) s σ):SY P n I J Jx (.block i c) Q s σ:=fun a w hr hn=>by
 refine wpIn_block (wpIn_mono (h a w hr hn) fun e a' w' ⟨s',σ',h1,h2,h3⟩=> ?_)
 cases e with
 |exit j=>
  simp only [Exit.inBlock]
  dsimp only at h1
  split
  ·rename_i hj;rw [if_pos hj]at h1;exact⟨s',σ',h1,h2,h3⟩
  ·rename_i hj;rw [if_neg hj]at h1;exact⟨s',σ',h1,h2,h3⟩
 |_=>exact⟨s',σ',h1,h2,h3⟩
theorem SY.loop {c:Code} {Q:Exit→St→Sg m→Prop} {σ:Sg m} (k:Nat) (S:Nat→St) (G':Nat→Sg m) (i0:Nat) (h0:∀a w,xQ I J Jx s σ a w→xQ I J Jx (S i0) (G' i0) a w) (hi0:i0≤k)
 (hround:∀i,i≤k→SY P n I J Jx c (fun e s' σ'=>match e with| .normal=>i<k∧σ'=G' (i+1)∧(S (i+1)).os=[]∧(S (i+1)).nx=0∧uc5 s'.tm (S (i+1)).tm|e=>Q e s' σ') (S i) (G' i)):SY P n I J Jx (.loop c) Q s σ:=by
 have key:∀(j i:Nat) (a:Act) (w:World),i≤k→k - i=j→xQ I J Jx (S i) (G' i) a w→a.tmps.size=n→
  Code.roundsIn Fence.wide 4 P c (fun e a' w'=>∃s' σ',Q e s' σ'∧xQ I J Jx s' σ' a' w'∧a'.tmps.size=n) (j+1) a w:=by
  intro j
  induction j with
  |zero=>
   intro i a w hi hj hr hn
   refine wpIn_mono (hround i hi a w hr hn) fun e a' w' ⟨s',σ',h1,h2,h3⟩=> ?_
   cases e with
   |normal=>have:=h1.1;omega
   |_=>exact⟨s',σ',h1,h2,h3⟩
  |succ j ih=>
   intro i a w hi hj hr hn
   refine wpIn_mono (hround i hi a w hr hn) fun e a' w' ⟨s',σ',h1,h2,h3⟩=> ?_
   cases e with
   |normal=>
    obtain⟨h4,rfl,h5,h6,h7⟩:=h1
    exact ih (i+1) a' w' h4 (by omega) (h2.sub ⟨h5,h6,h7⟩) h3
   |_=>exact⟨s',σ',h1,h2,h3⟩
 exact fun a w hr hn=>wpIn_loop_rounds (k - i0+1) (key (k - i0) i0 a w hi0 rfl (h0 a w hr) hn)
end
end Dm
namespace Dm
open Go
section
variable {P:Program} {T:Tab} {g:G} {s s':St} {a:Act} {w w':World} {n l m:Nat}
theorem zaI.of {gf:FuncId} {fn:Func} {c:Code} {caps:List D} {ys:Fin m→List D} {order:List (Fin m)}
 (hf:P.funcs[gf]? =some fn) (hname:(fn.name== "runtime.NumGoroutine")=false) (hb:fn.body=some c) (hn:fn.ntmps=n) (hl:caps.length+1≤n) (hrs:fn.results.toList=[])
 (h:∀(l:Nat) (I:Nat→Prop) (J Jx:List (Fin m)→World→Prop),YOk P l I ys J Jx→
  SY P n I J Jx c (fun e _ σ=>(e= .normal∨e= .ret)∧((σ.2=true∧σ.1=order)∨(σ.2=false∧σ.1<+:order))) ⟨prm 0 (.fn (.yield l) [] []::caps),[],0⟩ ([],true)):zaI P gf caps ys order:=by
 refine⟨Go.Proofs.enters_of hf hname hb,fun I w lb hI hsz hv=> ?_⟩
 ·intro l J Jx W hbel hJ hJx hround h0
  refine callsIn_of_wp hf hb trivial ?_
  subst hn
  have hY:YOk P l I ys J Jx:=
   ⟨hround,hJ,hJx⟩
  have hcel:uaH I W:=hI.same fun b hb=>hbel.block b (hI b hb).lt
  have hk:jo I w W:=fun b hb=>hbel.block b (hI b hb).lt
  have hr:Rel [] (G0 I) ⟨prm 0 (.fn (.yield l) [] []::caps),[],0⟩ {tmps:=(#[Value.func (.yield l) #[] #[]]++lb)++Array.replicate (fn.ntmps - (#[Value.func (.yield l) #[] #[]]++lb).size) undef,defers:=[]} W:=by
   refine⟨fun t d ht=> ?_,rfl,(qj.none I W hcel).tm⟩
   obtain⟨_,h2⟩:=zbg _ 0 t d ht
   rw [Nat.sub_zero]at h2
   have hs:(#[Value.func (.yield l) #[] #[]]++lb).size=caps.length+1:=by simp [hsz];omega
   have ht:t<(#[Value.func (.yield l) #[] #[]]++lb).size:=by
    rw [hs]
    have:=(List.getElem?_eq_some_iff.1 h2).1
    simpa using this
   refine⟨(#[Value.func (.yield l) #[] #[]]++lb)[t],by rw [Array.getElem?_append_left ht,Array.getElem?_eq_getElem ht], ?_⟩
   cases t with
   |zero=>
    simp at h2
    subst h2
    simp
    exact .fn _ _ _ _ _ rfl rfl (fun i v d h=>by simp at h) (fun i v d h=>by simp at h)
   |succ t=>
    have h3:caps[t]? =some d:=by simpa using h2
    have h4:lb[t]? =some (#[Value.func (.yield l) #[] #[]]++lb)[t+1]:=by
     rw [Array.getElem_append_right (by simp)]
     simp
    exact(hv t _ d h4 h3).mono hk (.refl _)
  refine wpIn_mono (h l I J Jx hY _ W ⟨rfl,rfl,hr,h0⟩ (by simp [hsz];omega)) ?_
  rintro e a' w' ⟨s',σ',⟨h1,h2⟩,h3,h4⟩
  have fin:a'.defers=[]∧∃v,(results fn a'.tmps).run P w'= .ok v w'∧((∃u,Ending.returned v= .returned u)∧((∃xs,xs=order∧J xs w')∨(∃pre,pre<+:order∧Jx pre w'))):=by
   obtain⟨h5,h6,h7⟩:=h3
   obtain⟨pre,b⟩:=σ'
   cases b
   ·obtain⟨h8,h9⟩:=h7
    obtain⟨v,h10,_⟩:=uT h8 fn hrs (d:= .tup []) rfl
    refine⟨h8.defers,v,h10,⟨v,rfl⟩, .inr ⟨pre, ?_,h9⟩⟩
    rcases h2 with⟨h,_⟩|⟨_,h⟩
    ·cases h
    ·exact h
   ·obtain⟨h8,h9⟩:=h7
    obtain⟨v,h10,_⟩:=uT h8 fn hrs (d:= .tup []) rfl
    refine⟨h8.defers,v,h10,⟨v,rfl⟩, .inl ⟨pre, ?_,h9⟩⟩
    rcases h2 with⟨_,h⟩|⟨h,_⟩
    ·exact h
    ·cases h
  rcases h1 with rfl|rfl
  ·exact fin
  ·exact fin
end
end Dm
namespace Dm
open Go
section
variable {P:Program} {g g':G} {w w':World}
def Grown (z:Nat) (e:TypeId) (els:List (List C)) (d:D) (os:List (Nat×Ob)):Prop:=∃k,d= .vec k els.length∧lk k os=some (.vec true z e els)
theorem jk.grow {f:FuncId} {i j nx m n:Nat} {os:List (Nat×Ob)} {z e:Nat} {h1 h2:Bool} {A B E:List (List C)} {mid:List D} {Q:D→List (Nat×Ob)→Nat→Prop}
 (h:jk P f (.vec 0 n::mid++[.vec 1 m]) [(1, .vec h2 z e B),(0, .vec h1 z e A)] 2 fun d os' _=>Grown z e E d os')
 (hi:lk i os=some (.vec h1 z e A)) (hj:lk j os=some (.vec h2 z e B)) (hne:i≠j) (hn:A.length<E.length) (hmid:∀d∈mid,∀g g' w v,ua g w v d→ua g' w v d)
 (hQ:Q (.vec i E.length) ((i, .vec true z e E)::rmv os [i,j]) nx):jk P f (.vec i n::mid++[.vec j m]) os nx Q:=by
 refine⟨h.1,fun g w vs ho hsz hv=> ?_⟩
 have hib:=ho.lt hi
 have hjb:=ho.lt hj
 let g0:G:=⟨fun _=>none,fun k=>if k=0 then g.κ i else if k=1 then g.κ j else none,g.I⟩
 have hoi:=ho.ok i _ hi
 have hoj:=ho.ok j _ hj
 have hk0:g0.κ 0=g.κ i:=rfl
 have hk1:g0.κ 1=g.κ j:=rfl
 have hlk0:∀id o,lk id [(1,Ob.vec h2 z e B),(0,Ob.vec h1 z e A)]=some o→(id=0∧o= .vec h1 z e A)∨(id=1∧o= .vec h2 z e B):=fun id o h=>by
  simp only [zb]at h
  split at h
  ·rename_i hid;cases h;exact .inr ⟨hid,rfl⟩
  ·split at h
   ·rename_i hid;cases h;exact .inl ⟨hid,rfl⟩
   ·cases h
 have hb0:∀o:Ob,(∃hd z e els,o= .vec hd z e els)→g0.blk 0 o=g.blk i o:=fun o ⟨hd,z,e,els,ho⟩=>by subst ho;rfl
 have hb1:∀o:Ob,(∃hd z e els,o= .vec hd z e els)→g0.blk 1 o=g.blk j o:=fun o ⟨hd,z,e,els,ho⟩=>by subst ho;rfl
 have hown0:∀b,Own g0 ⟨[],[(1, .vec h2 z e B),(0, .vec h1 z e A)],2⟩ b→g.blk i (.vec h1 z e A)=some b∨g.blk j (.vec h2 z e B)=some b:=fun b ⟨id,o,h3,h4⟩=>by
  rcases hlk0 id o h3 with⟨rfl,rfl⟩|⟨rfl,rfl⟩
  ·exact .inl h4
  ·exact .inr h4
 have hownG:∀b,Own g0 ⟨[],[(1, .vec h2 z e B),(0, .vec h1 z e A)],2⟩ b→Own g ⟨[],os,nx⟩ b:=fun b h=>(hown0 b h).elim (fun h=>⟨i,_,hi,h⟩) fun h=>⟨j,_,hj,h⟩
 have ho0:qj g0 ⟨[],[(1, .vec h2 z e B),(0, .vec h1 z e A)],2⟩ w:=by
  refine⟨fun id o h=> ?_,fun id o id' o' b h3 h4 h5 h6=> ?_,fun id hid=> ?_,fun b hb=>⟨(ho.imm b hb).1,fun h=>(ho.imm b hb).2 (hownG b h)⟩,ho.cel⟩
  ·rcases hlk0 id o h with⟨rfl,rfl⟩|⟨rfl,rfl⟩
   ·exact hoi
   ·exact hoj
  ·rcases hlk0 id o h3 with⟨rfl,rfl⟩|⟨rfl,rfl⟩<;>rcases hlk0 id' o' h4 with⟨rfl,rfl⟩|⟨rfl,rfl⟩
   ·rfl
   ·exact absurd (ho.apart i _ j _ b hi hj h5 h6) hne
   ·exact absurd (ho.apart i _ j _ b hi hj h6 h5) hne
   ·rfl
  ·have hid':2≤id:=hid
   refine⟨rfl, ?_⟩
   show(if id=0 then g.κ i else if id=1 then g.κ j else none)=none
   rw [if_neg (by omega),if_neg (by omega)]
 have hvec:∀{k k' m:Nat} {v:Value},g0.κ k'=g.κ k→ua g w v (.vec k m)→ua g0 w v (.vec k' m):=fun{k k' m v} hk hv=>by
  cases hv with
  |vec a' cap' _ _ a0 len cap hkk hle hm ha hvq=>exact .vec _ _ _ _ a0 len cap (by rw [hk];exact hkk) hle hm ha hvq
 have hv0:∀(k:Nat) (v:Value) (d:D),vs[k]? =some v→(D.vec 0 n::mid++[.vec 1 m])[k]? =some d→ua g0 w v d:=fun k v d hk hd=>by
  have hlen:(D.vec i n::mid++[D.vec j m]).length=mid.length+2:=by simp
  rcases k with _|k
  ·simp at hd;subst hd
   exact hvec hk0 (hv 0 v _ hk (by simp))
  ·simp only [List.cons_append,List.getElem?_cons_succ]at hd
   rw [List.getElem?_append]at hd
   split at hd
   ·rename_i hlt
    have:=hv (k+1) v d hk (by simp only [List.cons_append,List.getElem?_cons_succ];rw [List.getElem?_append_left hlt];exact hd)
    exact hmid d (List.mem_of_getElem? hd) _ _ _ _ this
   ·rename_i hlt
    have hk':k=mid.length:=by
     have:=(List.getElem?_eq_some_iff.1 hd).1
     simp at this;omega
    subst hk'
    simp at hd;subst hd
    exact hvec hk1 (hv (mid.length+1) v _ hk (by simp))
 refine(h.2 g0 w vs ho0 (by simpa using hsz) hv0).mono ?_
 rintro ex w' ⟨v,d,g',os',nx',rfl,⟨k,rfl,hk⟩,hro,hvr,hst⟩
 have hok:=hro.ok k _ hk
 obtain⟨a2,cap2,h6,h7,h8,h9,h10⟩:=hok
 let g2:G:=⟨g.ρ,fun id=>if id=i then some (a2,E.length,cap2)else g.κ id,g'.I⟩
 have h2i:g2.κ i=g'.κ k:=by show(if i=i then _ else _)=_;rw [if_pos rfl,h6]
 have h2o:∀id,id≠i→g2.κ id=g.κ id:=fun id hid=>if_neg hid
 obtain⟨a1,cap1,hi1,hi2⟩:=hoi
 have hle:g.Le g2:=by
  refine⟨fun _ _ h=>h,fun id x l c hid=> ?_,fun b hb=>hst.le.I b hb⟩
  by_cases hii:id=i
  ·subst hii
   rw [hi1]at hid
   cases hid
   exact⟨a2,E.length,cap2,by rw [h2i,h6],by omega,fun e=>by omega⟩
  ·exact⟨x,l,c,by rw [h2o id hii];exact hid,Nat.le_refl _,fun _=>⟨rfl,rfl⟩⟩
 have hin:∀id o,lk id ((i,Ob.vec true z e E)::rmv os [i,j])=some o→(id=i∧o= .vec true z e E)∨(id≠i∧id≠j∧lk id os=some o):=fun id o h=>by
  simp only [zb,xau]at h
  split at h
  ·rename_i hid;cases h;exact .inl ⟨hid,rfl⟩
  ·rename_i hid
   split at h
   ·cases h
   ·rename_i hid2
    simp at hid2
    exact .inr ⟨hid,hid2.2,h⟩
 have hblko:∀id o,id≠i→g2.blk id o=g.blk id o:=fun id o hid=>by
  cases o with
  |box cs=>rfl
  |map _ _=>rfl
  |it _ _=>rfl
  |vec _ _ _ _=>simp only [G.blk,h2o id hid]
 have hblki:∀b,g2.blk i (.vec true z e E)=some b→g'.blk k (.vec true z e E)=some b:=fun b hb=>by
  simp only [G.blk,h2i]at hb⊢
  exact hb
 have hrest:∀id o b,id≠i→id≠j→lk id os=some o→g.blk id o=some b→b<w.heap.size∧¬Own g0 ⟨[],[(1, .vec h2 z e B),(0, .vec h1 z e A)],2⟩ b:=fun id o b h11 h12 h13 h14=>by
  refine⟨(ho.ok id o h13).lt.1 b h14,fun h15=> ?_⟩
  rcases hown0 b h15 with h16|h16
  ·exact h11 (ho.apart id o i _ b h13 hi h14 h16)
  ·exact h12 (ho.apart id o j _ b h13 hj h14 h16)
 have hnew:∀b,g'.blk k (.vec true z e E)=some b→Own g' ⟨[],os',nx'⟩ b:=fun b hb=>⟨k,_,hk,hb⟩
 have hownN:∀b,Own g2 ⟨[],(i, .vec true z e E)::rmv os [i,j],nx⟩ b→Own g' ⟨[],os',nx'⟩ b∨Own g ⟨[],os,nx⟩ b∧b<w.heap.size∧¬Own g0 ⟨[],[(1, .vec h2 z e B),(0, .vec h1 z e A)],2⟩ b:=fun b ⟨id,o,h11,h12⟩=>by
  rcases hin id o h11 with⟨rfl,rfl⟩|⟨h13,h14,h15⟩
  ·exact .inl (hnew b (hblki b h12))
  ·rw [hblko id o h13]at h12
   exact .inr ⟨⟨id,o,h15,h12⟩,hrest id o b h13 h14 h15 h12⟩
 have hkeep:jo g.I w w':=fun b hb=>hst.same b (ho.imm b hb).1 fun h=>(ho.imm b hb).2 (hownG b h)
 have himm:∀b,b<w.heap.size→¬Own g ⟨[],os,nx⟩ b→g'.I b→g.I b:=fun b hb hno hi'=>hst.imm b hb (fun h=>hno (hownG b h)) hi'
 refine⟨v,_,g2,_,nx,rfl,hQ,⟨fun id o h=> ?_,fun id o id' o' b h11 h12 h13 h14=> ?_,fun id hid=> ?_,fun b hb=>⟨(hro.imm b hb).1,fun h=> ?_⟩,hro.cel⟩, ?_,⟨hle,hst.size,fun b hb hno=>hst.same b hb fun h=>hno (hownG b h),fun b hb hno h=> ?_,himm,hst.env⟩⟩
 ·rcases hin id o h with⟨rfl,rfl⟩|⟨h11,h12,h13⟩
  ·exact⟨a2,cap2,by rw [h2i,h6],h7,h8,h9,h10⟩
  ·exact(ho.ok id o h13).mono hkeep hle (fun b hb=>hst.same b (hrest id o b h11 h12 h13 hb).1 (hrest id o b h11 h12 h13 hb).2) (h2o id h11)
 ·have key:∀id o b,id≠i→id≠j→lk id os=some o→g.blk id o=some b→g'.blk k (.vec true z e E)=some b→False:=fun id o b h15 h16 h17 h18 h19=>by
   have:=hrest id o b h15 h16 h17 h18
   exact hst.own b this.1 this.2 (hnew b h19)
  rcases hin id o h11 with⟨rfl,rfl⟩|⟨h15,h16,h17⟩<;>rcases hin id' o' h12 with⟨rfl,rfl⟩|⟨h18,h19,h20⟩
  ·rfl
  ·rw [hblko id' o' h18]at h14
   exact(key id' o' b h18 h19 h20 h14 (hblki b h13)).elim
  ·rw [hblko id o h15]at h13
   exact(key id o b h15 h16 h17 h13 (hblki b h14)).elim
  ·rw [hblko id o h15]at h13
   rw [hblko id' o' h18]at h14
   exact ho.apart id o id' o' b h17 h20 h13 h14
 ·have:=ho.fresh id hid
  have h20:nx≤id:=hid
  have h21:i<nx:=hib
  have hne':id≠i:=by omega
  exact⟨this.1,by rw [h2o id hne'];exact this.2⟩
 ·rcases hownN b h with h11|⟨h11,h12,h13⟩
  ·exact(hro.imm b hb).2 h11
  ·exact(ho.imm b (hst.imm b h12 h13 hb)).2 h11
 ·cases hvr with
  |vec a' cap' _ _ a0 len cap hkk hle' hm ha hvq=>exact .vec _ _ _ _ a0 len cap (by rw [h2i];exact hkk) hle' hm ha hvq
 ·rcases hownN b h with h11|⟨h11,_⟩
  ·exact hst.own b hb (fun h=>hno (hownG b h)) h11
  ·exact hno h11
end
end Dm
namespace Dm
open Go
def xx (T:TypeId→List C→Prop):List Field→List C→Prop
 |[],xs=>xs=[]
 |f::r,xs=>∃ys zs,xs=ys++zs∧T f.type ys∧xx T r zs
def ud8 (T:List C→Prop):Nat→List C→Prop
 |0,xs=>xs=[]
 |n+1,xs=>∃ys zs,xs=ys++zs∧T ys∧ud8 T n zs
def Typ (P:Program):Nat→TypeId→List C→Prop
 |0,_,_=>False
 |k+1,t,xs=>match P.underlying t with
  |some .bool=>∃b,xs=[.bool b]
  |some (.int kd)=>∃n,xs=[.int kd n]∧(Lit.int kd n).wf=true
  |some (.float kd)=>∃n,xs=[.flt kd (flo kd n)]∧(Lit.float kd n).wf=true
  |some .string=>∃s,xs=[.str s]∧s.size≤maxLen
  |some (.slice e)=>∃els,xs=[.sl els]∧els.length≤maxLen∧∀x∈els,Typ P k e x
  |some (.struct fs)=>xx (Typ P k) fs.toList xs
  |some (.array n e)=>ud8 (Typ P k e) n xs
  |_=>False
def yI (P:Program) (ok:TypeId→Bool):Nat→List Field→Option Nat
 |o,[]=>some o
 |o,f::r=>if f.offset=o∧ok f.type=true then yI P ok (o+P.cellsOf f.type) r else none
def plain (P:Program):Nat→TypeId→Bool
 |0,_=>false
 |k+1,t=>match P.underlying t with
  |some .bool=>true
  |some (.int _)=>true
  |some (.float _)=>true
  |some .string=>true
  |some (.slice e)=>plain P k e&&P.cellsOf e != 0
  |some (.struct fs)=>yI P (plain P k) 0 fs.toList==some (P.cellsOf t)
  |some (.array n e)=>plain P k e&&n*P.cellsOf e==P.cellsOf t
  |_=>false
section
variable {H:Type} {enc:TypeId×Value→H} {P:Program} {w:World} {spare:Nat→Bool} {held:Bool}
def below (w:World) (b:Nat):Prop:=Cel w b
def Reads (w:World) (cs:List Value) (xs:List C):Prop:=xs.length=cs.length∧∀(i:Nat) (v:Value) (y:C),cs[i]? =some v→xs[i]? =some y→zm (below w) w v y
theorem Reads.one {v:Value} {y:C} (h:zm (below w) w v y):Reads w [v] [y]:=⟨rfl,fun i u z hu hz=>by
 cases i with
 |zero=>simp at hu hz;subst hu;subst hz;exact h
 |succ i=>simp at hu⟩
theorem Reads.app {cs ds:List Value} {xs ys:List C} (h:Reads w cs xs) (h':Reads w ds ys):Reads w (cs++ds) (xs++ys):=by
 refine⟨by simp [h.1,h'.1],fun i v y hv hy=> ?_⟩
 rw [List.getElem?_append]at hv hy
 rw [h.1]at hy
 split at hv
 ·rename_i hlt;rw [if_pos hlt]at hy;exact h.2 i v y hv hy
 ·rename_i hlt;rw [if_neg hlt]at hy;exact h'.2 _ v y hv hy
theorem jx {α β:Type} {f:α→Option β} {a:α} {l:List α} {r:List β} (h:(a::l).mapM f=some r):∃b bs,f a=some b∧l.mapM f=some bs∧r=b::bs:=by
 rw [List.mapM_cons]at h
 cases hf:f a with
 |none=>simp [hf]at h
 |some b=>
  cases hl:l.mapM f with
  |none=>simp [hf,hl]at h
  |some bs=>simp [hf,hl]at h;exact⟨b,bs,rfl,rfl,h.symm⟩
theorem gau {ok:TypeId→Bool}:∀{fs:List Field} {o e:Nat},yI P ok o fs=some e→o≤e
 |[],o,e,h=>by simp only [yI,Option.some.injEq]at h;omega
 |f::r,o,e,h=>by
  simp only [yI]at h
  split at h
  ·have:=gau h;omega
  ·cases h
theorem zaj {k fuel:Nat} {cs:List Value} (IH:∀(t:TypeId) (cs:List Value) (x:DataW H×List MemPlace),DataW.trod enc P w 0 spare held fuel t cs=some x→plain P k t=true→∃xs,Typ P k t xs∧Reads w cs xs):
 ∀(fs:List Field) (o:Nat) (ys:List (DataW H×List MemPlace)),yI P (plain P k) o fs=some cs.length→fs.mapM (fun f=>DataW.trod enc P w 0 spare held fuel f.type ((cs.drop f.offset).take (P.cellsOf f.type)))=some ys→
  ∃xs,xx (Typ P k) fs xs∧Reads w (cs.drop o) xs
 |[],o,ys,h,_=>by
  simp only [yI,Option.some.injEq]at h
  exact⟨[],rfl,by simp [Reads,h]⟩
 |f::r,o,ys,h,hm=>by
  simp only [yI]at h
  split at h
  ·rename_i hc
   obtain⟨hc1,hc2⟩:=hc
   have hle:=gau h
   obtain⟨b,bs,h1,h2,_⟩:=jx hm
   obtain⟨xs,h3,h4⟩:=IH _ _ _ h1 hc2
   obtain⟨zs,h5,h6⟩:=zaj IH r _ bs h h2
   refine⟨xs++zs,⟨xs,zs,rfl,h3,h5⟩, ?_⟩
   have e:cs.drop o=(cs.drop f.offset).take (P.cellsOf f.type)++cs.drop (o+P.cellsOf f.type):=by
    rw [hc1,←List.drop_drop,List.take_append_drop]
   rw [e]
   exact h4.app h6
  ·cases h
theorem jas {k fuel n sz:Nat} {e:TypeId} {cs:List Value} (IH:∀(t:TypeId) (cs:List Value) (x:DataW H×List MemPlace),DataW.trod enc P w 0 spare held fuel t cs=some x→plain P k t=true→∃xs,Typ P k t xs∧Reads w cs xs) (he:plain P k e=true):
 ∀(m j:Nat),j+m=n→n*sz=cs.length→(∀i,i<n→∃x,DataW.trod enc P w 0 spare held fuel e ((cs.drop (i*sz)).take sz)=some x)→∃xs,ud8 (Typ P k e) m xs∧Reads w (cs.drop (j*sz)) xs
 |0,j,hj,hn,_=>⟨[],rfl,by
  have:j=n:=by omega
  subst this
  simp [Reads,hn]⟩
 |m+1,j,hj,hn,hall=>by
  obtain⟨x,hx⟩:=hall j (by omega)
  obtain⟨xs,h3,h4⟩:=IH _ _ _ hx he
  obtain⟨zs,h5,h6⟩:=jas IH he m (j+1) (by omega) hn hall
  refine⟨xs++zs,⟨xs,zs,rfl,h3,h5⟩, ?_⟩
  have e:cs.drop (j*sz)=(cs.drop (j*sz)).take sz++cs.drop ((j+1)*sz):=by
   rw [Nat.add_mul,Nat.one_mul,←List.drop_drop,List.take_append_drop]
  rw [e]
  exact h4.app h6
theorem ux {β:Type} {f:Nat→Option β} {n:Nat} {r:List β} (h:(List.range n).mapM f=some r) (i:Nat) (hi:i<n):∃y,f i=some y∧r[i]? =some y:=by
 have key:∀(l:List Nat) (r:List β),l.mapM f=some r→∀(i x:Nat),l[i]? =some x→∃y,f x=some y∧r[i]? =some y:=by
  intro l
  induction l with
  |nil=>intro r _ i x hx;simp at hx
  |cons a l ih=>
   intro r hr i x hx
   obtain⟨b,bs,h1,h2,rfl⟩:=jx hr
   cases i with
   |zero=>simp at hx;subst hx;exact⟨b,h1,rfl⟩
   |succ i=>exact ih bs h2 i x (by simpa using hx)
 exact key _ _ h i i (by simp [hi])
theorem qbg {α β:Type} {f:α→Option β}:∀{l:List α} {r:List β},l.mapM f=some r→r.length=l.length
 |[],r,h=>by simp at h;simp [h]
 |a::l,r,h=>by
  obtain⟨b,bs,_,h2,rfl⟩:=jx h
  simp [qbg h2]
theorem waX:∀(fuel k:Nat) (t:TypeId) (cs:List Value) (x:DataW H×List MemPlace),DataW.trod enc P w 0 spare held fuel t cs=some x→plain P k t=true→∃xs,Typ P k t xs∧Reads w cs xs
 |0,k,t,cs,x,h,_=>by simp [DataW.trod]at h
 |fuel+1,0,t,cs,x,h,hp=>by cases hp
 |fuel+1,k+1,t,cs,x,h,hp=>by
  have IH:=fun t cs x=>waX fuel k t cs x
  simp only [plain]at hp
  simp only [Typ]
  unfold DataW.trod at h
  split at h
  ·rename_i b hu;rw [hu];exact⟨[.bool b],⟨b,rfl⟩, .one (.bool b)⟩
  ·rename_i kd k' n hu
   rw [hu]
   split at h
   ·rename_i hc;obtain⟨rfl,hc⟩:=hc
    exact⟨[.int _ n],⟨n,rfl,hc⟩, .one (.int _ n)⟩
   ·cases h
  ·rename_i kd k' n hu
   rw [hu]
   split at h
   ·rename_i hc;obtain⟨rfl,hc⟩:=hc
    exact⟨[.flt _ (flo _ n)],⟨n,rfl,hc⟩, .one (.flt _ n)⟩
   ·cases h
  ·rename_i s hu
   rw [hu]
   split at h
   ·rename_i hc
    exact⟨[.str s],⟨s,rfl,hc⟩, .one (.str s)⟩
   ·cases h
  ·rename_i hu;rw [hu]at hp;cases hp
  ·rename_i hu;rw [hu]at hp;cases hp
  ·rename_i e hu
   rw [hu]
   exact⟨[.sl []],⟨[],rfl,by simp,by simp⟩, .one (.slnil _ _ (by simp [maxLen]))⟩
  ·rename_i e a len cap hu
   rw [hu]at hp⊢
   simp only [Bool.and_eq_true,bne_iff_ne,ne_eq]at hp
   obtain⟨hp1,hp2⟩:=hp
   split at h
   ·rename_i hc
    obtain⟨_,hlc,hcm⟩:=hc
    cases hm:(List.range len).mapM (fun i=>(w.cells? 0 (a.add (i*P.cellsOf e)) (P.cellsOf e)).bind (DataW.trod enc P w 0 spare held fuel e))with
    |none=>dsimp only at h;rw [hm]at h;cases h
    |some elems=>
     have hel:∀i,i<len→∃ci xi,w.cells? 0 (a.add (i*P.cellsOf e)) (P.cellsOf e)=some ci∧Typ P k e xi∧Reads w ci xi:=by
      intro i hi
      obtain⟨y,h1,_⟩:=ux hm i hi
      cases hcs:w.cells? 0 (a.add (i*P.cellsOf e)) (P.cellsOf e)with
      |none=>rw [hcs]at h1;cases h1
      |some ci=>
       rw [hcs]at h1
       obtain⟨xi,h2,h3⟩:=IH e ci y h1 hp1
       exact⟨ci,xi,rfl,h2,h3⟩
     have hch:∃(cf:Nat→List Value) (xf:Nat→List C),∀i,i<len→w.cells? 0 (a.add (i*P.cellsOf e)) (P.cellsOf e)=some (cf i)∧Typ P k e (xf i)∧Reads w (cf i) (xf i):=by
      refine⟨fun i=>if h:i<len then(hel i h).choose else [],fun i=>if h:i<len then(hel i h).choose_spec.choose else [],fun i hi=> ?_⟩
      simp only [dif_pos hi]
      exact(hel i hi).choose_spec.choose_spec
     obtain⟨cf,xf,hf⟩:=hch
     have hlen:∀i,i<len→(cf i).length=P.cellsOf e∧∀j,j<P.cellsOf e→w.cell? ((a.add (i*P.cellsOf e)).add j)=(cf i)[j]? :=by
      intro i hi
      have h1:=(hf i hi).1
      unfold World.cells? at h1
      rw [if_pos (Nat.zero_le _)]at h1
      refine⟨by have:=qbg h1;simpa using this,fun j hj=> ?_⟩
      obtain⟨y,h2,h3⟩:=ux h1 j hj
      rw [h2,h3]
     refine⟨[.sl ((List.range len).map xf)],⟨_,rfl,by simp;omega,fun x hx=> ?_⟩, .one ?_⟩
     ·obtain⟨i,hi,rfl⟩:=List.mem_map.1 hx
      exact(hf i (by simpa using hi)).2.1
     ·by_cases h0:len=0
      ·subst h0;exact .slnil _ _ hcm
      ·have h00:=(hlen 0 (by omega))
       have hpos:0<P.cellsOf e:=by omega
       have hc0:=h00.2 0 hpos
       have hs:∃v,w.cell? a=some v:=by
        have:(cf 0)[0]? =some ((cf 0)[0]'(by omega)):=List.getElem?_eq_getElem _
        rw [this]at hc0
        simp only [Nat.zero_mul,Addr.add,Nat.add_zero]at hc0
        exact⟨_,hc0⟩
       obtain⟨v0,hv0⟩:=hs
       have hspot:a.spot=none∧Cel w a.block:=by
        unfold World.cell? at hv0
        split at hv0
        ·rename_i c _ _ hb
         split at hv0
         ·cases hv0
         ·rename_i hsp
          exact⟨by simpa using hsp, .of hb⟩
        ·cases hv0
       obtain⟨ab,ao,asp⟩:=a
       simp only at hspot
       obtain⟨rfl,hb⟩:=hspot
       have he:len=((List.range len).map xf).length:=by simp
       have hget:∀(i:Nat) (x:List C),((List.range len).map xf)[i]? =some x→i<len∧x=xf i:=fun i x hx=>by
        simp only [List.getElem?_map,Option.map_eq_some_iff]at hx
        obtain⟨j,hj,rfl⟩:=hx
        have:=List.getElem?_eq_some_iff.1 hj
        obtain⟨h1,h2⟩:=this
        simp at h1 h2
        subst h2
        exact⟨h1,rfl⟩
       conv=>arg 3;rw [he]
       refine .sl ab ao cap (P.cellsOf e) _ (fun i j=>(cf i).getD j .nilFunc) hb (by simpa using hlc) hcm (fun x hx=> ?_) (fun i j x y hx hy=> ?_) (fun i j x y hx hy=> ?_)
       ·obtain⟨i,hi,rfl⟩:=List.mem_map.1 hx
        have hi:i<len:=by simpa using hi
        rw [(hf i hi).2.2.1,(hlen i hi).1]
       ·obtain⟨hi,rfl⟩:=hget i x hx
        have hj:j<(cf i).length:=by
         rw [←(hf i hi).2.2.1]
         exact(List.getElem?_eq_some_iff.1 hy).1
        have h1:=(hlen i hi).2 j (by rw [←(hlen i hi).1];exact hj)
        rw [ug,ug]at h1
        rw [h1,List.getD_eq_getElem?_getD,List.getElem?_eq_getElem hj]
        rfl
       ·obtain⟨hi,rfl⟩:=hget i x hx
        have hj:j<(cf i).length:=by
         rw [←(hf i hi).2.2.1]
         exact(List.getElem?_eq_some_iff.1 hy).1
        refine(hf i hi).2.2.2 j _ y ?_ hy
        rw [List.getD_eq_getElem?_getD,List.getElem?_eq_getElem hj]
        rfl
   ·cases h
  ·rename_i cs0 _ _ fs hu
   rw [hu]at hp⊢
   split at h
   ·rename_i hc
    simp only [beq_iff_eq]at hp
    rw [←hc]at hp
    cases hm:fs.toList.mapM (fun f=>DataW.trod enc P w 0 spare held fuel f.type ((cs0.drop f.offset).take (P.cellsOf f.type)))with
    |none=>rw [hm]at h;simp at h
    |some ys=>
     obtain⟨xs,h1,h2⟩:=zaj IH fs.toList 0 ys hp hm
     exact⟨xs,h1,by simpa using h2⟩
   ·cases h
  ·rename_i cs0 _ _ n e hu
   rw [hu]at hp⊢
   simp only [Bool.and_eq_true,beq_iff_eq]at hp
   split at h
   ·rename_i hc
    cases hm:(List.range n).mapM (fun i=>DataW.trod enc P w 0 spare held fuel e ((cs0.drop (i*P.cellsOf e)).take (P.cellsOf e)))with
    |none=>rw [hm]at h;simp at h
    |some ys=>
     obtain⟨xs,h1,h2⟩:=jas (n:=n) (sz:=P.cellsOf e) (cs:=cs0) IH hp.1 n 0 (by omega) (by rw [hp.2,hc]) (fun i hi=>by
      obtain⟨y,h3,_⟩:=ux hm i hi
      exact⟨y,h3⟩)
     exact⟨xs,h1,by simpa using h2⟩
   ·cases h
  all_goals (rename_i hu;first|(rw [hu]at hp;cases hp;done)|(cases h;done)|skip)
def qfe:List C→D
 |[x]=> .c x
 |_=> .undef
def ge4 (P:Program) (t:TypeId) (xs:List C):D:=match P.underlying t with
 |some (.struct _)=> .agg (xs.map .c)
 |some (.array _ _)=> .agg (xs.map .c)
 |_=>qfe xs
theorem Reads.agg {cs:Array Value} {xs:List C} (h:Reads w cs.toList xs):ua (G0 (below w)) w (.agg cs) (.agg (xs.map .c)):=by
 refine .agg cs _ (by simpa using h.1.symm) fun i v d hv hd=> ?_
 simp only [List.getElem?_map,Option.map_eq_some_iff]at hd
 obtain⟨y,hy,rfl⟩:=hd
 exact .c _ _ (h.2 i v y (by simpa using hv) hy)
theorem qL {r:Reach} {base k:Nat} {t:TypeId} {v:Value} {d:DataW H} {ps:List MemPlace} (hv:Value.okWide P w r base t v) (h:DataW.Trod enc P w 0 spare held t v d ps) (hp:plain P k t=true):
 ∃xs,Typ P k t xs∧ua (G0 (below w)) w v (ge4 P t xs):=by
 obtain⟨fuel,h⟩:=h
 obtain⟨xs,h1,h2⟩:=waX fuel k t _ _ h hp
 refine⟨xs,h1, ?_⟩
 have one:∀(hc:v.cells= #[v]),ua (G0 (below w)) w v (qfe xs):=by
  intro hc
  rw [hc]at h2
  match xs,h2 with
  |[],_=>exact .undef _
  |[x],h2=>exact .c _ _ (h2.2 0 v x rfl rfl)
  |_::_::_,_=>exact .undef _
 unfold ge4
 unfold Value.okWide at hv
 split
 ·rename_i fs hu
  rw [hu]at hv
  obtain⟨cs,rfl,_⟩:=hv
  exact h2.agg
 ·rename_i n e hu
  rw [hu]at hv
  obtain⟨cs,rfl,_⟩:=hv
  exact h2.agg
 ·rename_i hn1 hn2
  refine one ?_
  cases v<;>try rfl
  rename_i cs
  exfalso
  cases k with
  |zero=>cases hp
  |succ k=>
   simp only [plain]at hp
   split at hv
   ·rename_i fs hu;exact hn1 fs hu
   ·rename_i n e hu;exact hn2 n e hu
   ·unfold Cell.okWide at hv
    split at hp<;>rename_i hu<;>first|(rw [hu]at hv;simp [Cell.ok,hu]at hv;done)|(exact absurd hu (hn1 _))|(exact absurd hu (hn2 _ _))|cases hp
theorem wbZ (w w':World) (h:Ext w w'):RowKit.Below w.heap.size w w':=⟨h.2.2.os,h.2.2.tape,h.2.2.out,h.1,h.2.1⟩
end
end Dm
namespace Dm
open Go
section
variable {P:Program} {n N:Nat}
theorem wcm {id k c sz t:Nat}:∀{tm:List (Nat×D)},lk t (tm.map fun x=>(x.1,bb8 id k c sz x.2))=(lk t tm).map (bb8 id k c sz)
 |[]=>rfl
 |(u,d)::tm=>by
  rw [List.map_cons,zb,zb]
  split
  ·rfl
  ·exact wcm
theorem SWm.opn {code:Code} {Q:Exit→St→Prop} {s:St} (id:Nat) {hd:Bool} {sz:Nat} {e:TypeId} {els:List (List C)} (ho:lk id s.os=some (.vec hd sz e els))
 (h:∀c,els.length≤c→c≤9223372036854775807→SWm P n N code Q ⟨s.tm.map fun x=>(x.1,bb8 id els.length c sz x.2),upd id (.vec hd sz e (fit c sz els)) s.os,s.nx⟩):SWm P n N code Q s:=fun δ g a w hr hn=>by
 obtain⟨c,g',h1,h2,h3,h4,h5⟩:=qbL (nx:=s.nx) hr.o.tm ho
 have hr':Rel δ g' ⟨s.tm.map fun x=>(x.1,bb8 id els.length c sz x.2),upd id (.vec hd sz e (fit c sz els)) s.os,s.nx⟩ a w:=by
  refine⟨fun t d ht=> ?_,hr.defers,h3.tm⟩
  rw [wcm,Option.map_eq_some_iff]at ht
  obtain⟨d0,hd0,rfl⟩:=ht
  obtain⟨v,hv1,hv2⟩:=hr.tm t d0 hd0
  exact⟨v,hv1,h5 v d0 hv2⟩
 have h4':kg N g s w g' ⟨s.tm.map fun x=>(x.1,bb8 id els.length c sz x.2),upd id (.vec hd sz e (fit c sz els)) s.os,s.nx⟩ w:=(h4.toN (N:=N)).tm
 refine wp_mono (h c h1 h2 δ g' a w hr' hn) fun e a' w' ⟨Ds,g2,s',q1,q2,q3,q4,q5,q6⟩=>⟨Ds,g2,s',q1,q2,q3,q4,q5,h4'.trans q6⟩
end
end Dm
namespace Dm
open Go
section
variable {P:Program} {T:Tab} {n N:Nat} {s:St}
def slD:D→D
 | .nil=> .c (.sl [])
 |d=>d
theorem ydu (d:D):slD d=d∨d= .nil:=by cases d<;>simp [slD]
theorem bcK {g:G} {w:World} {v:Value} {d:D} (h:ua g w v d):ua g w v (slD d):=by
 rcases ydu d with e|e
 ·rw [e];exact h
 ·subst e
  cases h
  exact .c _ _ (.slnil _ _ (by decide))
theorem Rel.qcJ {δ:List Deferred} {g:G} {a:Act} {w:World} (hr:Rel δ g s a w) (id:Nat) {cs cs':List D} (h0:lk id s.os=some (.box cs)) (hlen:cs'.length=cs.length)
 (hv:∀(i:Nat) (v:Value) (d0 d:D),cs[i]? =some d0→cs'[i]? =some d→ua g w v d0→ua g w v d):
 Rel δ g ⟨s.tm,(id, .box cs')::s.os,s.nx⟩ a w∧∀b,Own g ⟨s.tm,(id, .box cs')::s.os,s.nx⟩ b↔Own g s b:=by
 have hl:∀{j:Nat} {o:Ob},lk j ((id, .box cs')::s.os)=some o→∃o',lk j s.os=some o'∧g.blk j o=g.blk j o'∧(OK g w j o'→OK g w j o):=fun{j o} hj=>by
  rw [zb]at hj
  split at hj
  ·rename_i e
   cases hj
   refine⟨.box cs,by rw [e];exact h0,rfl, ?_⟩
   rintro⟨b,e,cells,h1,h2,h3,h4⟩
   refine⟨b,e,cells,h1,h2,by rw [hlen];exact h3,fun i v d hi hd=> ?_⟩
   have hlt:i<cs.length:=by
    rw [←hlen]
    exact(List.getElem?_eq_some_iff.1 hd).1
   exact hv i v _ d (List.getElem?_eq_getElem hlt) hd (h4 i v _ hi (List.getElem?_eq_getElem hlt))
  ·exact⟨o,hj,rfl,fun h=>h⟩
 have hb:∀{j:Nat} {o:Ob},lk j s.os=some o→∃o',lk j ((id, .box cs')::s.os)=some o'∧g.blk j o'=g.blk j o:=fun{j o} hj=>by
  by_cases e:j=id
  ·subst e
   rw [h0]at hj;cases hj
   exact⟨.box cs',by rw [zb,if_pos rfl],rfl⟩
  ·exact⟨o,by rw [zb,if_neg e];exact hj,rfl⟩
 have hown:∀b,Own g ⟨s.tm,(id, .box cs')::s.os,s.nx⟩ b↔Own g s b:=fun b=>by
  constructor
  ·rintro⟨j,o,h1,h2⟩
   obtain⟨o',h3,h4,_⟩:=hl h1
   exact⟨j,o',h3,by rw [←h4];exact h2⟩
  ·rintro⟨j,o,h1,h2⟩
   obtain⟨o',h3,h4⟩:=hb h1
   exact⟨j,o',h3,by rw [h4];exact h2⟩
 refine⟨⟨hr.tm,hr.defers,⟨fun j o hj=> ?_,fun j o j' o' b h1 h2 h3 h4=> ?_,hr.o.fresh,fun b hI=>⟨(hr.o.imm b hI).1,fun ho=>(hr.o.imm b hI).2 ((hown b).1 ho)⟩,hr.o.cel⟩⟩,hown⟩
 ·obtain⟨o',h1,_,h3⟩:=hl hj
  exact h3 (hr.o.ok j o' h1)
 ·obtain⟨p,k1,k2,_⟩:=hl h1
  obtain⟨p',k3,k4,_⟩:=hl h2
  exact hr.o.apart j p j' p' b k1 k3 (by rw [←k2];exact h3) (by rw [←k4];exact h4)
theorem kg.zcF {N:Nat} {g g':G} {s1 s2 s':St} {w w':World} (h4:kg N g s1 w g' s' w') (hown:∀b,Own g s1 b↔Own g s2 b):kg N g s2 w g' s' w':=
 ⟨h4.ρ,h4.κ,h4.I,h4.size,fun b hb ho=>h4.same b hb fun h=>ho ((hown b).1 h),fun b hb ho=>h4.own b hb fun h=>ho ((hown b).1 h),fun b hb ho=>h4.imm b hb fun h=>ho ((hown b).1 h),h4.env⟩
theorem SWp.xdq {c:Code} {Q:Exit→St→Prop} (id:Nat) {cs:List D} (h0:lk id s.os=some (.box cs)) (h:SWp P n N c Q ⟨s.tm,(id, .box (cs.map slD))::s.os,s.nx⟩):SWp P n N c Q s:=by
 intro δ g a w hr hn
 obtain⟨hr2,hown⟩:=hr.qcJ id h0 (cs':=cs.map slD) (by simp) fun i v d0 d h1 h2 h3=>by
  rw [List.getElem?_map,h1]at h2
  cases h2
  exact bcK h3
 exact wp_mono (h δ g a w hr2 hn) fun e a' w' ⟨g2,s2,h1,h2,h3,h4⟩=>⟨g2,s2,h1,h2,h3,h4.zcF hown⟩
theorem SWp.gcD {c:Code} {Q:Exit→St→Prop} (id i z:Nat) (e:TypeId) {cs:List D} (h0:lk id s.os=some (.box cs)) (hi:cs[i]? =some .nil) (hN:N≤s.nx)
 (h:SWp P n N c Q ⟨s.tm,(id, .box (cs.set i (.vec s.nx 0)))::(s.nx, .vec true z e [])::s.os,s.nx+1⟩):SWp P n N c Q s:=by
 intro δ g a w hr hn
 obtain⟨h1,h2⟩:=wO hr w (Nat.le_refl _) (fun _ _=>rfl) (sz:=z) (e:=e) (els:=[]) (a0:=none) (cap:=0) (Nat.le_refl _) (by simp) (by simp) (.inl ⟨rfl,rfl⟩) none (fun x hx=>by cases hx)
 have hne:id≠s.nx:=fun e=>by
  obtain⟨b,_,_,hb,_⟩:=hr.o.ok id _ h0
  rw [e,(hr.o.fresh s.nx (Nat.le_refl _)).1]at hb
  cases hb
 obtain⟨hr2,hown⟩:=h1.qcJ id (cs:=cs) (cs':=cs.set i (.vec s.nx 0)) (by show lk id ((s.nx,Ob.vec true z e [])::s.os)=_;rw [zb,if_neg hne];exact h0) (by simp) fun j v d0 d h3 h4 h5=>by
  rw [List.getElem?_set]at h4
  split at h4
  ·rename_i e
   subst e
   split at h4
   ·cases h4
    rw [hi]at h3;cases h3
    cases h5
    exact .vec none 0 _ _ none 0 0 (by simp [G.vec]) (Nat.le_refl _) (Nat.zero_le _) (.inl rfl) fun _=>⟨rfl,rfl⟩
   ·cases h4
  ·rw [h3]at h4;cases h4;exact h5
 exact wp_mono (h δ _ a w hr2 hn) fun e a' w' ⟨g2,s2,k1,k2,k3,k4⟩=>⟨g2,s2,k1,k2,k3,h2.toN.trans (k4.zcF hown)⟩
theorem SWp.ufr {c:Code} {Q:Exit→St→Prop} (id i:Nat) {cs:List D} {j k:Nat} {hd:Bool} {z:Nat} {e:TypeId} {els:List (List C)} (h0:lk id s.os=some (.box cs)) (hi:cs[i]? =some (.vec j k)) (h2:lk j s.os=some (.vec hd z e els)) (hk:k=els.length)
 (h:SWp P n N c Q ⟨s.tm,(id, .box (cs.set i (.c (.sl els))))::rmv s.os [j],s.nx⟩):SWp P n N c Q s:=by
 subst hk
 intro δ g a w hr hn
 obtain⟨h1,hst⟩:=hr.o.jb4 [j]
 have hr1:Rel δ _ ⟨s.tm,rmv s.os [j],s.nx⟩ a w:=⟨fun t d ht=>by
  obtain⟨v,h3,h4⟩:=hr.tm t d ht
  exact⟨v,h3,hst.vch hr.o h4⟩,hr.defers,h1.tm⟩
 have hne:id≠j:=fun e=>by rw [e,h2]at h0;cases h0
 obtain⟨hr2,hown⟩:=hr1.qcJ id (cs:=cs) (cs':=cs.set i (.c (.sl els))) (by show lk id (rmv s.os [j])=_;rw [xau,if_neg (by simpa using hne)];exact h0) (by simp) fun q v d0 d h3 h4 h5=>by
  rw [List.getElem?_set]at h4
  split at h4
  ·rename_i e
   subst e
   split at h4
   ·cases h4
    rw [hi]at h3;cases h3
    refine wbl hr.o h2 ?_
    cases h5 with
    |vec a' cap' _ _ a0 len cap hkk hlen hm ha hvq=>exact .vec a' cap' _ _ a0 len cap hkk hlen hm ha hvq
   ·cases h4
  ·rw [h3]at h4;cases h4;exact h5
 exact wp_mono (h δ _ a w hr2 hn) fun e a' w' ⟨g2,s2,k1,k2,k3,k4⟩=>⟨g2,s2,k1,k2,k3,(hst.tm (tm:=s.tm) (tm':=s.tm)).toN.trans (k4.zcF hown)⟩
end
end Dm
namespace Dm
open Go
section
variable {δ:List Deferred} {P:Program} {T:Tab} {g g':G} {s s' r e:St} {a:Act} {w:World} {n N:Nat} {F F':Nat→Prop} {all:Array Oper}
theorem u9 {k:Nat} (hk:k<all.size) (hanc:∀j,j<k→Anc all j k) (hch:∀t,k<t→t<all.size→∃o ed,all[t]? =some o∧ed∈o.after∧Region.binds .any ed=true∧ed.on=t - 1) (hT:zbA P T) (hd:all.toList.all (xl n)=true) (hE:∀(i:Nat) o,all[i]? =some o→∀ed∈o.after,Region.binds .any ed=true→ed.on<i) {Q:Exit→Act→World→Prop}:∀(fuel:Nat) (listed:Array Bool) (l:List Ent) (g:G) (s:St) (a:Act) (w:World),
 l.length=fuel→listed.size=all.size→Down all listed→(∀i,i<k→(listed.getD i true=false↔∃x∈l,x.i=i))→(∀i,k≤i→i<all.size→listed.getD i true=false)→(∀x∈l,x.i<k∧all[x.i]? =some x.o)→l.Pairwise (Two all)→(∀x∈l,x.r.nx≤e.nx∧x.B≤x.r.nx)→
 Tr P T all l s e→bab (jdB l e) δ g s a w→a.tmps.size=n→(∀g' (listed':Array Bool) a' w',listed'.size=all.size→(∀i,i<all.size→listed'.getD i true=decide (i<k))→bab (fun id=>e.nx≤id) δ g' e a' w'→a'.tmps.size=n→Step g s w g' e w'→wpAny P .any all Q (all.size - k) listed' a' w')→
 wpAny P .any all Q (fuel+(all.size - k)) listed a w
 |0,listed,l,g,s,a,w,hl,hsz,hdn,hli,hlk,ho,hp,hnx,htr,hr,hn,hQ=>by
  have:l=[]:=List.eq_nil_of_length_eq_zero hl
  subst this
  rw [Nat.zero_add]
  refine hQ g listed a w hsz (fun i hi=> ?_) ((hr.eqv htr).less fun id hid=> .inr hid) hn (Step.eqv htr.2)
  by_cases hik:i<k
  ·have:listed.getD i true≠false:=fun h=>by
    obtain⟨x,hx,_⟩:=(hli i hik).1 h
    cases hx
   rw [decide_eq_true hik]
   simpa using this
  ·rw [decide_eq_false hik];exact hlk i (by omega) hi
 |fuel+1,listed,l,g,s,a,w,hl,hsz,hdn,hli,hlk,ho0,hp,hnx,htr,hr,hn,hQ=>by
  have ho:∀x∈l,all[x.i]? =some x.o:=fun x hx=>(ho0 x hx).2
  have hlk':∀x∈l,x.i<k:=fun x hx=>(ho0 x hx).1
  have hlt:∀x∈l,x.i<all.size:=fun x hx=>(Array.getElem?_eq_some_iff.1 (ho x hx)).1
  rw [show fuel+1+(all.size - k)=fuel+(all.size - k)+1 by omega]
  refine⟨fun h0=> ?_,fun i hi=> ?_⟩
  ·
   cases l with
   |nil=>simp at hl
   |cons y l=>
    exfalso
    have hy:=ho y (by simp)
    have hyl:=hlt y (by simp)
    have:y.i∈Region.ready .any all listed:=by
     rw [Region.ready,List.mem_filter]
     refine⟨List.mem_range.2 hyl, ?_⟩
     have h1:listed.getD y.i true=false:=(hli y.i (hlk' y (by simp))).2 ⟨y,by simp,rfl⟩
     rw [h1,hy]
     simp only [Bool.not_false,Option.map_some,Option.getD_some,Bool.true_and,Array.all_eq_true_iff_forall_mem]
     intro ed hed
     by_cases hb:Region.binds .any ed=true
     ·have h2:=hE y.i y.o hy ed hed hb
      have h3:listed.getD ed.on true≠false:=fun h=>by
       obtain⟨z,hz,hzi⟩:=(hli ed.on (by have:=hlk' y (by simp);omega)).1 h
       rcases List.mem_cons.1 hz with rfl|hz
       ·omega
       ·have:=(List.rel_of_pairwise_cons hp hz).1
        omega
      have h4:ed.on<listed.size:=by omega
      have h5:listed.getD ed.on true=true:=by simpa using h3
      have h6:listed.getD ed.on false=true:=by
       simp only [Array.getD,h4,dif_pos]at h5⊢
       exact h5
      simp [hb,h6]
     ·simp [hb]
    rw [h0]at this
    cases this
  ·rw [Region.ready,List.mem_filter]at hi
   obtain⟨hi1,hi2⟩:=hi
   have hi1':=List.mem_range.1 hi1
   simp only [Bool.and_eq_true,Bool.not_eq_true']at hi2
   obtain⟨hi3,hi4⟩:=hi2
   have hik:i<k:=by
    rcases Nat.lt_or_ge i k with h|h
    ·exact h
    exfalso
    have hgo:∀o ed,all[i]? =some o→ed∈o.after→Region.binds .any ed=true→listed.getD ed.on false=true:=fun o ed ho' hed hb=>by
     rw [ho']at hi4
     simp only [Option.map_some,Option.getD_some,Array.all_eq_true_iff_forall_mem]at hi4
     have:=hi4 ed hed
     rw [hb]at this
     simpa using this
    rcases Nat.eq_or_lt_of_le h with h5|h5
    ·subst h5
     cases l with
     |nil=>simp at hl
     |cons y l=>
      have h6:=hanc y.i (hlk' y (by simp))
      have h7:listed.getD y.i false=true:=by
       obtain⟨o,ed,ho',he',hb,h⟩:=h6.inv
       rcases h with h|h
       ·rw [←h];exact hgo _ _ ho' he' hb
       ·exact h.listed hdn (hgo _ _ ho' he' hb)
      have h8:listed.getD y.i true=false:=(hli y.i (hlk' y (by simp))).2 ⟨y,by simp,rfl⟩
      have h9:y.i<listed.size:=by rw [hsz];exact hlt y (by simp)
      simp only [Array.getD,h9,dif_pos]at h7 h8
      rw [h7]at h8
      cases h8
    ·obtain⟨o,ed,ho',hed,hb,hon⟩:=hch i h5 hi1'
     have h6:=hgo o ed ho' hed hb
     rw [hon]at h6
     have h8:=hlk (i - 1) (by omega) (by omega)
     have h9:i - 1<listed.size:=by omega
     simp only [Array.getD,h9,dif_pos]at h6 h8
     rw [h6]at h8
     cases h8
   obtain⟨x,hx,rfl⟩:=(hli i hik).1 hi3
   have hxo:=ho x hx
   rw [hxo]at hi4
   simp only [Option.map_some,Option.getD_some,Array.all_eq_true_iff_forall_mem]at hi4
   obtain⟨pre,post,rfl⟩:=List.append_of_mem hx
   have hpp:=List.pairwise_append.1 hp
   have hind:∀y∈pre,Ind all y x∨(cmB all y.o x.o=true∧y.r.nx=y.B):=fun y hy=>by
    obtain⟨h1,_,_,h2⟩:=hpp.2.2 y hy x (by simp)
    refine h2.resolve_left fun he=> ?_
    have hgo:∀ed∈x.o.after,Region.binds .any ed=true→listed.getD ed.on false=true:=fun ed hed hb=>by
     have:=hi4 ed hed
     rw [hb]at this
     simpa using this
    have h5:listed.getD y.i false=true:=by
     obtain⟨o,ed,ho',he',hb,h⟩:=he.inv
     rw [hxo]at ho';cases ho'
     rcases h with h|h
     ·rw [←h];exact hgo _ he' hb
     ·exact h.listed hdn (hgo _ he' hb)
    have h6:listed.getD y.i true=false:=(hli y.i (hlk' y (by simp [hy]))).2 ⟨y,by simp [hy],rfl⟩
    have h7:y.i<listed.size:=by rw [hsz];exact hlt y (by simp [hy])
    simp only [Array.getD,h7,dif_pos]at h5 h6
    rw [h5]at h6
    cases h6
   obtain⟨hgx,pre',hsim,htr'⟩:=Tr.front (fun y hy=>(hind y hy).imp_right (·.1)) htr
   have hn1:∀y∈pre,∀id∈x.T,¬(y.B≤id∧id<y.r.nx):=fun y hy id hid=>by
    rcases hind y hy with h|h
    ·exact h.n1 id hid
    ·omega
   have hsim2:(pre'++post).map Ent.sh=(pre++post).map Ent.sh:=by rw [List.map_append,List.map_append,hsim]
   have hback:∀y'∈pre'++post,∃y∈pre++post,y'.sh=y.sh:=fun y' hy'=>zaC hsim2 hy'
   have hpost:∀y∈post,x.r.nx≤y.B:=fun y hy=>(List.rel_of_pairwise_cons hpp.2.1 hy).2.1
   have hpre:∀y∈pre,y.r.nx≤x.B:=fun y hy=>(hpp.2.2 y hy x (by simp)).2.1
   have hxnx:=hnx x (by simp)
   have hlow:=hgx.facts.2.2
   unfold wpOp
   rw [hxo]
   refine vaJ (F':=jdB (pre'++post) e) hT hgx (List.all_eq_true.1 hd x.o (by simpa using Array.mem_of_getElem? hxo)) hr hn (fun id h1 h2=> .inl ⟨x,by simp,h1,h2⟩) (fun id hid=> ?_) fun g' a' w' hr' hn' hst=> ?_
   ·rcases hid with⟨y',hy',h1,h2⟩|h1
    ·obtain⟨y,hy,hyy⟩:=hback y' hy'
     obtain⟨_,_,_,_,a5,a6⟩:=yU hyy
     rw [a5]at h1
     rw [a6]at h2
     rcases List.mem_append.1 hy with hy|hy
     ·have h3:=hpre y hy
      exact⟨.inl ⟨y,by simp [hy],h1,h2⟩, .inl (by omega),fun hm=>hn1 y hy id hm ⟨h1,h2⟩⟩
     ·have h3:=hpost y hy
      exact⟨.inl ⟨y,by simp [hy],h1,h2⟩, .inr (by omega),fun hm=>by have:=hlow id hm;omega⟩
    ·exact⟨.inr h1, .inr (by omega),fun hm=>by have:=hlow id hm;omega⟩
   ·have hlen':pre'.length=pre.length:=by simpa using congrArg List.length hsim
    refine u9 hk hanc hch hT hd hE fuel _ (pre'++post) g' _ a' w' (by simp at hl⊢;omega) (by simpa using hsz) ?_ (fun i hi=> ?_) (fun i h1 h2=>by rw [getD_set_ne true (by omega)];exact hlk i h1 h2) (fun y' hy'=> ?_) ?_ (fun y' hy'=> ?_) htr' hr' hn'
     (fun g'' l'' a'' w'' h0 h0' h1 h2 h3=>hQ g'' l'' a'' w'' h0 h0' h1 h2 (hst.trans h3))
    ·intro i o hi ho' ed hed hb
     have hset:∀k:Nat,listed.getD k false=true→(listed.setIfInBounds x.i true).getD k false=true:=fun k hk=>by
      by_cases hkx:k=x.i
      ·subst hkx
       simp [Array.getD,hsz,hi1']
      ·rw [getD_set_ne false (fun h=>hkx h.symm)];exact hk
     refine hset _ ?_
     by_cases hix:i=x.i
     ·subst hix
      rw [hxo]at ho';cases ho'
      have:=hi4 ed hed
      rw [hb]at this
      simpa using this
     ·rw [getD_set_ne false (fun h=>hix h.symm)]at hi
      exact hdn i o hi ho' ed hed hb
    ·have hne:∀y∈pre++post,y.i≠x.i:=fun y hy=>by
      rcases List.mem_append.1 hy with hy|hy
      ·have:=(hpp.2.2 y hy x (by simp)).1;omega
      ·have:=(List.rel_of_pairwise_cons hpp.2.1 hy).1;omega
     by_cases hix:i=x.i
     ·subst hix
      have h7:x.i<listed.size:=by omega
      constructor
      ·intro h
       simp [Array.getD,h7]at h
      ·rintro⟨y',hy',hyi⟩
       obtain⟨y,hy,hyy⟩:=hback y' hy'
       exact absurd ((yU hyy).1.symm.trans hyi) (hne y hy)
     ·have:(listed.setIfInBounds x.i true).getD i true=listed.getD i true:=by
       have hix':x.i≠i:=fun h=>hix h.symm
       simp only [Array.getD,Array.size_setIfInBounds]
       split
       ·simp only [Array.getInternal_eq_getElem]
        exact Array.getElem_setIfInBounds_ne _ hix'
       ·rfl
      rw [this,hli i hi]
      constructor
      ·rintro⟨y,hy,hyi⟩
       have hy2:y∈pre++post:=by
        simp at hy⊢
        rcases hy with h|h|h
        ·exact .inl h
        ·subst h;exact absurd hyi.symm hix
        ·exact .inr h
       obtain⟨y',hy',hyy⟩:=zaC hsim2.symm hy2
       exact⟨y',hy',(yU hyy).1.symm.trans hyi⟩
      ·rintro⟨y',hy',hyi⟩
       obtain⟨y,hy,hyy⟩:=hback y' hy'
       exact⟨y,by simp at hy⊢;rcases hy with h|h<;>simp [h],(yU hyy).1.symm.trans hyi⟩
    ·obtain⟨y,hy,hyy⟩:=hback y' hy'
     obtain⟨a1,a2,_⟩:=yU hyy
     rw [a1,a2]
     exact ho0 y (by simp at hy⊢;rcases hy with h|h<;>simp [h])
    ·exact bbM (fun _ _ _ _ h1 h2 h3=>h3.sim h1 h2) hsim2 (hp.sublist (by simp))
    ·obtain⟨y,hy,hyy⟩:=hback y' hy'
     obtain⟨_,_,_,_,a5,a6⟩:=yU hyy
     rw [a5,a6]
     exact hnx y (by simp at hy⊢;rcases hy with h|h<;>simp [h])
def kcL (all:Array Oper) (us:List Nat) (k:Nat):Bool:=decide (k<all.size)&&((List.range k).all fun j=>yP (us.getD k 0) j)&&(List.range all.size).all fun t=>decide (t≤k)||Region.waitsFor .any all t (t - 1)
def ucY (k m:Nat):Array Bool:=(Array.range m).map fun i=>decide (i<k)
theorem gcB {k:Nat} {listed:Array Bool} (h:∀i,i<listed.size→listed.getD i true=decide (i<k)):listed=ucY k listed.size:=by
 apply Array.ext
 ·simp [ucY]
 ·intro i h1 h2
  have:=h i h1
  simp only [Array.getD,h1,dif_pos]at this
  simp [ucY]
  simpa using this
theorem xb.ueR (W:St→(St→Prop)→Prop) (hW:∀(δ:List Deferred) (g:G) (e:St) (a:Act) (w:World) (K:St→Prop),Rel δ g e a w→W e K→∃g1 e1,K e1∧Rel δ g1 e1 a w∧Step g e w g1 e1 w) (k:Nat) (us:List Nat) (hT:za P T) {i:Nat} {ops:Array Oper} {Q:Exit→St→Prop} (hm:P.follows .mixedOrders=true) (hB:xcn ops 0 [] [] ops.toList us=true) (hd:ops.toList.all (xl n)=true)
 (hk:kcL ops us k=true) (hq:Region.seqB .any ops (ops.size - k) k (ucY k ops.size)=true)
 (h:dx P T ops (ops.toList.take k) us 0 [] (fun e=>W e fun e=>gR P T ops (ops.toList.drop k) e (Q .normal)) s):xb P n N i ops Q s:=by
 intro δ g a w hr hn
 obtain⟨l,e,hK,ho⟩:=ubd _ _ _ _ _ h
 obtain⟨hp1,_,hp3,hp4⟩:=wak hB rfl (fun j p h=>by simp [zS]at h) (fun j=>by simp)
 simp only [kcL,Bool.and_eq_true,decide_eq_true_eq]at hk
 obtain⟨⟨hk1,hk2⟩,hk3⟩:=hk
 have htk:∀j o,(ops.toList.take k)[j]? =some o→j<k∧ops[j]? =some o:=fun j o hj=>by
  rw [List.getElem?_take]at hj
  split at hj
  ·rename_i hjk;exact⟨hjk,by simpa using hj⟩
  ·cases hj
 have hof:∀x∈l,x.i<k∧ops[x.i]? =some x.o:=fun x hx=>by
  obtain⟨j,h1,h2⟩:=ho.of x hx
  have:x.i=j:=by omega
  rw [this]
  exact htk j _ h2
 have hC:Ext w {w with drawn:=w.drawn+1}:=⟨Nat.le_refl _,fun _ _=>rfl,rfl,rfl,rfl,Nat.le_succ _⟩
 obtain⟨h6,h7⟩:=hr.o.grow hC (I:=g.I) (fun b hb=>hb) (fun b _ hb=>hb) (hr.o.cel.same fun b hb=>hC.2.1 b (hr.o.imm b hb).1)
 have hr':Rel δ (g.imm g.I) s a {w with drawn:=w.drawn+1}:=hr.of h6 h7.tm rfl
 have hlen:l.length=k:=by
  have hnd:(l.map (·.i)).Pairwise (· < ·):=(List.pairwise_map).2 (ho.two.imp fun h=>h.1)
  have h1:l.map (·.i)=List.range k:=by
   refine List.Perm.eq_of_pairwise (le:=(· < ·)) (fun a b _ _ h h'=>by omega) hnd List.pairwise_lt_range ?_
   refine(List.perm_ext_iff_of_nodup (hnd.imp fun h=>Nat.ne_of_lt h) List.nodup_range).2 fun q=> ?_
   rw [List.mem_map,List.mem_range]
   constructor
   ·rintro⟨x,hx,rfl⟩
    exact(hof x hx).1
   ·intro hq
    obtain⟨x,hx,hxi⟩:=ho.kbA q ops[q] (by rw [List.getElem?_take_of_lt hq];simp [show q<ops.size by omega])
    exact⟨x,hx,by omega⟩
  have h2:=congrArg List.length h1
  simpa using h2
 have hanc:∀j,j<k→Anc ops j k:=fun j hj=>by
  have hb:=List.all_eq_true.1 hk2 j (List.mem_range.2 hj)
  have:=hp4 k ops[k] (by simp [hk1]) j hb
  rwa [Nat.zero_add]at this
 have hch:∀t,k<t→t<ops.size→∃o ed,ops[t]? =some o∧ed∈o.after∧Region.binds .any ed=true∧ed.on=t - 1:=fun t h1 h2=>by
  have hb:=List.all_eq_true.1 hk3 t (List.mem_range.2 h2)
  rw [decide_eq_false (by omega),Bool.false_or]at hb
  obtain⟨o,h3,ed,h4,h5,h6⟩:=Region.waitsFor_spec hb
  exact⟨o,ed,h3,h4,h5,h6⟩
 have hfuel:ops.size=l.length+(ops.size - k):=by omega
 refine wp_region_any hm ?_
 have key:=u9 (e:=e) (Q:=fun x a' w'=>∃g' s',Q x s'∧Rel δ g' s' a' w'∧a'.tmps.size=n∧kg N g s w g' s' w') hk1 hanc hch hT.toS hd (fun i o hi ed hed hb=>by
  have:=hp1 i o (by simpa using hi) ed hed hb
  omega) l.length (Array.replicate ops.size false) l (g.imm g.I) s a {w with drawn:=w.drawn+1} rfl (by simp) (fun i o hi=>by by_cases hsz:i<ops.size<;>simp [Array.getD,hsz]at hi) (fun i hi=> ?_) (fun i h1 h2=>by simp [Array.getD,h2]) hof ?_ (fun x hx=>⟨(ho.lo x hx).2.2,(ho.lo x hx).2.1⟩) ho.tr (hr'.toP.less fun id hid=> ?_) hn (fun g' listed' a' w' hsz hls h1 h2 h3=> ?_)
 ·rw [←hfuel]at key;exact key
 ·constructor
  ·intro _
   obtain⟨x,hx,hxi⟩:=ho.kbA i ops[i] (by rw [List.getElem?_take_of_lt hi];simp [show i<ops.size by omega])
   exact⟨x,hx,by omega⟩
  ·intro _
   simp [Array.getD,show i<ops.size by omega]
 ·refine ho.two.imp_of_mem fun{y x} hy hx h=>⟨h.1,h.2.1,h.2.2.1, ?_⟩
  rw [Nat.sub_zero]at h
  by_cases hed:yP (us.getD x.i 0) y.i=true
  ·left
   have:=hp4 x.i x.o (by simpa using(hof x hx).2) y.i hed
   rwa [Nat.zero_add]at this
  ·right;left
   have h8:=xaL (h.2.2.2.resolve_right hed)
   have h9:=hp3 y.i x.i y.o x.o h.1 (by simpa using(hof y hy).2) (by simpa using(hof x hx).2)
   rw [Nat.zero_add]at h9
   exact⟨h9.resolve_left hed,h8.1,h8.2.1,h8.2.2,h.2.1,h.2.2.1⟩
 ·rcases hid with⟨x,hx,h1,h2⟩|h1
  ·have:=ho.lo x hx;omega
  ·have:=ho.nx;omega
 ·have hle:listed'=ucY k ops.size:=by rw [←hsz];exact gcB fun i hi=>hls i (by omega)
  obtain⟨g1,e1,hK,hrel,hst1⟩:=hW δ g' e a' w' _ (h1.toR fun id hid=>hid) hK
  have h10:Step g s w (g.imm g.I) s {w with drawn:=w.drawn+1}:=h7.tm
  have hdl:(ops.toList.drop k).length=ops.size - k:=by simp
  have:=wpAny_of_seq (P:=P) (md:= .any) (ops:=ops) (Q':=fun x a' w'=>∃g' s',Q x s'∧Rel δ g' s' a' w'∧a'.tmps.size=n∧kg N g s w g' s' w') (ops.toList.drop k) k listed' a' w' (fun j=>by simp) (by rw [hdl,hle];exact hq)
   (xL hT.toS ops _ (fun o ho=>List.all_eq_true.1 hd o (List.mem_of_mem_drop ho)) hK hrel h2 fun a'' w'' ⟨g'',s'',q1,q2,q3,q4⟩=>⟨g'',s'',q1,q2,q3,(((h10.trans h3).trans hst1).trans q4).toN⟩)
  rwa [hdl]at this
theorem xb.tail (k:Nat) (us:List Nat) (hT:za P T) {i:Nat} {ops:Array Oper} {Q:Exit→St→Prop} (hm:P.follows .mixedOrders=true) (hB:xcn ops 0 [] [] ops.toList us=true) (hd:ops.toList.all (xl n)=true)
 (hk:kcL ops us k=true) (hq:Region.seqB .any ops (ops.size - k) k (ucY k ops.size)=true)
 (h:dx P T ops (ops.toList.take k) us 0 [] (fun e=>gR P T ops (ops.toList.drop k) e (Q .normal)) s):xb P n N i ops Q s:=
 .ueR (fun e K=>K e) (fun δ g e a w K hr hK=>⟨g,e,hK,hr, .refl _ _ _⟩) k us hT hm hB hd hk hq h
@[go_sem] def vfA (t:Nat) (e:St) (K:St→Prop):Prop:=match lk t e.tm with
 |some (.vec id k)=>match lk id e.os with
  |some (.vec _ _ _ els)=>k=els.length∧K ⟨upd t (.c (.sl els)) e.tm,rmv e.os [id],e.nx⟩
  |_=>False
 |_=>False
end
end Dm
namespace Dm
open Go Go.Proofs
def ga (n:FuncId) (sp:List D→Option (Prop×D×Fr)):Prop:=∀rs p r fr,sp rs=some (p,r,fr)→p→gaH Tryz.prog n rs r fr
theorem Cd.mk {a b:Prop} (h:a) (h1:b):a∧b:=⟨h,h1⟩
theorem cdA:type_of% (Cd.mk @ye5 (Cd.mk @be4 (Cd.mk @gcj (Cd.mk @bcj (Cd.mk @ucj (Cd.mk @vdb (Cd.mk @bcl (Cd.mk @jcl (Cd.mk @gcl (Cd.mk @vcl (Cd.mk @xcl (Cd.mk @ycl (Cd.mk @ucl @wcl))))))))))))):=Cd.mk @ye5 (Cd.mk @be4 (Cd.mk @gcj (Cd.mk @bcj (Cd.mk @ucj (Cd.mk @vdb (Cd.mk @bcl (Cd.mk @jcl (Cd.mk @gcl (Cd.mk @vcl (Cd.mk @xcl (Cd.mk @ycl (Cd.mk @ucl @wcl))))))))))))
theorem cdB:type_of% (Cd.mk @decide_true (Cd.mk @Bool.and_self (Cd.mk @Bool.true_and (Cd.mk @Ob.map.injEq (Cd.mk @Ob.it.injEq (Cd.mk @true_and @and_true)))))):=Cd.mk @decide_true (Cd.mk @Bool.and_self (Cd.mk @Bool.true_and (Cd.mk @Ob.map.injEq (Cd.mk @Ob.it.injEq (Cd.mk @true_and @and_true)))))
theorem cdN:type_of% (Cd.mk @false_implies (Cd.mk @true_implies (Cd.mk @not_false_eq_true @not_true_eq_false))):=Cd.mk @false_implies (Cd.mk @true_implies (Cd.mk @not_false_eq_true @not_true_eq_false))
end Dm
namespace Dm
open Go Go.Proofs Go.IntWalk
theorem qa:Tryz.prog.follows .mixedOrders=true:=by kernel_rfl
@[go_sem] def bbH (x:Nat):D:= .bool false
@[go_sem] abbrev jeL:FuncId:=253
@[go_sem] def qcA:Tab:=[]
theorem xbp:za Tryz.prog qcA:=za.nil
theorem zb6 (x:Nat):ja Tryz.prog 253 [.c (.int .u64 (x:Int))] (bbH x):=by
 refine .of (qem xbp (Nat.le_of_ble_eq_true rfl) ?_)
 simp -implicitDefEqProofs only [cdA,go_sem,Go.Proofs.Tryz.f253,simprocAttr, -Int.reduceEq,List.cons.injEq,cdB]
def yV:List D→Option (Prop×D×Fr)
 |[.c (.int .u64 z1)]=>some (z1=(z1.toNat:Int),bbH z1.toNat,[])
 |_=>none
attribute [go_sem] yV
theorem qan:ga 253 yV:=by
 intro rs p r fr h hp
 unfold yV at h
 split at h<;>cases h
 have hc0:=hp
 rename_i z1
 have:=zb6 z1.toNat
 rw [←hc0]at this
 exact this
@[go_sem] def bdb (x:Nat) (y:Nat):D:= .int .i64 (vai x y)
@[go_sem] abbrev zfy:FuncId:=225
@[go_sem] def yer:Tab:=[(253,yV)]
theorem ub0:za Tryz.prog yer:=(za.cons qan za.nil)
theorem gdb (x:Nat) (y:Nat):ja Tryz.prog 225 [.c (.int .u64 (x:Int)), .c (.int .u64 (y:Int))] (bdb x y):=by
 refine .of (bej ub0 (Nat.le_of_ble_eq_true rfl) ?_)
 simp -implicitDefEqProofs only [cdA,go_sem,Go.Proofs.Tryz.f225,simprocAttr, -Int.reduceEq,List.cons.injEq,cdB]
 refine⟨fun h=> ?_,fun h=>⟨fun h1=> ?_,fun h1=> ?_⟩⟩<;>simp [vai]<;>omega
def gP:List D→Option (Prop×D×Fr)
 |[.c (.int .u64 z2), .c (.int .u64 z3)]=>some (z2=(z2.toNat:Int)∧z3=(z3.toNat:Int),bdb z2.toNat z3.toNat,[])
 |_=>none
attribute [go_sem] gP
theorem wu:ga 225 gP:=by
 intro rs p r fr h hp
 unfold gP at h
 split at h<;>cases h
 obtain⟨hc0,hc1⟩:=hp
 rename_i z2 z3
 have:=gdb z2.toNat z3.toNat
 rw [←hc0,←hc1]at this
 exact this
def orS (l:List Int):Int:=(l.find? fun x=>decide (¬x=0)).getD 0
@[go_sem] def ybD (l:List Int):D:= .int .i64 (orS l)
@[go_sem] abbrev keJ:FuncId:=226
@[go_sem] def bcs:Tab:=[]
theorem uas:za Tryz.prog bcs:=za.nil
theorem gb0 (l:List Int):ja Tryz.prog 226 [.sl (vaK l)] (ybD l):=by
 refine .of (zek uas (Nat.le_of_ble_eq_true rfl) ?_)
 simp -implicitDefEqProofs only [cdA,go_sem,Go.Proofs.Tryz.f226,simprocAttr, -Int.reduceEq,List.cons.injEq,cdB]
 refine fun hl=>SWp.loop (ι:={i:Nat // i≤l.length∧∀j,j<i→l.getD j default=0}) (fun i=>⟨[(3, .int .i64 0),(6, .sl (vaK l)),(7, .int .i64 l.length),(8, .int .i64 i.1)],[],0⟩) (fun i=>l.length - i.1) ⟨0,by simp⟩ ?_ ?_
 ·simp [go_sem]
 ·rintro⟨i,hi,hall⟩
  refine ya uas.toS zdk _ _ _ rfl ?_
  simp -implicitDefEqProofs only [cdA,go_sem,simprocAttr, -Int.reduceEq,List.cons.injEq,cdB]
  refine⟨fun h=>⟨by omega,fun h1=>⟨⟨i+1,by omega,fun j hj=> ?_⟩,by dsimp only;omega,i64_in _ (by omega)⟩,fun h1=> ?_⟩,fun h=> ?_⟩
  ·by_cases hji:j=i
   ·subst hji;exact h1
   ·exact hall j (by omega)
  ·have hi':i<l.length:=by omega
   have:l.find? (fun x=>decide (¬x=0))=some (l.getD i default):=by
    rw [List.find?_eq_some_iff_getElem]
    refine⟨by simpa using h1,i,hi',(xe hi').symm,fun j hj=> ?_⟩
    have:=hall j hj
    rw [xe (by omega)]at this
    simpa using this
   rw [orS,this];rfl
  ·have:l.find? (fun x=>decide (¬x=0))=none:=by
    rw [List.find?_eq_none]
    intro x hx
    obtain⟨j,hj,rfl⟩:=va.1 hx
    simpa using hall j (by omega)
   rw [orS,this];rfl
def gad:List D→Option (Prop×D×Fr)
 |[.c (.sl z4)]=>some (z4=vaK (gbD z4),ybD (gbD z4),[])
 |_=>none
attribute [go_sem] gad
theorem wa7:ga 226 gad:=by
 intro rs p r fr h hp
 unfold gad at h
 split at h<;>cases h
 have hc0:=hp
 rename_i z4
 have:=gb0 (gbD z4)
 rw [←hc0]at this
 exact this
def gb7 (l:List Nat):Nat:=l.foldl max 0
theorem qaM {l:List Nat} {i:Nat} (h:i<l.length):gb7 (l.take (i+1))=max (gb7 (l.take i)) (l.getD i default):=by
 rw [take_succ h,gb7,List.foldl_append];rfl
@[go_sem] def ucn (l:List Nat):D:= .int .u64 (gb7 l:Int)
@[go_sem] abbrev jfd:FuncId:=206
@[go_sem] def xdu:Tab:=[(253,yV)]
theorem uaS:za Tryz.prog xdu:=(za.cons qan za.nil)
theorem zcL (l:List Nat) (h:0<l.length):ja Tryz.prog 206 [.sl (qo l)] (ucn l):=by
 refine .of (jei uaS (Nat.le_of_ble_eq_true rfl) ?_)
 simp -implicitDefEqProofs only [cdA,go_sem,Go.Proofs.Tryz.f206,simprocAttr, -Int.reduceEq,List.cons.injEq,cdB]
 refine fun hl=>⟨fun h1=>by omega,fun h1=>⟨by omega, ?_⟩⟩
 refine SWp.loop (ι:={i:Nat // 0<i∧i≤l.length}) (fun i=>⟨[(0, .sl (qo l)),(3, .int .u64 (gb7 (l.take i.1):Nat)),(4, .int .i64 i.1)],[],0⟩) (fun i=>l.length - i.1) ⟨1,by omega⟩ ?_ ?_
 ·have:gb7 (l.take 1)=l.getD 0 default:=by rw [qaM h];simp [gb7]
  simp [go_sem,this]
 ·rintro⟨i,hi0,hi⟩
  refine ya uaS.toS kdj _ _ _ rfl ?_
  simp -implicitDefEqProofs only [cdA,go_sem,simprocAttr, -Int.reduceEq,List.cons.injEq,cdB]
  refine fun _=>⟨fun h2=>⟨by omega,⟨i+1,by omega,by omega⟩,by dsimp only;omega, ?_,i64_in _ (by omega)⟩,fun h2=> ?_⟩
  ·rw [qaM (by omega)];omega
  ·rw [List.take_of_length_le (by omega)]
@[go_sem] def qdu (l:List Nat):Prop:=(0<l.length)
def xaG:List D→Option (Prop×D×Fr)
 |[.c (.sl z5)]=>some (z5=qo (wk z5)∧qdu (wk z5),ucn (wk z5),[])
 |_=>none
attribute [go_sem] xaG
theorem wby:ga 206 xaG:=by
 intro rs p r fr h hp
 unfold xaG at h
 split at h<;>cases h
 obtain⟨hc0,hp⟩:=hp
 rename_i z5
 have:=zcL (wk z5) hp
 rw [←hc0]at this
 exact this
def bO (l:List Nat):Int:=if l.all (fun n=>decide (n≤4611686018427387904))=true then 0 else 1
theorem gcC {l:List Nat} {m:Nat}:l.foldl max m≤4611686018427387904↔m≤4611686018427387904∧l.all (fun n=>decide (n≤4611686018427387904))=true:=by
 induction l generalizing m with
 |nil=>simp
 |cons x l ih=>
  rw [List.foldl_cons,ih,List.all_cons]
  simp only [Bool.and_eq_true,decide_eq_true_eq,←and_assoc]
  refine and_congr_left fun _=> ?_
  omega
@[go_sem] def jau (l:List Nat):D:= .int .i64 (bO l)
@[go_sem] abbrev qcZ:FuncId:=122
@[go_sem] def wbp:Tab:=[(206,xaG)]
theorem yaC:za Tryz.prog wbp:=(za.cons wby za.nil)
theorem ga1 (l:List Nat):ja Tryz.prog 122 [.sl (qo l)] (jau l):=by
 refine .of (veb yaC (Nat.le_of_ble_eq_true rfl) ?_)
 simp -implicitDefEqProofs only [cdA,go_sem,Go.Proofs.Tryz.f122,simprocAttr, -Int.reduceEq,List.cons.injEq,cdB]
 have hm:=gcC (l:=l) (m:=0)
 refine fun h=>⟨fun h1=>⟨by omega,fun h2=> ?_,fun h2=> ?_⟩,fun h1=> ?_⟩
 ·rw [bO,if_neg];intro h3;have:=hm.2 ⟨by omega,h3⟩;unfold gb7 at h2;omega
 ·rw [bO,if_pos];unfold gb7 at h2;exact(hm.1 (by omega)).2
 ·have:l=[]:=List.eq_nil_of_length_eq_zero (by omega)
  subst this;rfl
def yf:List D→Option (Prop×D×Fr)
 |[.c (.sl z6)]=>some (z6=qo (wk z6),jau (wk z6),[])
 |_=>none
attribute [go_sem] yf
theorem we:ga 122 yf:=by
 intro rs p r fr h hp
 unfold yf at h
 split at h<;>cases h
 have hc0:=hp
 rename_i z6
 have:=ga1 (wk z6)
 rw [←hc0]at this
 exact this
def uR (l:List Nat):Nat×Int:=if bO l=0 then(if l.sum≤4611686018427387904 then(l.sum,0)else(0,8))else(0,1)
theorem bbk {l:List Nat} {i:Nat} (h:i<l.length):(l.take (i+1)).sum=(l.take i).sum+l.getD i default:=by
 rw [take_succ h];simp
theorem qco {l:List Nat} {i:Nat}:(l.take i).sum≤l.sum:=by
 conv=>rhs;rw [←List.take_append_drop i l]
 rw [List.sum_append]
 omega
theorem jbg {l:List Nat} (h:bO l=0) {i:Nat} (hi:i<l.length):l.getD i default≤4611686018427387904:=by
 unfold bO at h
 split at h
 ·rename_i h1
  have:=List.all_eq_true.1 h1 _ (va.2 ⟨i,hi,rfl⟩)
  simpa using this
 ·cases h
theorem qdm {l:List Nat} (h:¬bO l=0):bO l=1:=by
 unfold bO at*;split<;>simp_all
@[go_sem] def kbg (l:List Nat):D:= .tup [.int .u64 ((uR l).1:Int), .int .i64 (uR l).2]
@[go_sem] abbrev zdR:FuncId:=198
@[go_sem] def xb8:Tab:=[(122,yf)]
theorem yak:za Tryz.prog xb8:=(za.cons we za.nil)
theorem wbK (l:List Nat):ja Tryz.prog 198 [.sl (qo l)] (kbg l):=by
 refine .of (geh yak (Nat.le_of_ble_eq_true rfl) ?_)
 simp -implicitDefEqProofs only [cdA,go_sem,Go.Proofs.Tryz.f198,simprocAttr, -Int.reduceEq,List.cons.injEq,cdB]
 refine⟨fun h hl=> ?_,fun h=> ?_⟩
 ·refine SWp.loop (ι:={i:Nat // i≤l.length∧(l.take i).sum≤4611686018427387904}) (fun i=>⟨[(2, .int .u64 ((l.take i.1).sum:Nat)),(11, .sl (qo l)),(12, .int .i64 l.length),(13, .int .i64 i.1)],[],0⟩) (fun i=>l.length - i.1) ⟨0,by simp⟩ ?_ ?_
  ·simp [go_sem]
  ·rintro⟨i,hi,hs⟩
   refine ya yak.toS jdj _ _ _ rfl ?_
   simp -implicitDefEqProofs only [cdA,go_sem,simprocAttr, -Int.reduceEq,List.cons.injEq,cdB]
   refine⟨fun h1=> ?_,fun h1=> ?_⟩
   ·have hi':i<l.length:=by omega
    have hg:=jbg h hi'
    have hst:=bbk hi'
    have hle:=qco (l:=l) (i:=i+1)
    rw [u64_in _ (by omega)]
    refine⟨by omega,fun h2=> ?_,fun h2=>⟨⟨i+1,by omega,by omega⟩,by dsimp only;omega,by dsimp only;omega,i64_in _ (by omega)⟩⟩
    rw [uR,if_pos h,if_neg (by omega)];exact⟨rfl,rfl⟩
   ·rw [List.take_of_length_le (by omega)]at hs⊢
    rw [uR,if_pos h,if_pos hs];exact⟨rfl,rfl⟩
 ·rw [uR,if_neg h]
  exact⟨rfl,qdm h⟩
def gu:List D→Option (Prop×D×Fr)
 |[.c (.sl z7)]=>some (z7=qo (wk z7),kbg (wk z7),[])
 |_=>none
attribute [go_sem] gu
theorem gw:ga 198 gu:=by
 intro rs p r fr h hp
 unfold gu at h
 split at h<;>cases h
 have hc0:=hp
 rename_i z7
 have:=wbK (wk z7)
 rw [←hc0]at this
 exact this
theorem yfb (n:Nat):bO [n]=if n≤4611686018427387904 then 0 else 1:=by simp [bO]
theorem gG {n:Nat}:bO [n]=0↔n≤4611686018427387904:=by rw [yfb];split<;>simp_all
theorem ueI (a b:Nat):bO [a,b]=if a≤4611686018427387904∧b≤4611686018427387904 then 0 else 1:=by simp [bO]
theorem xu {l:List Nat}:(uR l).2=0↔(∀x∈l,x≤4611686018427387904)∧l.sum≤4611686018427387904:=by
 unfold uR bO
 simp only [List.all_eq_true,decide_eq_true_eq]
 by_cases h:∀x∈l,x≤4611686018427387904
 ·rw [if_pos h]
  by_cases h2:l.sum≤4611686018427387904
  ·simp [h2];exact h
  ·simp [h2]
 ·rw [if_neg h];simp [h]
theorem k9 {l:List Nat} (h:(uR l).2=0):(uR l).1=l.sum:=by
 have h1:=xu.1 h
 unfold uR bO
 simp only [List.all_eq_true,decide_eq_true_eq]
 rw [if_pos h1.1,if_pos rfl,if_pos h1.2]
end Dm
namespace Dm
open Go Go.Proofs Go.IntWalk
structure Cv where
 kind:Int
 a:Nat
 b:Nat
deriving DecidableEq,Inhabited
@[go_sem] def Cv.enc (e:Cv):List C:=[.int .i64 e.kind, .int .u64 (e.a:Int), .int .u64 (e.b:Int)]
def Cv.dec:List C→Cv
 |[.int .i64 z2, .int .u64 z3, .int .u64 z4]=>(⟨z2,z3.toNat,z4.toNat⟩:Cv)
 |_=>default
def cvs (l:List Cv):List (List C):=l.map Cv.enc
def uc (l:List (List C)):List Cv:=l.map Cv.dec
@[simp,go_sem] theorem wcS (l:List Cv):(cvs l).length=l.length:=by simp [cvs]
@[go_sem] theorem xes (l:List Cv) (i:Nat):(cvs l).getD i [.int .i64 0, .int .u64 0, .int .u64 0]=(l.getD i default).enc:=by
 simp only [cvs,List.getD_eq_getElem?_getD,List.getElem?_map]
 cases l[i]? <;>rfl
@[go_sem] theorem jdH (l:List Cv):bf 3 (cvs l)=True:=by
 simp [bf,cvs,Cv.enc]
theorem Cv.jc (e:Cv):Cv.dec e.enc=e:=by
 simp [Cv.enc,Cv.dec]
@[go_sem] theorem xS (l:List Cv):uc (cvs l)=l:=by
 simp only [uc,cvs,List.map_map]
 exact List.map_id'' (fun e=>Cv.jc e) l
@[go_sem] theorem zes (a b:List Cv):cvs a++cvs b=cvs (a++b):=by simp [cvs]
@[go_sem] theorem ydH (l:List Cv) (k:Nat):(cvs l).drop k=cvs (l.drop k):=by simp [cvs]
@[go_sem] theorem qdH (l:List Cv) (k:Nat):(cvs l).take k=cvs (l.take k):=by simp [cvs]
@[go_sem] theorem qes (z5:Int) (z6:Int) (z7:Int) (hz6:0≤z6) (hz7:0≤z7):[[C.int .i64 z5,C.int .u64 z6,C.int .u64 z7]]=cvs [⟨z5,z6.toNat,z7.toNat⟩]:=by simp [cvs,Cv.enc,Int.toNat_of_nonneg hz6,Int.toNat_of_nonneg hz7]
@[go_sem] theorem jes (l:List Cv) (i:Nat) (z5:Int) (z6:Int) (z7:Int) (hz6:0≤z6) (hz7:0≤z7):(cvs l).set i [C.int .i64 z5,C.int .u64 z6,C.int .u64 z7]=cvs (l.set i ⟨z5,z6.toNat,z7.toNat⟩):=by simp [cvs,List.map_set,Cv.enc,Int.toNat_of_nonneg hz6,Int.toNat_of_nonneg hz7]
@[go_sem] theorem zdH (l:List Cv) (z5:Int) (z6:Int) (z7:Int) (hz6:0≤z6) (hz7:0≤z7):[C.int .i64 z5,C.int .u64 z6,C.int .u64 z7]::cvs l=cvs (⟨z5,z6.toNat,z7.toNat⟩::l):=by simp [cvs,Cv.enc,Int.toNat_of_nonneg hz6,Int.toNat_of_nonneg hz7]
@[go_sem] theorem xdH (l:List Cv):bZ (cvs l)=True:=eq_true fun x hx c hc=>by
 obtain⟨e,_,rfl⟩:=List.mem_map.1 hx
 simp only [Cv.enc,List.mem_cons,List.not_mem_nil,or_false]at hc
 rcases hc with rfl|rfl|rfl<;>rfl
@[go_sem] theorem Cv.eta {e:Cv}:(⟨e.kind,e.a,e.b⟩:Cv)=e:=rfl
structure Ct where
 root:Nat
 b:Nat
 n:Nat
deriving DecidableEq,Inhabited
@[go_sem] def Ct.enc (e:Ct):List C:=[.int .u64 (e.root:Int), .int .u64 (e.b:Int), .int .u64 (e.n:Int)]
def Ct.dec:List C→Ct
 |[.int .u64 z9, .int .u64 z10, .int .u64 z11]=>(⟨z9.toNat,z10.toNat,z11.toNat⟩:Ct)
 |_=>default
def cts (l:List Ct):List (List C):=l.map Ct.enc
def qd (l:List (List C)):List Ct:=l.map Ct.dec
@[simp,go_sem] theorem vcS (l:List Ct):(cts l).length=l.length:=by simp [cts]
@[go_sem] theorem qer (l:List Ct) (i:Nat):(cts l).getD i [.int .u64 0, .int .u64 0, .int .u64 0]=(l.getD i default).enc:=by
 simp only [cts,List.getD_eq_getElem?_getD,List.getElem?_map]
 cases l[i]? <;>rfl
@[go_sem] theorem kdG (l:List Ct):bf 3 (cts l)=True:=by
 simp [bf,cts,Ct.enc]
theorem Ct.jc (e:Ct):Ct.dec e.enc=e:=by
 simp [Ct.enc,Ct.dec]
@[go_sem] theorem vb1 (l:List Ct):qd (cts l)=l:=by
 simp only [qd,cts,List.map_map]
 exact List.map_id'' (fun e=>Ct.jc e) l
@[go_sem] theorem xer (a b:List Ct):cts a++cts b=cts (a++b):=by simp [cts]
@[go_sem] theorem xdG (l:List Ct) (k:Nat):(cts l).drop k=cts (l.drop k):=by simp [cts]
@[go_sem] theorem jdG (l:List Ct) (k:Nat):(cts l).take k=cts (l.take k):=by simp [cts]
@[go_sem] theorem jer (z12:Int) (z13:Int) (z14:Int) (hz12:0≤z12) (hz13:0≤z13) (hz14:0≤z14):[[C.int .u64 z12,C.int .u64 z13,C.int .u64 z14]]=cts [⟨z12.toNat,z13.toNat,z14.toNat⟩]:=by simp [cts,Ct.enc,Int.toNat_of_nonneg hz12,Int.toNat_of_nonneg hz13,Int.toNat_of_nonneg hz14]
@[go_sem] theorem ker (l:List Ct) (i:Nat) (z12:Int) (z13:Int) (z14:Int) (hz12:0≤z12) (hz13:0≤z13) (hz14:0≤z14):(cts l).set i [C.int .u64 z12,C.int .u64 z13,C.int .u64 z14]=cts (l.set i ⟨z12.toNat,z13.toNat,z14.toNat⟩):=by simp [cts,List.map_set,Ct.enc,Int.toNat_of_nonneg hz12,Int.toNat_of_nonneg hz13,Int.toNat_of_nonneg hz14]
@[go_sem] theorem ydG (l:List Ct) (z12:Int) (z13:Int) (z14:Int) (hz12:0≤z12) (hz13:0≤z13) (hz14:0≤z14):[C.int .u64 z12,C.int .u64 z13,C.int .u64 z14]::cts l=cts (⟨z12.toNat,z13.toNat,z14.toNat⟩::l):=by simp [cts,Ct.enc,Int.toNat_of_nonneg hz12,Int.toNat_of_nonneg hz13,Int.toNat_of_nonneg hz14]
@[go_sem] theorem qdG (l:List Ct):bZ (cts l)=True:=eq_true fun x hx c hc=>by
 obtain⟨e,_,rfl⟩:=List.mem_map.1 hx
 simp only [Ct.enc,List.mem_cons,List.not_mem_nil,or_false]at hc
 rcases hc with rfl|rfl|rfl<;>rfl
@[go_sem] theorem Ct.eta {e:Ct}:(⟨e.root,e.b,e.n⟩:Ct)=e:=rfl
@[go_sem] theorem Ct.eqD {a b:Ct}:eqD Tryz.prog 160 [D.c (.int .u64 (a.root:Int)),D.c (.int .u64 (a.b:Int)),D.c (.int .u64 (a.n:Int))] [D.c (.int .u64 (b.root:Int)),D.c (.int .u64 (b.b:Int)),D.c (.int .u64 (b.n:Int))]=some (decide (a=b)):=by
 cases a;cases b
 simp only [Dm.eqD,zb2,vm,eqC,List.getElem?_cons_zero,List.getElem?_cons_succ,if_true,Option.some.injEq,Ct.mk.injEq]
 rw [Bool.eq_iff_iff]
 simp [Int.ofNat_inj]
def ko (c:Cv):Int:=if(c.kind=4∧c.a≤4611686018427387904)∨(c.b=0∧((c.kind=3∧c.a≤4611686018427387904)∨(c.kind=2∧c.a<65536)∨c.kind=1∨c.kind=5))then 0 else 1
@[go_sem] def kas (c:Cv):D:= .int .i64 (ko c)
@[go_sem] abbrev zcZ:FuncId:=58
@[go_sem] def ubm:Tab:=[(122,yf)]
theorem yaA:za Tryz.prog ubm:=(za.cons we za.nil)
theorem qaZ (c:Cv):ja Tryz.prog 58 [.agg [.c (.int .i64 c.kind), .c (.int .u64 (c.a:Int)), .c (.int .u64 (c.b:Int))]] (kas c):=by
 refine .of (qfn yaA (Nat.le_of_ble_eq_true rfl) ?_)
 simp -implicitDefEqProofs only [cdA,go_sem,Go.Proofs.Tryz.f58,simprocAttr, -Int.reduceEq,List.cons.injEq,cdB]
 have e0:(2^min 16 64:Int)=65536:=rfl
 have e1:0<(c.a:Int).fdiv (2^min 16 64)↔65536≤c.a:=by
  rw [e0,Int.fdiv_eq_ediv_of_nonneg _ (by decide)];omega
 rw [e1,yfb]
 unfold ko
 split<;>split<;>simp<;>omega
def xh:List D→Option (Prop×D×Fr)
 |[.agg [.c (.int .i64 z16), .c (.int .u64 z17), .c (.int .u64 z18)]]=>some (z17=(z17.toNat:Int)∧z18=(z18.toNat:Int),kas (⟨z16,z17.toNat,z18.toNat⟩:Cv),[])
 |_=>none
attribute [go_sem] xh
theorem wh:ga 58 xh:=by
 intro rs p r fr h hp
 unfold xh at h
 split at h<;>cases h
 obtain⟨hc0,hc1⟩:=hp
 rename_i z16 z17 z18
 have:=qaZ ⟨z16,z17.toNat,z18.toNat⟩
 rw [←hc0,←hc1]at this
 exact this
end Dm
namespace Dm
open Go Go.Proofs Go.IntWalk
def qac (c:Nat):Nat:=if c<253 then 0 else 2*2^(c - 253)
@[go_sem] def uco (c:Nat):D:= .int .i64 (qac c:Nat)
@[go_sem] abbrev kfd:FuncId:=124
@[go_sem] def kdz:Tab:=[]
theorem jbX:za Tryz.prog kdz:=za.nil
theorem gcP (c:Nat) (h:c≤255):ja Tryz.prog 124 [.c (.int .u8 (c:Int))] (uco c):=by
 refine .of (ueb jbX (Nat.le_of_ble_eq_true rfl) ?_)
 simp -implicitDefEqProofs only [cdA,go_sem,Go.Proofs.Tryz.f124,simprocAttr, -Int.reduceEq,List.cons.injEq,cdB]
 unfold qac
 refine⟨fun h1=>by rw [if_pos (by omega)];rfl,fun h1=> ?_⟩
 rw [if_neg (by omega)]
 have h2:c=253∨c=254∨c=255:=by omega
 rcases h2 with rfl|rfl|rfl<;>rfl
@[go_sem] def wdz (c:Nat):Prop:=(c≤255)
def vaG:List D→Option (Prop×D×Fr)
 |[.c (.int .u8 z1)]=>some (z1=(z1.toNat:Int)∧wdz z1.toNat,uco z1.toNat,[])
 |_=>none
attribute [go_sem] vaG
theorem gby:ga 124 vaG:=by
 intro rs p r fr h hp
 unfold vaG at h
 split at h<;>cases h
 obtain⟨hc0,hp⟩:=hp
 rename_i z1
 have:=gcP z1.toNat hp
 rw [←hc0]at this
 exact this
def jP (n:Nat):Nat:=if n<253 then n else if n<65536 then 253 else if n<4294967296 then 254 else 255
def wbE (n:Nat):UInt8:=UInt8.ofNat (jP n)
theorem gaA (n:Nat):(wbE n).toNat=jP n:=by
 rw [wbE,UInt8.toNat_ofNat']
 unfold jP
 split
 ·omega
 ·split
  ·rfl
  ·split<;>rfl
@[go_sem] def ubE (n:Nat):D:= .int .u8 ((wbE n).toNat:Int)
@[go_sem] abbrev qeK:FuncId:=123
@[go_sem] def gcu:Tab:=[]
theorem bbn:za Tryz.prog gcu:=za.nil
theorem vb3 (n:Nat):ja Tryz.prog 123 [.c (.int .u64 (n:Int))] (ubE n):=by
 refine .of (web bbn (Nat.le_of_ble_eq_true rfl) ?_)
 simp -implicitDefEqProofs only [cdA,go_sem,Go.Proofs.Tryz.f123,simprocAttr, -Int.reduceEq,List.cons.injEq,cdB]
 rw [gaA]
 unfold jP
 refine⟨fun h1=> ?_,fun h1=>⟨fun h2=> ?_,fun h2=>⟨fun h3=> ?_,fun h3=> ?_⟩⟩⟩
 ·rw [if_pos (by omega),qaH,w8,UInt8.toNat_ofNat'];omega
 ·rw [if_neg (by omega),if_pos (by omega)];rfl
 ·rw [if_neg (by omega),if_neg (by omega),if_pos (by omega)];rfl
 ·rw [if_neg (by omega),if_neg (by omega),if_neg (by omega)];rfl
def uae:List D→Option (Prop×D×Fr)
 |[.c (.int .u64 z2)]=>some (z2=(z2.toNat:Int),ubE z2.toNat,[])
 |_=>none
attribute [go_sem] uae
theorem ka8:ga 123 uae:=by
 intro rs p r fr h hp
 unfold uae at h
 split at h<;>cases h
 have hc0:=hp
 rename_i z2
 have:=vb3 z2.toNat
 rw [←hc0]at this
 exact this
def qbc (n:Nat):List UInt8:=(List.range (qac (jP n))).map fun k=>w8 ((n:Int) / 2^(8*(qac (jP n) - 1 - k)))
def wbm (n:Nat):List UInt8:=wbE n::qbc n
def gm (l:List Nat):List UInt8:=l.flatMap wbm
theorem jaO {l:List Nat} {i:Nat} (h:i<l.length):gm (l.take (i+1))=gm (l.take i)++(wbE (l.getD i default)::qbc (l.getD i default)):=by
 rw [take_succ h,gm,List.flatMap_append];simp [gm,wbm]
theorem wac (n:Nat):(qbc n).length=qac (jP n):=by simp [qbc]
theorem qbX (n:Nat):qac (jP n)≤8:=by
 unfold jP
 split
 ·rename_i h;rw [qac,if_pos h];omega
 ·split
  ·decide
  ·split<;>decide
theorem qad {l:List Nat} {i:Nat}:(gm (l.take i)).length≤i*9:=by
 induction i generalizing l with
 |zero=>simp [gm]
 |succ i ih=>
  cases l with
  |nil=>simp [gm]
  |cons a l=>
   have h1:gm ((a::l).take (i+1))=wbm a++gm (l.take i):=by simp [gm]
   have h2:(wbm a).length=qac (jP a)+1:=by simp [wbm,wac]
   rw [h1,List.length_append,h2]
   have:=ih (l:=l)
   have:=qbX a
   omega
@[go_sem] def qcj (l:List Nat):D:= .sl (u8s (gm l))
@[go_sem] abbrev vfb:FuncId:=61
@[go_sem] def zdb:Tab:=[(124,vaG),(123,uae)]
theorem xai:za Tryz.prog zdb:=(za.cons gby (za.cons ka8 za.nil))
theorem zcs (l:List Nat) (hl:l.length≤1000000):ja Tryz.prog 61 [.sl (qo l)] (qcj l):=by
 refine .of (vfn xai (Nat.le_of_ble_eq_true rfl) ?_)
 simp -implicitDefEqProofs only [cdA,go_sem,Go.Proofs.Tryz.f61,simprocAttr, -Int.reduceEq,List.cons.injEq,cdB]
 refine fun _=>SWp.xaa 3 1 5 rfl (Nat.zero_le _) ?_
 refine SWp.loop (ι:={i:Nat // i≤l.length}) (fun i=>⟨[(3, .vec 0 (gm (l.take i.1)).length),(8, .sl (qo l)),(9, .int .i64 l.length),(10, .int .i64 i.1)],[(0, .vec true 1 5 (u8s (gm (l.take i.1))))],1⟩) (fun i=>l.length - i.1) ⟨0,by simp⟩ ?_ ?_
 ·simp [go_sem,gm,u8s]
 ·rintro⟨i,hi⟩
  refine ya xai.toS jeI _ _ _ rfl ?_
  simp -implicitDefEqProofs only [cdA,go_sem,simprocAttr, -Int.reduceEq,List.cons.injEq,cdB]
  have hpl:=qad (l:=l) (i:=i)
  refine⟨fun h1=>⟨h1,by omega,by have:=(wbE (l.getD i default)).toNat_lt;omega, ?_⟩,fun h1=> ?_⟩
  rotate_left 1
  ·have:i=l.length:=by omega
   subst this
   rw [List.take_length]
   exact⟨rfl,_,_,_,rfl⟩
  have hi':i<l.length:=by omega
  rw [gaA]
  generalize hn:l.getD i default=n at*
  refine SWp.loop (ι:={k:Nat // k≤qac (jP n)}) (fun k=>⟨[(3, .vec 0 ((gm (l.take i))++(wbE n::(qbc n).take k.1)).length),(5, .c (.int .u64 n)),(6, .int .u8 (jP n:Nat)),(8, .sl (qo l)),(9, .int .i64 l.length),(10, .int .i64 i),(21, .int .i64 (qac (jP n):Nat)),(22, .int .i64 k.1)],
   [(0, .vec true 1 5 (u8s (gm (l.take i)++(wbE n::(qbc n).take k.1))))],2⟩) (fun k=>qac (jP n) - k.1) ⟨0,by simp⟩ ?_ ?_
  ·simp [go_sem]
  ·rintro⟨k,hk⟩
   refine ya xai.toS jeI _ _ _ rfl ?_
   simp -implicitDefEqProofs only [cdA,go_sem,simprocAttr, -Int.reduceEq,List.cons.injEq,cdB]
   have hw:=qbX n
   have htl:((qbc n).take k).length=k:=by rw [List.length_take,wac];omega
   have hfn:jP n≤255:=by rw [←gaA];have:=(wbE n).toNat_lt;omega
   refine⟨fun h2=> ?_,fun h2=> ?_⟩
   ·have hk':k<qac (jP n):=by omega
    have e1:IntKind.i64.wrap (8*IntKind.i64.wrap (IntKind.i64.wrap ((qac (jP n):Nat) - (1:Int)) - k))=((8*(qac (jP n) - 1 - k):Nat):Int):=by
     have a1:IntKind.i64.wrap ((qac (jP n):Nat) - (1:Int))=((qac (jP n) - 1:Nat):Int):=by rw [i64_in _ (by omega)];omega
     have a2:IntKind.i64.wrap (((qac (jP n) - 1:Nat):Int) - k)=((qac (jP n) - 1 - k:Nat):Int):=by rw [i64_in _ (by omega)];omega
     rw [a1,a2,i64_in _ (by omega)];omega
    have e2:(qbc n).take (k+1)=(qbc n).take k++[w8 ((n:Int) / 2^(8*(qac (jP n) - 1 - k)))]:=by
     rw [List.take_succ_eq_append_getElem (by rw [wac];exact hk')]
     simp [qbc]
    have e3:min (8*(qac (jP n) - 1 - k)) 64=8*(qac (jP n) - 1 - k):=by omega
    rw [e1,htl,Int.toNat_natCast,e3,Int.fdiv_eq_ediv_of_nonneg _ (Int.le_of_lt (Int.pow_pos (by decide)))]
    refine⟨hfn,by omega,by omega,⟨k+1,hk'⟩,by dsimp only;omega,⟨?_,i64_in _ (by omega)⟩,by rw [e2]⟩
    rw [e2,List.length_append,htl];rfl
   ·have hk':k=qac (jP n):=by omega
    have e2:(qbc n).take k=qbc n:=List.take_of_length_le (by rw [wac];omega)
    have e3:=jaO hi'
    rw [hn]at e3
    refine⟨⟨i+1,hi'⟩,by dsimp only;omega,⟨?_,i64_in _ (by omega)⟩,by rw [e2,e3]⟩
    dsimp only
    rw [e3,List.length_append,List.length_cons,e2]
@[go_sem] def ydb (l:List Nat):Prop:=(l.length≤1000000)
def x8:List D→Option (Prop×D×Fr)
 |[.c (.sl z3)]=>some (z3=qo (wk z3)∧ydb (wk z3),qcj (wk z3),[])
 |_=>none
attribute [go_sem] x8
theorem k8:ga 61 x8:=by
 intro rs p r fr h hp
 unfold x8 at h
 split at h<;>cases h
 obtain⟨hc0,hp⟩:=hp
 rename_i z3
 have:=zcs (wk z3) hp
 rw [←hc0]at this
 exact this
end Dm
namespace Dm
open Go Go.Proofs Go.IntWalk
structure Tm where
 key:Nat
 up:Int
 text:List UInt8
deriving DecidableEq,Inhabited
@[go_sem] def Tm.enc (e:Tm):List C:=[.int .u64 (e.key:Int), .int .i64 e.up, .sl (u8s e.text)]
def Tm.dec:List C→Tm
 |[.int .u64 z2, .int .i64 z3, .sl z4]=>(⟨z2.toNat,z3,(vf z4)⟩:Tm)
 |_=>default
def tms (l:List Tm):List (List C):=l.map Tm.enc
def qb (l:List (List C)):List Tm:=l.map Tm.dec
@[simp,go_sem] theorem zc6 (l:List Tm):(tms l).length=l.length:=by simp [tms]
@[go_sem] theorem qeS (l:List Tm) (i:Nat):(tms l).getD i [.int .u64 0, .int .i64 0, .sl []]=(l.getD i default).enc:=by
 simp only [tms,List.getD_eq_getElem?_getD,List.getElem?_map]
 cases l[i]? <;>rfl
@[go_sem] theorem gd0 (l:List Tm):bf 3 (tms l)=True:=by
 simp [bf,tms,Tm.enc]
theorem Tm.jc (e:Tm):Tm.dec e.enc=e:=by
 simp [Tm.enc,Tm.dec,jr]
@[go_sem] theorem qS (l:List Tm):qb (tms l)=l:=by
 simp only [qb,tms,List.map_map]
 exact List.map_id'' (fun e=>Tm.jc e) l
@[go_sem] theorem xeS (a b:List Tm):tms a++tms b=tms (a++b):=by simp [tms]
@[go_sem] theorem wd0 (l:List Tm) (k:Nat):(tms l).drop k=tms (l.drop k):=by simp [tms]
@[go_sem] theorem ud0 (l:List Tm) (k:Nat):(tms l).take k=tms (l.take k):=by simp [tms]
@[go_sem] theorem jeS (z5:Int) (z6:Int) (z7:List UInt8) (hz5:0≤z5):[[C.int .u64 z5,C.int .i64 z6,C.sl (u8s z7)]]=tms [⟨z5.toNat,z6,z7⟩]:=by simp [tms,Tm.enc,Int.toNat_of_nonneg hz5]
@[go_sem] theorem keS (l:List Tm) (i:Nat) (z5:Int) (z6:Int) (z7:List UInt8) (hz5:0≤z5):(tms l).set i [C.int .u64 z5,C.int .i64 z6,C.sl (u8s z7)]=tms (l.set i ⟨z5.toNat,z6,z7⟩):=by simp [tms,List.map_set,Tm.enc,Int.toNat_of_nonneg hz5]
@[go_sem] theorem vd0 (l:List Tm) (z5:Int) (z6:Int) (z7:List UInt8) (hz5:0≤z5):[C.int .u64 z5,C.int .i64 z6,C.sl (u8s z7)]::tms l=tms (⟨z5.toNat,z6,z7⟩::l):=by simp [tms,Tm.enc,Int.toNat_of_nonneg hz5]
@[go_sem] theorem Tm.eta {e:Tm}:(⟨e.key,e.up,e.text⟩:Tm)=e:=rfl
structure Ar where
 l:List Tm
deriving DecidableEq,Inhabited
@[go_sem] def Ar.enc (e:Ar):List C:=[.sl (tms e.l)]
def Ar.dec:List C→Ar
 |[.sl z9]=>(⟨(qb z9)⟩:Ar)
 |_=>default
def ars (l:List Ar):List (List C):=l.map Ar.enc
def je5 (l:List (List C)):List Ar:=l.map Ar.dec
@[simp,go_sem] theorem ycS (l:List Ar):(ars l).length=l.length:=by simp [ars]
@[go_sem] theorem xep (l:List Ar) (i:Nat):(ars l).getD i [.sl []]=(l.getD i default).enc:=by
 simp only [ars,List.getD_eq_getElem?_getD,List.getElem?_map]
 cases l[i]? <;>rfl
@[go_sem] theorem gdD (l:List Ar):bf 1 (ars l)=True:=by
 simp [bf,ars,Ar.enc]
theorem Ar.jc (e:Ar):Ar.dec e.enc=e:=by
 simp [Ar.enc,Ar.dec,qS]
@[go_sem] theorem kdH (l:List Ar):je5 (ars l)=l:=by
 simp only [je5,ars,List.map_map]
 exact List.map_id'' (fun e=>Ar.jc e) l
@[go_sem] theorem yep (a b:List Ar):ars a++ars b=ars (a++b):=by simp [ars]
@[go_sem] theorem wdD (l:List Ar) (k:Nat):(ars l).drop k=ars (l.drop k):=by simp [ars]
@[go_sem] theorem udD (l:List Ar) (k:Nat):(ars l).take k=ars (l.take k):=by simp [ars]
@[go_sem] theorem qep (z10:List Tm):[[C.sl (tms z10)]]=ars [⟨z10⟩]:=by simp [ars,Ar.enc]
@[go_sem] theorem jep (l:List Ar) (i:Nat) (z10:List Tm):(ars l).set i [C.sl (tms z10)]=ars (l.set i ⟨z10⟩):=by simp [ars,List.map_set,Ar.enc]
@[go_sem] theorem vdD (l:List Ar) (z10:List Tm):[C.sl (tms z10)]::ars l=ars (⟨z10⟩::l):=by simp [ars,Ar.enc]
@[go_sem] theorem Ar.eta {e:Ar}:(⟨e.l⟩:Ar)=e:=rfl
@[go_sem] def zda (a:List UInt8) (b:List UInt8):D:= .bool (decide (a=b))
@[go_sem] abbrev bfx:FuncId:=239
@[go_sem] def gep:Tab:=[]
theorem ubZ:za Tryz.prog gep:=za.nil
theorem bc9 (a:List UInt8) (b:List UInt8):ja Tryz.prog 239 [.sl (u8s a), .sl (u8s b)] (zda a b):=by
 refine .of (xel ubZ (Nat.le_of_ble_eq_true rfl) ?_)
 simp -implicitDefEqProofs only [cdA,go_sem,Go.Proofs.Tryz.f239,simprocAttr, -Int.reduceEq,List.cons.injEq,cdB]
def yaT:List D→Option (Prop×D×Fr)
 |[.c (.sl z11), .c (.sl z12)]=>some (z11=u8s (vf z11)∧z12=u8s (vf z12),zda (vf z11) (vf z12),[])
 |_=>none
attribute [go_sem] yaT
theorem xaT:ga 239 yaT:=by
 intro rs p r fr h hp
 unfold yaT at h
 split at h<;>cases h
 obtain⟨hc0,hc1⟩:=hp
 rename_i z11 z12
 have:=bc9 (vf z11) (vf z12)
 rw [←hc0,←hc1]at this
 exact this
def nmT (t:Tm):NK:=(t.key,t.up,t.text)
@[go_sem] def yc9 (t:Tm):D:= .agg [.int .u64 t.key, .int .i64 t.up, .c (.str (jaH t.text))]
@[go_sem] abbrev gfx:FuncId:=200
@[go_sem] def ken:Tab:=[]
theorem zbZ:za Tryz.prog ken:=za.nil
theorem zc9 (t:Tm):ja Tryz.prog 200 [.agg [.c (.int .u64 (t.key:Int)), .c (.int .i64 t.up), .sl (u8s t.text)]] (yc9 t):=by
 refine .of (beh zbZ (Nat.le_of_ble_eq_true rfl) ?_)
 simp -implicitDefEqProofs only [cdA,go_sem,Go.Proofs.Tryz.f200,simprocAttr, -Int.reduceEq,List.cons.injEq,cdB]
def baS:List D→Option (Prop×D×Fr)
 |[.agg [.c (.int .u64 z14), .c (.int .i64 z15), .c (.sl z16)]]=>some (z14=(z14.toNat:Int)∧z16=u8s (vf z16),yc9 (⟨z14.toNat,z15,(vf z16)⟩:Tm),[])
 |_=>none
attribute [go_sem] baS
theorem zaT:ga 200 baS:=by
 intro rs p r fr h hp
 unfold baS at h
 split at h<;>cases h
 obtain⟨hc0,hc1⟩:=hp
 rename_i z14 z15 z16
 have:=zc9 ⟨z14.toNat,z15,(vf z16)⟩
 rw [←hc0,←hc1]at this
 exact this
def bkO:Nat→List Tm→List (NK×Int)
 |_,[]=>[]
 |o,t::l=>(nmT t,(o:Int))::bkO (o+1) l
def bkA (l:List Tm):List (NK×Int):=bkO 0 l
theorem zbC:∀{l:List Tm} {o:Nat} {t:Tm},bkO o (l++[t])=bkO o l++[(nmT t,((o+l.length:Nat):Int))]
 |[],o,t=>rfl
 |x::l,o,t=>by
  rw [List.cons_append,bkO,bkO,zbC,List.length_cons,List.cons_append,show o+1+l.length=o+(l.length+1) by omega]
theorem kbc:∀{l:List Tm} {o:Nat} {k:NK},alk k (bkO o l)=none↔k∉l.map nmT
 |[],o,k=>by simp [bkO,alk]
 |x::l,o,k=>by
  rw [bkO,alk,List.map_cons,List.mem_cons]
  by_cases h:nmT x=k
  ·rw [if_pos h];simp [h]
  ·rw [if_neg h,kbc]
   constructor
   ·rintro h1 (h2|h2)
    ·exact h h2.symm
    ·exact h1 h2
   ·exact fun h1 h2=>h1 (.inr h2)
theorem xbC:∀{l:List Tm} {o:Nat} {k:NK} {v:Int},k∉l.map nmT→xbA k v (bkO o l)=bkO o l++[(k,v)]
 |[],o,k,v,_=>rfl
 |x::l,o,k,v,h=>by
  rw [List.map_cons,List.mem_cons,not_or]at h
  rw [bkO,xbA,if_neg (fun e=>h.1 e.symm),xbC h.2];rfl
def bbg (i:Nat) (t:Tm):Prop:= -1≤t.up∧t.up<i∧(-1<t.up→t.key=0)∧t.text.length≤4096
instance (i:Nat) (t:Tm):Decidable (bbg i t):=by unfold bbg;infer_instance
def kH (l:List Tm):Prop:=l.length≤1048576∧(l.map nmT).Nodup∧∀i∈List.range l.length,bbg i (l.getD i default)
instance (l:List Tm):Decidable (kH l):=by unfold kH;infer_instance
def zn (l:List Tm):List (NK×Int)×Int:=if kH l then(bkA l,0)else([],1)
@[go_sem] def kbB (a:Ar):D:= .tup [.c (.map nkt (bcA (zn a.l).1)), .int .i64 (zn a.l).2]
@[go_sem] abbrev xeJ:FuncId:=118
@[go_sem] def wcr:Tab:=[(200,baS)]
theorem qas:za Tryz.prog wcr:=(za.cons zaT za.nil)
theorem qbZ (a:Ar):ja Tryz.prog 118 [.agg [.sl (tms a.l)]] (kbB a):=by
 refine .of (xeb qas (Nat.le_of_ble_eq_true rfl) ?_)
 simp -implicitDefEqProofs only [cdA,go_sem,Go.Proofs.Tryz.f118,simprocAttr, -Int.reduceEq,List.cons.injEq,cdB]
 have hbad:¬kH a.l→bcA (zn a.l).1=[]∧1=(zn a.l).2:=fun h=>by rw [zn,if_neg h];exact⟨rfl,rfl⟩
 generalize ha:a.l=l at*
 refine fun _=>⟨fun h1=>hbad fun h=>by have:=h.1;omega,fun h1 _=> ?_⟩
 refine SWp.loop (ι:={i:Nat // i≤l.length∧((l.take i).map nmT).Nodup∧∀j,j<i→bbg j (l.getD j default)}) (fun i=>⟨[(4, .mp 1),(15, .sl (tms l)),(16, .int .i64 l.length),(17, .int .i64 i.1)],[(1, .map [.int .u64, .int .i64, .str] (kvM (bkA (l.take i.1)))),(0, .box [.sl (tms l)])],2⟩) (fun i=>l.length - i.1) ⟨0,by simp,by simp,by simp⟩ ?_ ?_
 ·simp [go_sem,bkA,bkO,kvM]
 ·rintro⟨i,hi,hnd,hall⟩
  refine ya qas.toS ydh _ _ _ rfl ?_
  simp -implicitDefEqProofs only [cdA,go_sem,simprocAttr, -Int.reduceEq,List.cons.injEq,cdB]
  refine⟨fun h2=> ?_,fun h2=> ?_⟩
  rotate_left 1
  ·have hi':i=l.length:=by omega
   subst hi'
   rw [List.take_length]at hnd⊢
   have hr:zn l=(bkA l,0):=by rw [zn,if_pos ⟨by omega,hnd,fun j hj=>hall j (List.mem_range.1 hj)⟩]
   rw [hr]
   exact⟨⟨_,_,rfl,gbI,List.Perm.refl _⟩,rfl⟩
  have hi':i<l.length:=by omega
  have htk:=take_succ hi'
  have hin:kH l→bbg i (l.getD i default):=fun h=>h.2.2 i (List.mem_range.2 hi')
  have hstep:nmT (l.getD i default)∉(l.take i).map nmT→bbg i (l.getD i default)→∃i_1:{i:Nat // i≤l.length∧((l.take i).map nmT).Nodup∧∀j,j<i→bbg j (l.getD j default)},l.length - i_1.1<l.length - i∧IntKind.i64.wrap ((i:Int)+1)=i_1.1∧kvM (xbA (nmT (l.getD i default)) (i:Int) (bkA (l.take i)))=kvM (bkA (l.take i_1.1)):=fun hnot hok=>by
   refine⟨⟨i+1,hi', ?_,fun j hj=> ?_⟩,by dsimp only;omega,i64_in _ (by omega), ?_⟩
   ·rw [htk,List.map_append,List.nodup_append]
    refine⟨hnd,by simp,fun x hx y hy=> ?_⟩
    simp at hy
    rintro rfl
    exact hnot (hy▸hx)
   ·by_cases hji:j=i
    ·subst hji;exact hok
    ·exact hall j (by omega)
   ·dsimp only
    rw [htk,bkA,bkA,zbC,xbC hnot,List.length_take,Nat.min_eq_left hi,Nat.zero_add]
  have hdup:∀a:Int,alk (nmT (l.getD i default)) (bkA (l.take i))=some a→¬kH l:=fun a ha ho=>by
   have h3:nmT (l.getD i default)∈(l.take i).map nmT:=by
    refine Classical.byContradiction fun h=> ?_
    rw [bkA,kbc.2 h]at ha;cases ha
   have h4:((l.take (i+1)).map nmT).Nodup:=((List.take_prefix _ _).map _).sublist.nodup ho.2.1
   rw [htk,List.map_append,List.nodup_append]at h4
   exact h4.2.2 _ h3 _ (by simp) rfl
  have hnon:alk (nmT (l.getD i default)) (bkA (l.take i))=none→nmT (l.getD i default)∉(l.take i).map nmT:=fun h=>kbc.1 h
  change∀a:Int,alk ((l.getD i default).key,(l.getD i default).up,(l.getD i default).text) (bkA (l.take i))=some a→¬kH l at hdup
  change alk ((l.getD i default).key,(l.getD i default).up,(l.getD i default).text) (bkA (l.take i))=none→nmT (l.getD i default)∉(l.take i).map nmT at hnon
  change _→_→∃i_1:{i:Nat // i≤l.length∧((l.take i).map nmT).Nodup∧∀j,j<i→bbg j (l.getD j default)},l.length - i_1.1<l.length - i∧IntKind.i64.wrap ((i:Int)+1)=i_1.1∧kvM (xbA ((l.getD i default).key,(l.getD i default).up,(l.getD i default).text) (i:Int) (bkA (l.take i)))=kvM (bkA (l.take i_1.1))at hstep
  generalize l.getD i default=t at*
  refine⟨h2,fun a ha=>hbad (hdup a ha),fun hno=>⟨fun h3=>⟨fun h4=>⟨fun h5=>⟨fun h6 _=>⟨fun h7=>hbad fun ho=> ?_,fun h7=>hstep (hnon hno) ⟨by omega,by omega,fun _=>by omega,by omega⟩⟩,fun h6=>hbad fun ho=> ?_⟩,fun h5 _=>⟨fun h7=>hbad fun ho=> ?_,fun h7=>hstep (hnon hno) ⟨by omega,by omega,fun h=>absurd h h5,by omega⟩⟩⟩,fun h4=>hbad fun ho=> ?_⟩,fun h3=>hbad fun ho=> ?_⟩⟩
  ·have:=(hin ho).2.2.2;omega
  ·have:=(hin ho).2.2.1 h5;omega
  ·have:=(hin ho).2.2.2;omega
  ·have:=(hin ho).2.1;omega
  ·have:=(hin ho).1;omega
def jM:List D→Option (Prop×D×Fr)
 |[.agg [.c (.sl z18)]]=>some (z18=tms (qb z18),kbB (⟨(qb z18)⟩:Ar),[])
 |_=>none
attribute [go_sem] jM
theorem jR:ga 118 jM:=by
 intro rs p r fr h hp
 unfold jM at h
 split at h<;>cases h
 have hc0:=hp
 rename_i z18
 have:=qbZ ⟨(qb z18)⟩
 rw [←hc0]at this
 exact this
def ym (l:List Tm):Int:=(zn l).2
@[go_sem] def uaI (a:Ar):D:= .int .i64 (ym a.l)
@[go_sem] abbrev jdm:FuncId:=54
@[go_sem] def jbB:Tab:=[(118,jM)]
theorem waI:za Tryz.prog jbB:=(za.cons jR za.nil)
theorem jbm (a:Ar):ja Tryz.prog 54 [.agg [.sl (tms a.l)]] (uaI a):=by
 refine .of (bfm waI (Nat.le_of_ble_eq_true rfl) ?_)
 simp -implicitDefEqProofs only [cdA,go_sem,Go.Proofs.Tryz.f54,simprocAttr, -Int.reduceEq,List.cons.injEq,cdB]
 rfl
def jt:List D→Option (Prop×D×Fr)
 |[.agg [.c (.sl z20)]]=>some (z20=tms (qb z20),uaI (⟨(qb z20)⟩:Ar),[])
 |_=>none
attribute [go_sem] jt
theorem wD:ga 54 jt:=by
 intro rs p r fr h hp
 unfold jt at h
 split at h<;>cases h
 have hc0:=hp
 rename_i z20
 have:=jbm ⟨(qb z20)⟩
 rw [←hc0]at this
 exact this
end Dm
namespace Dm
open Go Go.Proofs Go.IntWalk
@[go_sem] def baX (l:List UInt8):D:= .sl (u8s l)
@[go_sem] abbrev wdp:FuncId:=137
@[go_sem] def qbW:Tab:=[]
theorem gaX:za Tryz.prog qbW:=za.nil
theorem wbz (l:List UInt8) (h:l.length≤1000000):ja Tryz.prog 137 [.sl (u8s l)] (baX l):=by
 refine .of (gec gaX (Nat.le_of_ble_eq_true rfl) ?_)
 simp -implicitDefEqProofs only [cdA,go_sem,Go.Proofs.Tryz.f137,simprocAttr, -Int.reduceEq,List.cons.injEq,cdB]
 exact fun b hb=>⟨hb,fun _=>⟨by omega,_,_,_,rfl⟩⟩
@[go_sem] def jbW (l:List UInt8):Prop:=(l.length≤1000000)
def xB:List D→Option (Prop×D×Fr)
 |[.c (.sl z1)]=>some (z1=u8s (vf z1)∧jbW (vf z1),baX (vf z1),[])
 |_=>none
attribute [go_sem] xB
theorem gY:ga 137 xB:=by
 intro rs p r fr h hp
 unfold xB at h
 split at h<;>cases h
 obtain⟨hc0,hp⟩:=hp
 rename_i z1
 have:=wbz (vf z1) hp
 rw [←hc0]at this
 exact this
@[go_sem] def qaX (l:List Tm):D:= .vec 0 l.length
@[go_sem] def jaz (l:List Tm):Fr:=[(3,83,true,tms l)]
@[go_sem] abbrev kdp:FuncId:=133
@[go_sem] def wbV:Tab:=[]
theorem xaX:za Tryz.prog wbV:=za.nil
theorem kbz (l:List Tm) (hl:l.length≤2000000):zf Tryz.prog 133 [.sl (tms l)] (qaX l) (jaz l):=by
 refine .of (jec xaX (Nat.le_of_ble_eq_true rfl) ?_)
 simp -implicitDefEqProofs only [cdA,go_sem,Go.Proofs.Tryz.f133,simprocAttr, -Int.reduceEq,List.cons.injEq,cdB]
 refine fun b hb=>⟨fun h=> ?_,fun h=> ?_⟩
 ·exact⟨[none],by simp [go_sem,hb h],by cases l<;>simp_all [go_sem,tms]⟩
 ·exact⟨by omega,[some 0],by simp [go_sem]⟩
@[go_sem] def ubV (l:List Tm):Prop:=(l.length≤2000000)
def yB:List D→Option (Prop×D×Fr)
 |[.c (.sl z2)]=>some (z2=tms (qb z2)∧ubV (qb z2),qaX (qb z2),jaz (qb z2))
 |_=>none
attribute [go_sem] yB
theorem wY:ga 133 yB:=by
 intro rs p r fr h hp
 unfold yB at h
 split at h<;>cases h
 obtain⟨hc0,hp⟩:=hp
 rename_i z2
 have:=kbz (qb z2) hp
 rw [←hc0]at this
 exact And.intro rfl this
@[go_sem] def ybl (l:List Tm):D:= .csl (tms l)
@[go_sem] abbrev ydU:FuncId:=201
@[go_sem] def wcg:Tab:=[]
theorem kbb:za Tryz.prog wcg:=za.nil
theorem vbV (l:List Tm):ja Tryz.prog 201 [.sl (tms l)] (ybl l):=by
 refine .of (zei kbb (Nat.le_of_ble_eq_true rfl) ?_)
 simp -implicitDefEqProofs only [cdA,go_sem,Go.Proofs.Tryz.f201,simprocAttr, -Int.reduceEq,List.cons.injEq,cdB]
 exact fun _ _=>⟨Int.le_refl _,by rw [List.take_length]⟩
def vY:List D→Option (Prop×D×Fr)
 |[.c (.sl z3)]=>some (z3=tms (qb z3),ybl (qb z3),[])
 |_=>none
attribute [go_sem] vY
theorem qaW:ga 201 vY:=by
 intro rs p r fr h hp
 unfold vY at h
 split at h<;>cases h
 have hc0:=hp
 rename_i z3
 have:=vbV (qb z3)
 rw [←hc0]at this
 exact this
def bh (l:List Tm) (t:Tm):List Tm×Int×Int:=
 if¬kH l∨(l.length:Int)≤t.up then([],0,1)else if 4096<t.text.length then([],0,4)else
 match alk (nmT t) (bkA l)with
 |some i=>(l,i,0)
 |none=>if l.length=1048576 then([],0,7)else(l++[t],l.length,0)
@[go_sem] def ycj (a:Ar) (t:Tm):D:= .tup [.agg [.sl (tms (bh a.l t).1)], .int .i64 (bh a.l t).2.1, .int .i64 (bh a.l t).2.2]
@[go_sem] abbrev kfb:FuncId:=119
@[go_sem] def vc9:Tab:=[(118,jM),(200,baS),(137,xB),(133,yB),(201,vY)]
theorem xz:za Tryz.prog vc9:=(za.cons jR (za.cons zaT (za.cons gY (za.cons wY (za.cons qaW za.nil)))))
theorem vcr (a:Ar) (t:Tm):ja Tryz.prog 119 [.agg [.sl (tms a.l)], .agg [.c (.int .u64 (t.key:Int)), .c (.int .i64 t.up), .sl (u8s t.text)]] (ycj a t):=by
 refine .of (qeb xz (Nat.le_of_ble_eq_true rfl) ?_)
 simp -implicitDefEqProofs only [cdA,go_sem,Go.Proofs.Tryz.f119,simprocAttr, -Int.reduceEq,List.cons.injEq,cdB]
 have hbad:∀e:Int,bh a.l t=([],0,e)→tms (bh a.l t).1=[]∧0=(bh a.l t).2.1∧e=(bh a.l t).2.2:=fun e h=>by rw [h];exact⟨rfl,rfl,rfl⟩
 have hrz:(zn a.l).2=0↔kH a.l:=by unfold zn;split<;>rename_i h<;>simp only [h]<;>decide
 refine⟨fun h0 _=> ?_,fun h0=>hbad 1 (by rw [bh,if_pos (.inl fun h=>h0 (hrz.2 h))])⟩
 have hok:=hrz.1 h0
 have hra:(zn a.l).1=bkA a.l:=by rw [zn,if_pos hok]
 rw [hra]
 have hl:=hok.1
 have htx:∀x∈a.l,x.text.length≤4096:=fun x hx=>by
  obtain⟨j,hj,rfl⟩:=va.1 hx
  exact(hok.2.2 j (List.mem_range.2 hj)).2.2.2
 refine⟨fun h1=>hbad 1 (by rw [bh,if_pos (.inr h1)]),fun h1 _=>⟨fun h2=>hbad 4 (by rw [bh,if_neg (by rintro(h|h);exact h hok;exact h1 h),if_pos (by omega)]),fun h2=> ?_⟩⟩
 have hput:bh a.l t=match alk (nmT t) (bkA a.l)with|some i=>(a.l,i,0)|none=>if a.l.length=1048576 then([],0,7)else(a.l++[t],a.l.length,0):=by
  rw [bh,if_neg (by rintro(h|h);exact h hok;exact h1 h),if_neg (by omega)]
 refine⟨fun i hi=>⟨by omega,fun _=> ?_⟩,fun hi _=>⟨fun h3=>hbad 7 ?_,fun h3=> ?_⟩⟩
 rotate_left 1
 ·rw [hput,show alk (nmT t) (bkA a.l)=none from hi];exact if_pos (by omega)
 ·refine xb.run zch xz qa (by kernel_rfl) (by kernel_rfl) ?_
  simp -implicitDefEqProofs only [cdA,go_sem,simprocAttr, -Int.reduceEq,List.cons.injEq,cdB]
  refine⟨⟨by simp [tms],by omega⟩,by omega,fun _=> ?_⟩
  have hm:∀x∈a.l++[t],x.text.length≤4096:=fun x hx=>by
   rcases List.mem_append.1 hx with hx|hx
   ·exact htx x hx
   ·simp at hx;subst hx;omega
  have hfin:bh a.l t=(a.l++[t],(a.l.length:Int),0):=by rw [hput,show alk (nmT t) (bkA a.l)=none from hi];exact if_neg (by omega)
  rw [hfin]
  have hlen:(a.l++[t]).length=a.l.length+1:=by simp
  generalize a.l++[t]=m at*
  refine SWp.loop (ι:={k:Nat // k≤m.length}) (fun k=>⟨[(2, .ref 0 0),(4, .ref 2 0),(9, .int .i64 (a.l.length:Int)),(63, .vec 5 m.length),(64, .int .i64 m.length),(65, .int .i64 k.1)],[(5, .vec true 3 83 (tms m)),(0, .box [.vec 5 m.length]),(2, .box [.nil])],6⟩) (fun k=>m.length - k.1) ⟨0,by simp⟩ ?_ ?_
  ·simp [go_sem,hlen]
  ·rintro⟨k,hk⟩
   refine ya xz.toS bcB _ _ _ rfl ?_
   simp -implicitDefEqProofs only [cdA,go_sem,simprocAttr, -Int.reduceEq,List.cons.injEq,cdB]
   refine⟨fun h5=>⟨h5,by omega, ?_⟩,fun h5=> ?_⟩
   ·refine xb.run vbl xz qa (by kernel_rfl) (by kernel_rfl) ?_
    simp -implicitDefEqProofs only [cdA,go_sem,simprocAttr, -Int.reduceEq,List.cons.injEq,cdB]
    have hk':k<m.length:=by omega
    have hself:m.set k (m.getD k default)=m:=by rw [xe hk'];exact List.set_getElem_self hk'
    exact⟨Nat.le_trans (hm _ (va.2 ⟨k,hk',rfl⟩)) (by decide),h5,hk',⟨k+1,hk'⟩,by dsimp only;omega,i64_in _ (by omega),by rw [hself]⟩
   ·exact⟨_,_,_,rfl⟩
 ·have hfin:bh a.l t=(a.l,i,0):=by rw [hput,show alk (nmT t) (bkA a.l)=some i from hi]
  rw [hfin]
  refine SWp.loop (ι:={k:Nat // k≤a.l.length}) (fun k=>⟨[(2, .ref 0 0),(4, .ref 2 0),(9, .int .i64 i),(63, .vec 3 a.l.length),(64, .int .i64 a.l.length),(65, .int .i64 k.1)],[(3, .vec true 3 83 (tms a.l)),(0, .box [.vec 3 a.l.length]),(2, .box [.nil])],4⟩) (fun k=>a.l.length - k.1) ⟨0,by simp⟩ ?_ ?_
  ·simp [go_sem]
  ·rintro⟨k,hk⟩
   refine ya xz.toS bcB _ _ _ rfl ?_
   simp -implicitDefEqProofs only [cdA,go_sem,simprocAttr, -Int.reduceEq,List.cons.injEq,cdB]
   refine⟨fun h5=>⟨h5,by omega, ?_⟩,fun h5=> ?_⟩
   ·refine xb.run vbl xz qa (by kernel_rfl) (by kernel_rfl) ?_
    simp -implicitDefEqProofs only [cdA,go_sem,simprocAttr, -Int.reduceEq,List.cons.injEq,cdB]
    have hk':k<a.l.length:=by omega
    have hself:a.l.set k (a.l.getD k default)=a.l:=by rw [xe hk'];exact List.set_getElem_self hk'
    exact⟨Nat.le_trans (htx _ (va.2 ⟨k,hk',rfl⟩)) (by decide),h5,hk',⟨k+1,hk'⟩,by dsimp only;omega,i64_in _ (by omega),by rw [hself]⟩
   ·exact⟨_,_,_,rfl⟩
def wam:List D→Option (Prop×D×Fr)
 |[.agg [.c (.sl z5)], .agg [.c (.int .u64 z7), .c (.int .i64 z8), .c (.sl z9)]]=>some (z5=tms (qb z5)∧z7=(z7.toNat:Int)∧z9=u8s (vf z9),ycj (⟨(qb z5)⟩:Ar) (⟨z7.toNat,z8,(vf z9)⟩:Tm),[])
 |_=>none
attribute [go_sem] wam
theorem vay:ga 119 wam:=by
 intro rs p r fr h hp
 unfold wam at h
 split at h<;>cases h
 obtain⟨hc0,hc1,hc2⟩:=hp
 rename_i z5 z7 z8 z9
 have:=vcr ⟨(qb z5)⟩ ⟨z7.toNat,z8,(vf z9)⟩
 rw [←hc0,←hc1,←hc2]at this
 exact this
def yap (l:List Tm) (tag:Int) (text:List UInt8):List Tm×Int×Int:=if tag<0 then([],0,1)else bh l ⟨0,tag,text⟩
@[go_sem] def vbB (a:Ar) (key:Nat) (text:List UInt8):D:= .tup [.agg [.sl (tms (bh a.l ⟨key, -1,text⟩).1)], .int .i64 (bh a.l ⟨key, -1,text⟩).2.1, .int .i64 (bh a.l ⟨key, -1,text⟩).2.2]
@[go_sem] abbrev qeJ:FuncId:=60
@[go_sem] def ucr:Tab:=[(119,wam)]
theorem kbm:za Tryz.prog ucr:=(za.cons vay za.nil)
theorem jbZ (a:Ar) (key:Nat) (text:List UInt8):ja Tryz.prog 60 [.agg [.sl (tms a.l)], .c (.int .u64 (key:Int)), .sl (u8s text)] (vbB a key text):=by
 refine .of (kfn kbm (Nat.le_of_ble_eq_true rfl) ?_)
 simp -implicitDefEqProofs only [cdA,go_sem,Go.Proofs.Tryz.f60,simprocAttr, -Int.reduceEq,List.cons.injEq,cdB]
def wad:List D→Option (Prop×D×Fr)
 |[.agg [.c (.sl z11)], .c (.int .u64 z12), .c (.sl z13)]=>some (z11=tms (qb z11)∧z12=(z12.toNat:Int)∧z13=u8s (vf z13),vbB (⟨(qb z11)⟩:Ar) z12.toNat (vf z13),[])
 |_=>none
attribute [go_sem] wad
theorem ka7:ga 60 wad:=by
 intro rs p r fr h hp
 unfold wad at h
 split at h<;>cases h
 obtain⟨hc0,hc1,hc2⟩:=hp
 rename_i z11 z12 z13
 have:=jbZ ⟨(qb z11)⟩ z12.toNat (vf z13)
 rw [←hc0,←hc1,←hc2]at this
 exact this
@[go_sem] def bbA (a:Ar) (tag:Int) (text:List UInt8):D:= .tup [.agg [.sl (tms (yap a.l tag text).1)], .int .i64 (yap a.l tag text).2.1, .int .i64 (yap a.l tag text).2.2]
@[go_sem] abbrev yeJ:FuncId:=55
@[go_sem] def qcr:Tab:=[(119,wam)]
theorem ybm:za Tryz.prog qcr:=(za.cons vay za.nil)
theorem bbY (a:Ar) (tag:Int) (text:List UInt8):ja Tryz.prog 55 [.agg [.sl (tms a.l)], .c (.int .i64 tag), .sl (u8s text)] (bbA a tag text):=by
 refine .of (zfn ybm (Nat.le_of_ble_eq_true rfl) ?_)
 simp -implicitDefEqProofs only [cdA,go_sem,Go.Proofs.Tryz.f55,simprocAttr, -Int.reduceEq,List.cons.injEq,cdB]
 unfold yap
 refine⟨fun h=> ?_,fun h=> ?_⟩
 ·rw [if_pos h];exact⟨rfl,rfl,rfl⟩
 ·rw [if_neg h];exact⟨rfl,rfl,rfl⟩
def vad:List D→Option (Prop×D×Fr)
 |[.agg [.c (.sl z15)], .c (.int .i64 z16), .c (.sl z17)]=>some (z15=tms (qb z15)∧z17=u8s (vf z17),bbA (⟨(qb z15)⟩:Ar) z16 (vf z17),[])
 |_=>none
attribute [go_sem] vad
theorem ja7:ga 55 vad:=by
 intro rs p r fr h hp
 unfold vad at h
 split at h<;>cases h
 obtain⟨hc0,hc1⟩:=hp
 rename_i z15 z16 z17
 have:=bbY ⟨(qb z15)⟩ z16 (vf z17)
 rw [←hc0,←hc1]at this
 exact this
end Dm
