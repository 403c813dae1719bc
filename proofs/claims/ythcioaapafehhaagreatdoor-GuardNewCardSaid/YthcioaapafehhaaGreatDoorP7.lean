import Derived.Test.YthcioaapafehhaaGreatDoorP6

set_option linter.unusedSimpArgs false
set_option linter.unusedVariables false
set_option linter.unusedSectionVars false
namespace Dm
open Go Go.Proofs Go.IntWalk
structure Py where
 id:Nat
 hash:Nat
 chan:Nat
 n:Nat
 state:Int
deriving DecidableEq,Inhabited
@[go_sem] def Py.enc (e:Py):List C:=[.int .u64 (e.id:Int), .int .u64 (e.hash:Int), .int .u64 (e.chan:Int), .int .u64 (e.n:Int), .int .i64 e.state]
def Py.dec:List C→Py
 |[.int .u64 z109, .int .u64 z110, .int .u64 z111, .int .u64 z112, .int .i64 z113]=>(⟨z109.toNat,z110.toNat,z111.toNat,z112.toNat,z113⟩:Py)
 |_=>default
def pys (l:List Py):List (List C):=l.map Py.enc
def ji (l:List (List C)):List Py:=l.map Py.dec
@[simp,go_sem] theorem gcs (l:List Py):(pys l).length=l.length:=by simp [pys]
@[go_sem] theorem xdW (l:List Py) (i:Nat):(pys l).getD i [.int .u64 0, .int .u64 0, .int .u64 0, .int .u64 0, .int .i64 0]=(l.getD i default).enc:=by
 simp only [pys,List.getD_eq_getElem?_getD,List.getElem?_map]
 cases l[i]? <;>rfl
@[go_sem] theorem udh (l:List Py):uf 5 (pys l)=True:=by
 simp [uf,pys,Py.enc]
theorem Py.yd (e:Py):Py.dec e.enc=e:=by
 simp [Py.enc,Py.dec]
@[go_sem] theorem jb (l:List Py):ji (pys l)=l:=by
 simp only [ji,pys,List.map_map]
 exact List.map_id'' (fun e=>Py.yd e) l
@[go_sem] theorem ydW (a b:List Py):pys a++pys b=pys (a++b):=by simp [pys]
@[go_sem] theorem kdh (l:List Py) (k:Nat):(pys l).drop k=pys (l.drop k):=by simp [pys]
@[go_sem] theorem wdh (l:List Py) (k:Nat):(pys l).take k=pys (l.take k):=by simp [pys]
@[go_sem] theorem qdW (z114:Int) (z115:Int) (z116:Int) (z117:Int) (z118:Int) (hz114:0≤z114) (hz115:0≤z115) (hz116:0≤z116) (hz117:0≤z117):[[C.int .u64 z114,C.int .u64 z115,C.int .u64 z116,C.int .u64 z117,C.int .i64 z118]]=pys [⟨z114.toNat,z115.toNat,z116.toNat,z117.toNat,z118⟩]:=by simp [pys,Py.enc,Int.toNat_of_nonneg hz114,Int.toNat_of_nonneg hz115,Int.toNat_of_nonneg hz116,Int.toNat_of_nonneg hz117]
@[go_sem] theorem jdW (l:List Py) (i:Nat) (z114:Int) (z115:Int) (z116:Int) (z117:Int) (z118:Int) (hz114:0≤z114) (hz115:0≤z115) (hz116:0≤z116) (hz117:0≤z117):(pys l).set i [C.int .u64 z114,C.int .u64 z115,C.int .u64 z116,C.int .u64 z117,C.int .i64 z118]=pys (l.set i ⟨z114.toNat,z115.toNat,z116.toNat,z117.toNat,z118⟩):=by simp [pys,List.map_set,Py.enc,Int.toNat_of_nonneg hz114,Int.toNat_of_nonneg hz115,Int.toNat_of_nonneg hz116,Int.toNat_of_nonneg hz117]
@[go_sem] theorem jdh (l:List Py) (z114:Int) (z115:Int) (z116:Int) (z117:Int) (z118:Int) (hz114:0≤z114) (hz115:0≤z115) (hz116:0≤z116) (hz117:0≤z117):[C.int .u64 z114,C.int .u64 z115,C.int .u64 z116,C.int .u64 z117,C.int .i64 z118]::pys l=pys (⟨z114.toNat,z115.toNat,z116.toNat,z117.toNat,z118⟩::l):=by simp [pys,Py.enc,Int.toNat_of_nonneg hz114,Int.toNat_of_nonneg hz115,Int.toNat_of_nonneg hz116,Int.toNat_of_nonneg hz117]
@[go_sem] theorem vdh (l:List Py):kS (pys l)=True:=eq_true fun x hx c hc=>by
 obtain⟨e,_,rfl⟩:=List.mem_map.1 hx
 simp only [Py.enc,List.mem_cons,List.not_mem_nil,or_false]at hc
 rcases hc with rfl|rfl|rfl|rfl|rfl<;>rfl
@[go_sem] theorem Py.eta {e:Py}:(⟨e.id,e.hash,e.chan,e.n,e.state⟩:Py)=e:=rfl
@[go_sem] theorem Py.eqD {a b:Py}:eqD Tryz.prog 192 [D.c (.int .u64 (a.id:Int)),D.c (.int .u64 (a.hash:Int)),D.c (.int .u64 (a.chan:Int)),D.c (.int .u64 (a.n:Int)),D.c (.int .i64 a.state)] [D.c (.int .u64 (b.id:Int)),D.c (.int .u64 (b.hash:Int)),D.c (.int .u64 (b.chan:Int)),D.c (.int .u64 (b.n:Int)),D.c (.int .i64 b.state)]=some (decide (a=b)):=by
 cases a;cases b
 simp only [Dm.eqD,jbz,xo,eqC,List.getElem?_cons_zero,List.getElem?_cons_succ,if_true,Option.some.injEq,Py.mk.injEq]
 rw [Bool.eq_iff_iff]
 simp [Int.ofNat_inj]
def vI (x:Py):Prop:=(x.n≠0∧x.n≤MM)∧1≤x.state∧x.state≤3
instance (x:Py):Decidable (vI x):=by unfold vI;infer_instance
def gax (l:List Py):Prop:=l.length≤256∧(∀x∈l,vI x)∧Srt.Chn Py.id ltN l
instance (l:List Py):Decidable (Srt.Chn Py.id ltN l):=by unfold Srt.Chn;infer_instance
instance (l:List Py):Decidable (gax l):=by unfold gax;infer_instance
def kaT (l:List Py):Int:=if gax l then 0 else 1
@[go_sem] def kaX (x:Py) (id:Nat):D:= .int .i64 (zad x.id id)
@[go_sem] abbrev kdc:FuncId:=252
@[go_sem] def zbF:Tab:=[(225,xJ)]
theorem gaM:za Tryz.prog zbF:=(za.cons wq za.nil)
set_option maxRecDepth 8000 in
set_option maxHeartbeats 1000000 in
theorem vbm (x:Py) (id:Nat):va Tryz.prog 252 [.agg [.c (.int .u64 (x.id:Int)), .c (.int .u64 (x.hash:Int)), .c (.int .u64 (x.chan:Int)), .c (.int .u64 (x.n:Int)), .c (.int .i64 x.state)], .c (.int .u64 (id:Int))] (kaX x id):=by
 refine .of (gdC gaM (Nat.le_of_ble_eq_true rfl) ?_)
 simp -implicitDefEqProofs only [cdA,go_sem,Go.Proofs.Tryz.f252,reduceIte,reduceCtorEq,Nat.reduceEqDiff,Nat.reduceAdd,Nat.reduceLeDiff,Nat.reduceSub,Nat.reduceMul,Nat.reduceLT,Nat.reduceShiftRight,Nat.reduceMod,Int.reduceLE,Int.reduceLT,Int.reduceToNat,List.cons.injEq,cdB]
def yO:List D→Option (Prop×D×Fr)
 |[.agg [.c (.int .u64 z120), .c (.int .u64 z121), .c (.int .u64 z122), .c (.int .u64 z123), .c (.int .i64 z124)], .c (.int .u64 z125)]=>some (z120=(z120.toNat:Int)∧z121=(z121.toNat:Int)∧z122=(z122.toNat:Int)∧z123=(z123.toNat:Int)∧z125=(z125.toNat:Int),kaX (⟨z120.toNat,z121.toNat,z122.toNat,z123.toNat,z124⟩:Py) z125.toNat,[])
 |_=>none
attribute [go_sem] yO
theorem yaF:∀rs p r fr,yO rs=some (p,r,fr)→p→uc Tryz.prog 252 rs r fr:=by
 intro rs p r fr h hp
 unfold yO at h
 split at h<;>cases h
 obtain⟨hc0,hc1,hc2,hc3,hc4⟩:=hp
 rename_i z120 z121 z122 z123 z124 z125
 obtain⟨z120,rfl⟩:∃m:Nat,z120=m:=⟨_,hc0⟩
 obtain⟨z121,rfl⟩:∃m:Nat,z121=m:=⟨_,hc1⟩
 obtain⟨z122,rfl⟩:∃m:Nat,z122=m:=⟨_,hc2⟩
 obtain⟨z123,rfl⟩:∃m:Nat,z123=m:=⟨_,hc3⟩
 obtain⟨z125,rfl⟩:∃m:Nat,z125=m:=⟨_,hc4⟩
 simp only [Int.toNat_natCast]
 exact vbm ⟨z120,z121,z122,z123,z124⟩ z125
@[go_sem] def qbP (p:Py):D:= .bool (decide (vI p))
@[go_sem] abbrev uej:FuncId:=251
@[go_sem] def wcP:Tab:=[(122,zf)]
theorem kbm:za Tryz.prog wcP:=(za.cons ve za.nil)
set_option maxRecDepth 8000 in
set_option maxHeartbeats 1000000 in
theorem zb8 (p:Py):va Tryz.prog 251 [.agg [.c (.int .u64 (p.id:Int)), .c (.int .u64 (p.hash:Int)), .c (.int .u64 (p.chan:Int)), .c (.int .u64 (p.n:Int)), .c (.int .i64 p.state)]] (qbP p):=by
 refine .of (udC kbm (Nat.le_of_ble_eq_true rfl) ?_)
 simp -implicitDefEqProofs only [cdA,go_sem,Go.Proofs.Tryz.f251,reduceIte,reduceCtorEq,Nat.reduceEqDiff,Nat.reduceAdd,Nat.reduceLeDiff,Nat.reduceSub,Nat.reduceMul,Nat.reduceLT,Nat.reduceShiftRight,Nat.reduceMod,Int.reduceLE,Int.reduceLT,Int.reduceToNat,List.cons.injEq,cdB]
 have hm:wL [p.n]=0↔p.n≤MM:=uI
 rw [hm]
 have ho:vI p↔(p.n≠0∧p.n≤MM)∧1≤p.state∧p.state≤3:= .rfl
 rw [show decide (vI p)=decide ((p.n≠0∧p.n≤MM)∧1≤p.state∧p.state≤3)from decide_eq_decide.2 ho]
 refine⟨fun h=>⟨fun h2=>⟨fun h3=> ?_,fun h3=> ?_⟩,fun h2=> ?_⟩,fun h=> ?_⟩
 ·rw [decide_eq_decide];exact⟨fun h4=>⟨⟨by omega,h2⟩,h3,h4⟩,fun h4=>h4.2.2⟩
 ·exact(decide_eq_false fun h4=>h3 h4.2.1).symm
 ·exact(decide_eq_false fun h4=>h2 h4.1.2).symm
 ·exact(decide_eq_false fun h4=>h4.1.1 (by omega)).symm
def xap:List D→Option (Prop×D×Fr)
 |[.agg [.c (.int .u64 z127), .c (.int .u64 z128), .c (.int .u64 z129), .c (.int .u64 z130), .c (.int .i64 z131)]]=>some (z127=(z127.toNat:Int)∧z128=(z128.toNat:Int)∧z129=(z129.toNat:Int)∧z130=(z130.toNat:Int),qbP (⟨z127.toNat,z128.toNat,z129.toNat,z130.toNat,z131⟩:Py),[])
 |_=>none
attribute [go_sem] xap
theorem gba:∀rs p r fr,xap rs=some (p,r,fr)→p→uc Tryz.prog 251 rs r fr:=by
 intro rs p r fr h hp
 unfold xap at h
 split at h<;>cases h
 obtain⟨hc0,hc1,hc2,hc3⟩:=hp
 rename_i z127 z128 z129 z130 z131
 obtain⟨z127,rfl⟩:∃m:Nat,z127=m:=⟨_,hc0⟩
 obtain⟨z128,rfl⟩:∃m:Nat,z128=m:=⟨_,hc1⟩
 obtain⟨z129,rfl⟩:∃m:Nat,z129=m:=⟨_,hc2⟩
 obtain⟨z130,rfl⟩:∃m:Nat,z130=m:=⟨_,hc3⟩
 simp only [Int.toNat_natCast]
 exact zb8 ⟨z127,z128,z129,z130,z131⟩
@[go_sem] def qaX (l:List Py):D:= .int .i64 (kaT l)
@[go_sem] abbrev jdc:FuncId:=224
@[go_sem] def ubE:Tab:=[(251,xap),(252,yO)]
theorem zK:za Tryz.prog ubE:=(za.cons gba (za.cons yaF za.nil))
set_option maxRecDepth 8000 in
set_option maxHeartbeats 1000000 in
theorem ybm (l:List Py):va Tryz.prog 224 [.sl (pys l)] (qaX l):=by
 refine .of (qdB zK (Nat.le_of_ble_eq_true rfl) ?_)
 simp -implicitDefEqProofs only [cdA,go_sem,Go.Proofs.Tryz.f224,reduceIte,reduceCtorEq,Nat.reduceEqDiff,Nat.reduceAdd,Nat.reduceLeDiff,Nat.reduceSub,Nat.reduceMul,Nat.reduceLT,Nat.reduceShiftRight,Nat.reduceMod,Int.reduceLE,Int.reduceLT,Int.reduceToNat,List.cons.injEq,cdB]
 have hbad:¬gax l→1=kaT l:=fun h=>by rw [kaT,if_neg h]
 refine fun _=>⟨fun h=>hbad fun ho=> ?_,fun h _=> ?_⟩
 ·have:=ho.1;omega
 refine SWp.loop (ι:={i:Nat // i≤l.length∧(∀j,j<i→vI (l.getD j default)∧(0<j→(l.getD (j - 1) default).id<(l.getD j default).id))}) (fun i=>⟨[(0, .sl (pys l)),(8, .sl (pys l)),(9, .int .i64 l.length),(10, .int .i64 i.1)],[],0⟩) (fun i=>l.length - i.1) ⟨0,by simp⟩ ?_ ?_
 ·simp [go_sem]
 ·rintro⟨i,hi,hall⟩
  refine qa zK.toS yb3 _ _ _ rfl ?_
  simp -implicitDefEqProofs only [cdA,go_sem,reduceIte,reduceCtorEq,Nat.reduceEqDiff,Nat.reduceAdd,Nat.reduceLeDiff,Nat.reduceSub,Nat.reduceMul,Nat.reduceLT,Nat.reduceShiftRight,Nat.reduceMod,Int.reduceLE,Int.reduceLT,Int.reduceToNat,List.cons.injEq,cdB]
  refine⟨fun h1=>⟨by omega, ?_⟩,fun h1=> ?_⟩
  ·refine ud.run kcd zK ja (by kernel_rfl) (by kernel_rfl) ?_
   simp -implicitDefEqProofs only [cdA,go_sem,reduceIte,reduceCtorEq,Nat.reduceEqDiff,Nat.reduceAdd,Nat.reduceLeDiff,Nat.reduceSub,Nat.reduceMul,Nat.reduceLT,Nat.reduceShiftRight,Nat.reduceMod,Int.reduceLE,Int.reduceLT,Int.reduceToNat,List.cons.injEq,cdB]
   have hi':i<l.length:=by omega
   have hm:gax l→vI (l.getD i default):=fun h=>h.2.1 _ (ua.2 ⟨i,hi',rfl⟩)
   refine⟨fun h2=> ?_,fun h2=>hbad fun h=>h2 (hm h)⟩
   have hnext:(0<i→(l.getD (i - 1) default).id<(l.getD i default).id)→∃i_1:{i:Nat // i≤l.length∧(∀j,j<i→vI (l.getD j default)∧(0<j→(l.getD (j - 1) default).id<(l.getD j default).id))},l.length - i_1.val<l.length - i∧IntKind.i64.wrap ((i:Int)+1)=i_1.val:=fun ho=>by
    refine⟨⟨i+1,hi',fun j hj=> ?_⟩,by dsimp only;omega,i64_in _ (by omega)⟩
    by_cases hji:j=i
    ·subst hji;exact⟨h2,ho⟩
    ·exact hall j (by omega)
   refine⟨fun h3=> ?_,fun h3=>hnext fun h=>absurd h (by omega)⟩
   rw [i64_in _ (by omega),show((i:Int) - 1).toNat=i - 1 by omega]
   have hc:∀a b:Nat,0≤zad a b↔¬a<b:=fun a b=>by
    have:=vr (x:=a) (y:=b);omega
   rw [hc]
   exact⟨by omega,fun h4=>hbad fun h=>h4 (h.2.2 i hi' (by omega)),fun h4=>hnext fun _=>by omega⟩
  ·have hi':i=l.length:=by omega
   subst hi'
   rw [kaT,if_pos]
   exact⟨by omega,fun x hx=>by obtain⟨j,hj,rfl⟩:=ua.1 hx;exact(hall j hj).1,fun j hj h0=>(hall j hj).2 h0⟩
def zO:List D→Option (Prop×D×Fr)
 |[.c (.sl z132)]=>some (z132=pys (ji z132),qaX (ji z132),[])
 |_=>none
attribute [go_sem] zO
theorem zaF:∀rs p r fr,zO rs=some (p,r,fr)→p→uc Tryz.prog 224 rs r fr:=by
 intro rs p r fr h hp
 unfold zO at h
 split at h<;>cases h
 have hc0:=hp
 rename_i z132
 obtain⟨z132,rfl⟩:∃m,z132=pys m:=⟨_,hc0⟩
 simp only [jb]
 exact ybm z132
end Dm
namespace Dm
open Go Go.Proofs Go.IntWalk
def hlC (c:Ch):List K3:=c.holds.map fun h=>(c.id,h.id,h.n)
def hlL (cs:List Ch):List K3:=cs.flatMap hlC
def yK (l:List Py):List Py:=l.filter fun p=>decide (p.state=1)
def jX (l:List Py) (cs:List Ch):Bool×Int:=if gax l∧cs.length≤32∧(cs.map Ch.id).Nodup then(decide ((∀p∈yK l,(p.chan,p.id,p.n)∈hlL cs)∧(hlL cs).length=(yK l).length),0)else(false,1)
theorem uaU:∀{cs:List Ch} {n:Nat},(∀c∈cs,c.holds.length≤1000000)→cs.length≤n→(hlL cs).length≤n*1000000
 |[],n,_,_=>by simp [hlL]
 |c::cs,n,h,hn=>by
  have h1:hlL (c::cs)=hlC c++hlL cs:=rfl
  rw [h1,List.length_append]
  have h2:(hlC c).length≤1000000:=by unfold hlC;rw [List.length_map];exact h c (.head _)
  have h3:=uaU (cs:=cs) (n:=cs.length) (fun d hd=>h d (.tail _ hd)) (Nat.le_refl _)
  simp only [List.length_cons]at hn
  omega
@[go_sem] def yaX (l:List Py) (cs:List Ch):D:= .tup [.bool (jX l cs).1, .int .i64 (jX l cs).2]
@[go_sem] abbrev qdc:FuncId:=162
@[go_sem] def wbE:Tab:=[(224,zO)]
theorem vq:za Tryz.prog wbE:=(za.cons zaF za.nil)
set_option maxRecDepth 8000 in
set_option maxHeartbeats 1000000 in
theorem zbm (l:List Py) (cs:List Ch) (hs:∀c∈cs,c.holds.length≤1000000):va Tryz.prog 162 [.sl (pys l), .sl (chs cs)] (yaX l cs):=by
 refine .of (zdy vq (Nat.le_of_ble_eq_true rfl) ?_)
 simp -implicitDefEqProofs only [cdA,go_sem,Go.Proofs.Tryz.f162,reduceIte,reduceCtorEq,Nat.reduceEqDiff,Nat.reduceAdd,Nat.reduceLeDiff,Nat.reduceSub,Nat.reduceMul,Nat.reduceLT,Nat.reduceShiftRight,Nat.reduceMod,Int.reduceLE,Int.reduceLT,Int.reduceToNat,List.cons.injEq,cdB]
 have hbad:¬(gax l∧cs.length≤32∧(cs.map Ch.id).Nodup)→false=(jX l cs).1∧1=(jX l cs).2:=fun h=>by rw [jX,if_neg h];exact⟨rfl,rfl⟩
 have hcz:kaT l=0↔gax l:=by unfold kaT;split<;>rename_i h<;>simp only [h]<;>decide
 refine⟨fun h0 hl=>⟨fun h=>hbad fun ho=> ?_,fun hle _=> ?_⟩,fun h0=>hbad fun h=>h0 (hcz.2 h.1)⟩
 ·have:=ho.2.1;omega
 have hok:=hcz.1 h0
 refine SWp.loop (ι:={x:Nat×List (K3×Int)×List (Nat×Int) // x.1≤cs.length∧((cs.take x.1).map Ch.id).Nodup∧(∀k,(alk k x.2.1).getD 0=(List.count k (hlL (cs.take x.1)):Nat))∧(∀k,(nlk k x.2.2).getD 0=(List.count k ((cs.take x.1).map Ch.id):Nat))})
  (fun x=>⟨[(0, .sl (pys l)),(6, .mp 0),(7, .mp 1),(8, .int .i64 (hlL (cs.take x.1.1)).length),(25, .sl (chs cs)),(26, .int .i64 cs.length),(27, .int .i64 x.1.1)],[(1, .map [.int .u64] (kvN .u64 .i64 x.1.2.2)),(0, .map [.int .u64, .int .u64, .int .u64] (kv3 x.1.2.1))],2⟩) (fun x=>cs.length - x.1.1)
  ⟨(0,[],[]),by simp,by simp,fun k=>by simp [alk,hlL],fun k=>by simp [nlk]⟩ ?_ ?_
 ·simp [go_sem,kvN,kv3,hlL]
 ·rintro⟨⟨i,m,ids⟩,hi,hnd,hm,hids⟩
  dsimp only at hi hnd hm hids
  refine qa vq.toS qbk _ _ _ rfl ?_
  simp -implicitDefEqProofs only [cdA,go_sem,qbE,reduceIte,reduceCtorEq,Nat.reduceEqDiff,Nat.reduceAdd,Nat.reduceLeDiff,Nat.reduceSub,Nat.reduceMul,Nat.reduceLT,Nat.reduceShiftRight,Nat.reduceMod,Int.reduceLE,Int.reduceLT,Int.reduceToNat,List.cons.injEq,cdB]
  have hlen:(hlL (cs.take i)).length≤i*1000000:=uaU (fun c hc=>hs c (List.mem_of_mem_take hc)) (by rw [List.length_take];omega)
  refine⟨fun h1=>⟨by omega, ?_⟩,fun h1 _=> ?_⟩
  ·have hi':i<cs.length:=by omega
   have hcm:cs.getD i default∈cs:=ua.2 ⟨i,hi',rfl⟩
   have htk:cs.take (i+1)=cs.take i++[cs.getD i default]:=take_succ hi'
   generalize cs.getD i default=c at*
   have hcl:=hs c hcm
   have hcle:List.count c.id ((cs.take i).map Ch.id)≤32:=Nat.le_trans List.count_le_length (by simp;omega)
   rw [hids,i64_in _ (by omega),kan,if_pos rfl]
   generalize hids':vaJ c.id ((List.count c.id ((cs.take i).map Ch.id):Nat)+1:Int) ids=ids'
   have hid2:∀k,(nlk k ids').getD 0=(List.count k ((cs.take (i+1)).map Ch.id):Nat):=fun k=>by
    rw [←hids',kan,htk,List.map_append,List.count_append]
    split
    ·rename_i h;subst h;simp
    ·rename_i h
     rw [hids];simp [List.count_cons,Ne.symm h]
   refine⟨fun h2=>hbad fun ho=> ?_,fun h2 _=> ?_⟩
   ·have h3:(cs.take (i+1)).map Ch.id<+:cs.map Ch.id:=(List.take_prefix _ _).map _
    have h4:=h3.sublist.nodup ho.2.2
    rw [htk,List.map_append,List.nodup_append]at h4
    have h5:0<List.count c.id ((cs.take i).map Ch.id):=by
     simp only [Option.getD_some]at h2;omega
    exact h4.2.2 _ (List.count_pos_iff.1 h5) c.id (by simp) rfl
   ·have hnd':((cs.take (i+1)).map Ch.id).Nodup:=by
     rw [htk,List.map_append,List.nodup_append]
     refine⟨hnd,by simp,fun x hx y hy=> ?_⟩
     simp at hy
     rintro rfl
     subst hy
     have:=List.count_pos_iff.2 hx
     simp only [Option.getD_some]at h2;omega
    refine SWp.loop (ι:={x:Nat×List (K3×Int) // x.1≤c.holds.length∧∀k,(alk k x.2).getD 0=(List.count k (hlL (cs.take i)++(hlC c).take x.1):Nat)})
     (fun x=>⟨[(0, .sl (pys l)),(6, .mp 0),(7, .mp 1),(8, .int .i64 ((hlL (cs.take i)).length+x.1.1:Nat)),(10, .ref 2 0),(25, .sl (chs cs)),(26, .int .i64 cs.length),(27, .int .i64 i),(42, .c (.sl (hds c.holds))),(43, .int .i64 c.holds.length),(44, .int .i64 x.1.1)],
      [(2, .box [.c (.int .u64 c.id), .c (.int .u64 c.loc), .c (.int .u64 c.rem), .c (.int .u64 c.res), .c (.int .u64 c.most), .c (.sl (hds c.holds)), .c (.bool c.op)]),(1, .map [.int .u64] (kvN .u64 .i64 ids')),(0, .map [.int .u64, .int .u64, .int .u64] (kv3 x.1.2))],3⟩) (fun x=>c.holds.length - x.1.1)
     ⟨(0,m),by simp,fun k=>by simp [hm]⟩ ?_ ?_
    ·simp [go_sem]
    ·rintro⟨⟨k,m⟩,hk,hm⟩
     dsimp only at hk hm
     refine qa vq.toS qbk _ _ _ rfl ?_
     simp -implicitDefEqProofs only [cdA,go_sem,qbE,reduceIte,reduceCtorEq,Nat.reduceEqDiff,Nat.reduceAdd,Nat.reduceLeDiff,Nat.reduceSub,Nat.reduceMul,Nat.reduceLT,Nat.reduceShiftRight,Nat.reduceMod,Int.reduceLE,Int.reduceLT,Int.reduceToNat,List.cons.injEq,cdB]
     refine⟨fun h3=>⟨by omega, ?_⟩,fun h3=> ?_⟩
     ·refine ud.wdX ubJ [0,0,2,0,14,31,63,63,159,511] vq ja (by kernel_rfl) (by kernel_rfl) (by kernel_rfl) ?_
      simp -implicitDefEqProofs only [cdA,go_sem,qbE,reduceIte,reduceCtorEq,Nat.reduceEqDiff,Nat.reduceAdd,Nat.reduceLeDiff,Nat.reduceSub,Nat.reduceMul,Nat.reduceLT,Nat.reduceShiftRight,Nat.reduceMod,Int.reduceLE,Int.reduceLT,Int.reduceToNat,List.cons.injEq,cdB]
      have hk':k<c.holds.length:=by omega
      have hcl':(hlC c).length=c.holds.length:=by unfold hlC;rw [List.length_map]
      have hct:List.count (c.id,(c.holds.getD k default).id,(c.holds.getD k default).n) (hlL (cs.take i)++(hlC c).take k)≤i*1000000+1000000:=
       Nat.le_trans List.count_le_length (by rw [List.length_append,List.length_take];omega)
      have hstep:(hlC c).take (k+1)=(hlC c).take k++[(c.id,(c.holds.getD k default).id,(c.holds.getD k default).n)]:=by
       rw [take_succ (by rw [hcl'];exact hk')]
       congr 2
       unfold hlC
       rw [we (by rw [List.length_map];exact hk'),we hk',List.getElem_map]
      refine⟨⟨(k+1,_),hk',fun q=> ?_⟩,by dsimp only;omega,⟨by rw [i64_in _ (by omega)];dsimp only;omega,i64_in _ (by omega)⟩,rfl⟩
      dsimp only
      rw [hm,i64_in _ (by omega),vaS,hstep,←List.append_assoc]
      generalize hlL (cs.take i)++(hlC c).take k=A at*
      generalize (c.id,(c.holds.getD k default).id,(c.holds.getD k default).n)=t at*
      rw [List.count_append,List.count_singleton]
      split
      ·rename_i h;subst h
       rw [if_pos (by simp),Option.getD_some];omega
      ·rename_i h
       rw [hm,if_neg (by simpa using Ne.symm h)];omega
     ·have hk':k=c.holds.length:=by omega
      subst hk'
      have hcl':(hlC c).length=c.holds.length:=by unfold hlC;rw [List.length_map]
      have hl1:hlL (cs.take (i+1))=hlL (cs.take i)++hlC c:=by rw [htk];simp [hlL]
      refine⟨⟨(i+1,m,ids'),hi',hnd',fun q=> ?_,hid2⟩,by dsimp only;omega,⟨by dsimp only;rw [hl1,List.length_append,hcl'];omega,i64_in _ (by omega)⟩,rfl,rfl⟩
      dsimp only
      rw [hm,hl1,←hcl',List.take_length]
  ·have hi':i=cs.length:=by omega
   subst hi'
   rw [List.take_length]at hnd hm hids hlen⊢
   have hA:gax l∧cs.length≤32∧(cs.map Ch.id).Nodup:=⟨hok,by omega,hnd⟩
   have hl256:=hok.1
   have hpl:∀j,(yK (l.take j)).length≤256:=fun j=>Nat.le_trans (List.length_filter_le _ _) (by rw [List.length_take];omega)
   refine SWp.loop (ι:={j:Nat // j≤l.length∧∀p∈yK (l.take j),(p.chan,p.id,p.n)∈hlL cs}) (fun j=>⟨[(6, .mp 0),(8, .int .i64 ((hlL cs).length - (yK (l.take j.1)).length:Int)),(61, .sl (pys l)),(62, .int .i64 l.length),(63, .int .i64 j.1)],[(1, .map [.int .u64] (kvN .u64 .i64 ids)),(0, .map [.int .u64, .int .u64, .int .u64] (kv3 m))],2⟩) (fun j=>l.length - j.1) ⟨0,by simp [yK]⟩ ?_ ?_
   ·simp [go_sem,yK]
   ·rintro⟨j,hj,hin⟩
    have hpj:=hpl j
    refine qa vq.toS qbk _ _ _ rfl ?_
    simp -implicitDefEqProofs only [cdA,go_sem,qbE,reduceIte,reduceCtorEq,Nat.reduceEqDiff,Nat.reduceAdd,Nat.reduceLeDiff,Nat.reduceSub,Nat.reduceMul,Nat.reduceLT,Nat.reduceShiftRight,Nat.reduceMod,Int.reduceLE,Int.reduceLT,Int.reduceToNat,List.cons.injEq,cdB]
    refine⟨fun h1=>⟨by omega,fun h2=> ?_,fun h2=> ?_⟩,fun h1=> ?_⟩
    ·have hj':j<l.length:=by omega
     have hst:yK (l.take (j+1))=yK (l.take j)++[l.getD j default]:=by
      unfold yK
      rw [take_succ hj',List.filter_append]
      simp only [List.filter_cons,decide_eq_true h2,if_true,List.filter_nil]
     rw [hm]
     refine⟨fun h3=> ?_,fun h3=> ?_⟩
     ·rw [jX,if_pos hA]
      refine⟨(decide_eq_false fun h4=> ?_).symm,rfl⟩
      have h5:=h4.1 (l.getD j default) (List.mem_filter.2 ⟨ua.2 ⟨j,hj',rfl⟩,decide_eq_true h2⟩)
      have:=List.count_pos_iff.2 h5
      omega
     ·refine⟨⟨j+1,hj',fun p hp=> ?_⟩,by dsimp only;omega, ?_,i64_in _ (by omega)⟩
      ·rw [hst]at hp
       rcases List.mem_append.1 hp with hp|hp
       ·exact hin p hp
       ·rw [List.mem_singleton]at hp
        rw [hp]
        exact List.count_pos_iff.1 (by omega)
      ·rw [i64_in _ (by omega)]
       dsimp only
       rw [hst,List.length_append,List.length_singleton];omega
    ·have hj':j<l.length:=by omega
     have hst:yK (l.take (j+1))=yK (l.take j):=by
      unfold yK
      rw [take_succ hj',List.filter_append]
      simp only [List.filter_cons,decide_eq_false h2,List.filter_nil,List.append_nil,Bool.false_eq_true,if_false]
     exact⟨⟨j+1,hj',fun p hp=>hin p (by rwa [hst]at hp)⟩,by dsimp only;omega,by dsimp only;rw [hst],i64_in _ (by omega)⟩
    ·have hj':j=l.length:=by omega
     subst hj'
     rw [List.take_length]at hin hpj⊢
     rw [jX,if_pos hA]
     refine⟨?_,rfl⟩
     rw [decide_eq_decide]
     exact⟨fun h=>⟨hin,by omega⟩,fun h=>by omega⟩
@[go_sem] def zaX (l:List Py) (cs:List Ch):Prop:=(∀c∈cs,c.holds.length≤1000000)
def bN:List D→Option (Prop×D×Fr)
 |[.c (.sl z133), .c (.sl z134)]=>some (z133=pys (ji z133)∧z134=chs (ug z134)∧zaX (ji z133) (ug z134),yaX (ji z133) (ug z134),[])
 |_=>none
attribute [go_sem] bN
theorem baE:∀rs p r fr,bN rs=some (p,r,fr)→p→uc Tryz.prog 162 rs r fr:=by
 intro rs p r fr h hp
 unfold bN at h
 split at h<;>cases h
 obtain⟨hc0,hc1,hp⟩:=hp
 rename_i z133 z134
 obtain⟨z133,rfl⟩:∃m,z133=pys m:=⟨_,hc0⟩
 obtain⟨z134,rfl⟩:∃m,z134=chs m:=⟨_,hc1⟩
 simp only [yb,jb]
 simp only [yb,jb,zaX]at hp
 exact zbm z133 z134 hp
end Dm
namespace Dm
open Go Go.Proofs Go.IntWalk
structure Iv where
 hash:Nat
 n:Nat
 till:Nat
 state:Int
deriving DecidableEq,Inhabited
@[go_sem] def Iv.enc (e:Iv):List C:=[.int .u64 (e.hash:Int), .int .u64 (e.n:Int), .int .u64 (e.till:Int), .int .i64 e.state]
def Iv.dec:List C→Iv
 |[.int .u64 z92, .int .u64 z93, .int .u64 z94, .int .i64 z95]=>(⟨z92.toNat,z93.toNat,z94.toNat,z95⟩:Iv)
 |_=>default
def ivs (l:List Iv):List (List C):=l.map Iv.enc
def qi (l:List (List C)):List Iv:=l.map Iv.dec
@[simp,go_sem] theorem jag (l:List Iv):(ivs l).length=l.length:=by simp [ivs]
@[go_sem] theorem vdN (l:List Iv) (i:Nat):(ivs l).getD i [.int .u64 0, .int .u64 0, .int .u64 0, .int .i64 0]=(l.getD i default).enc:=by
 simp only [ivs,List.getD_eq_getElem?_getD,List.getElem?_map]
 cases l[i]? <;>rfl
@[go_sem] theorem jc8 (l:List Iv):uf 4 (ivs l)=True:=by
 simp [uf,ivs,Iv.enc]
theorem Iv.yd (e:Iv):Iv.dec e.enc=e:=by
 simp [Iv.enc,Iv.dec]
@[go_sem] theorem vb (l:List Iv):qi (ivs l)=l:=by
 simp only [qi,ivs,List.map_map]
 exact List.map_id'' (fun e=>Iv.yd e) l
@[go_sem] theorem kdN (a b:List Iv):ivs a++ivs b=ivs (a++b):=by simp [ivs]
@[go_sem] theorem yc8 (l:List Iv) (k:Nat):(ivs l).drop k=ivs (l.drop k):=by simp [ivs]
@[go_sem] theorem qc8 (l:List Iv) (k:Nat):(ivs l).take k=ivs (l.take k):=by simp [ivs]
@[go_sem] theorem wdN (z96:Int) (z97:Int) (z98:Int) (z99:Int) (hz96:0≤z96) (hz97:0≤z97) (hz98:0≤z98):[[C.int .u64 z96,C.int .u64 z97,C.int .u64 z98,C.int .i64 z99]]=ivs [⟨z96.toNat,z97.toNat,z98.toNat,z99⟩]:=by simp [ivs,Iv.enc,Int.toNat_of_nonneg hz96,Int.toNat_of_nonneg hz97,Int.toNat_of_nonneg hz98]
@[go_sem] theorem udN (l:List Iv) (i:Nat) (z96:Int) (z97:Int) (z98:Int) (z99:Int) (hz96:0≤z96) (hz97:0≤z97) (hz98:0≤z98):(ivs l).set i [C.int .u64 z96,C.int .u64 z97,C.int .u64 z98,C.int .i64 z99]=ivs (l.set i ⟨z96.toNat,z97.toNat,z98.toNat,z99⟩):=by simp [ivs,List.map_set,Iv.enc,Int.toNat_of_nonneg hz96,Int.toNat_of_nonneg hz97,Int.toNat_of_nonneg hz98]
@[go_sem] theorem zc8 (l:List Iv) (z96:Int) (z97:Int) (z98:Int) (z99:Int) (hz96:0≤z96) (hz97:0≤z97) (hz98:0≤z98):[C.int .u64 z96,C.int .u64 z97,C.int .u64 z98,C.int .i64 z99]::ivs l=ivs (⟨z96.toNat,z97.toNat,z98.toNat,z99⟩::l):=by simp [ivs,Iv.enc,Int.toNat_of_nonneg hz96,Int.toNat_of_nonneg hz97,Int.toNat_of_nonneg hz98]
@[go_sem] theorem xc8 (l:List Iv):kS (ivs l)=True:=eq_true fun x hx c hc=>by
 obtain⟨e,_,rfl⟩:=List.mem_map.1 hx
 simp only [Iv.enc,List.mem_cons,List.not_mem_nil,or_false]at hc
 rcases hc with rfl|rfl|rfl|rfl<;>rfl
@[go_sem] theorem Iv.eta {e:Iv}:(⟨e.hash,e.n,e.till,e.state⟩:Iv)=e:=rfl
@[go_sem] theorem Iv.eqD {a b:Iv}:eqD Tryz.prog 189 [D.c (.int .u64 (a.hash:Int)),D.c (.int .u64 (a.n:Int)),D.c (.int .u64 (a.till:Int)),D.c (.int .i64 a.state)] [D.c (.int .u64 (b.hash:Int)),D.c (.int .u64 (b.n:Int)),D.c (.int .u64 (b.till:Int)),D.c (.int .i64 b.state)]=some (decide (a=b)):=by
 cases a;cases b
 simp only [Dm.eqD,qbz,xo,eqC,List.getElem?_cons_zero,List.getElem?_cons_succ,if_true,Option.some.injEq,Iv.mk.injEq]
 rw [Bool.eq_iff_iff]
 simp [Int.ofNat_inj]
def gan (x:Iv):Prop:=(x.n≠0∧x.n≤MM)∧1≤x.state∧x.state≤3
instance (x:Iv):Decidable (gan x):=by unfold gan;infer_instance
def waM (l:List Iv):Prop:=l.length≤256∧(∀x∈l,gan x)∧Srt.Chn Iv.hash ltN l
instance (l:List Iv):Decidable (Srt.Chn Iv.hash ltN l):=by unfold Srt.Chn;infer_instance
instance (l:List Iv):Decidable (waM l):=by unfold waM;infer_instance
def bac (l:List Iv):Int:=if waM l then 0 else 1
@[go_sem] def yaV (x:Iv) (id:Nat):D:= .int .i64 (zad x.hash id)
@[go_sem] abbrev gdb:FuncId:=220
@[go_sem] def jbB:Tab:=[(225,xJ)]
theorem jaL:za Tryz.prog jbB:=(za.cons wq za.nil)
set_option maxRecDepth 8000 in
set_option maxHeartbeats 1000000 in
theorem ubi (x:Iv) (id:Nat):va Tryz.prog 220 [.agg [.c (.int .u64 (x.hash:Int)), .c (.int .u64 (x.n:Int)), .c (.int .u64 (x.till:Int)), .c (.int .i64 x.state)], .c (.int .u64 (id:Int))] (yaV x id):=by
 refine .of (bdA jaL (Nat.le_of_ble_eq_true rfl) ?_)
 simp -implicitDefEqProofs only [cdA,go_sem,Go.Proofs.Tryz.f220,reduceIte,reduceCtorEq,Nat.reduceEqDiff,Nat.reduceAdd,Nat.reduceLeDiff,Nat.reduceSub,Nat.reduceMul,Nat.reduceLT,Nat.reduceShiftRight,Nat.reduceMod,Int.reduceLE,Int.reduceLT,Int.reduceToNat,List.cons.injEq,cdB]
def qN:List D→Option (Prop×D×Fr)
 |[.agg [.c (.int .u64 z101), .c (.int .u64 z102), .c (.int .u64 z103), .c (.int .i64 z104)], .c (.int .u64 z105)]=>some (z101=(z101.toNat:Int)∧z102=(z102.toNat:Int)∧z103=(z103.toNat:Int)∧z105=(z105.toNat:Int),yaV (⟨z101.toNat,z102.toNat,z103.toNat,z104⟩:Iv) z105.toNat,[])
 |_=>none
attribute [go_sem] qN
theorem vaE:∀rs p r fr,qN rs=some (p,r,fr)→p→uc Tryz.prog 220 rs r fr:=by
 intro rs p r fr h hp
 unfold qN at h
 split at h<;>cases h
 obtain⟨hc0,hc1,hc2,hc3⟩:=hp
 rename_i z101 z102 z103 z104 z105
 obtain⟨z101,rfl⟩:∃m:Nat,z101=m:=⟨_,hc0⟩
 obtain⟨z102,rfl⟩:∃m:Nat,z102=m:=⟨_,hc1⟩
 obtain⟨z103,rfl⟩:∃m:Nat,z103=m:=⟨_,hc2⟩
 obtain⟨z105,rfl⟩:∃m:Nat,z105=m:=⟨_,hc3⟩
 simp only [Int.toNat_natCast]
 exact ubi ⟨z101,z102,z103,z104⟩ z105
@[go_sem] def bbh (n:Nat):D:= .bool (decide (n≠0∧n≤MM))
@[go_sem] abbrev xdT:FuncId:=221
@[go_sem] def ybZ:Tab:=[(122,zf)]
theorem ja4:za Tryz.prog ybZ:=(za.cons ve za.nil)
set_option maxRecDepth 8000 in
set_option maxHeartbeats 1000000 in
theorem xbB (n:Nat):va Tryz.prog 221 [.c (.int .u64 (n:Int))] (bbh n):=by
 refine .of (zdB ja4 (Nat.le_of_ble_eq_true rfl) ?_)
 simp -implicitDefEqProofs only [cdA,go_sem,Go.Proofs.Tryz.f221,reduceIte,reduceCtorEq,Nat.reduceEqDiff,Nat.reduceAdd,Nat.reduceLeDiff,Nat.reduceSub,Nat.reduceMul,Nat.reduceLT,Nat.reduceShiftRight,Nat.reduceMod,Int.reduceLE,Int.reduceLT,Int.reduceToNat,List.cons.injEq,cdB]
 have hm:wL [n]=0↔n≤MM:=uI
 refine⟨fun h=> ?_,fun h=> ?_⟩
 ·rw [decide_eq_decide,hm];exact⟨fun h2=>⟨by omega,h2⟩,fun h2=>h2.2⟩
 ·exact(decide_eq_false fun h2=>h2.1 (by omega)).symm
def xZ:List D→Option (Prop×D×Fr)
 |[.c (.int .u64 z106)]=>some (z106=(z106.toNat:Int),bbh z106.toNat,[])
 |_=>none
attribute [go_sem] xZ
theorem kaQ:∀rs p r fr,xZ rs=some (p,r,fr)→p→uc Tryz.prog 221 rs r fr:=by
 intro rs p r fr h hp
 unfold xZ at h
 split at h<;>cases h
 have hc0:=hp
 rename_i z106
 obtain⟨z106,rfl⟩:∃m:Nat,z106=m:=⟨_,hc0⟩
 simp only [Int.toNat_natCast]
 exact xbB z106
@[go_sem] def zaV (l:List Iv):D:= .int .i64 (bac l)
@[go_sem] abbrev udb:FuncId:=160
@[go_sem] def qbB:Tab:=[(221,xZ),(220,qN)]
theorem bJ:za Tryz.prog qbB:=(za.cons kaQ (za.cons vaE za.nil))
set_option maxRecDepth 8000 in
set_option maxHeartbeats 1000000 in
theorem zbi (l:List Iv):va Tryz.prog 160 [.sl (ivs l)] (zaV l):=by
 refine .of (bdx bJ (Nat.le_of_ble_eq_true rfl) ?_)
 simp -implicitDefEqProofs only [cdA,go_sem,Go.Proofs.Tryz.f160,reduceIte,reduceCtorEq,Nat.reduceEqDiff,Nat.reduceAdd,Nat.reduceLeDiff,Nat.reduceSub,Nat.reduceMul,Nat.reduceLT,Nat.reduceShiftRight,Nat.reduceMod,Int.reduceLE,Int.reduceLT,Int.reduceToNat,List.cons.injEq,cdB]
 have hbad:¬waM l→1=bac l:=fun h=>by rw [bac,if_neg h]
 refine fun _=>⟨fun h=>hbad fun ho=> ?_,fun h _=> ?_⟩
 ·have:=ho.1;omega
 refine SWp.loop (ι:={i:Nat // i≤l.length∧(∀j,j<i→gan (l.getD j default)∧(0<j→(l.getD (j - 1) default).hash<(l.getD j default).hash))}) (fun i=>⟨[(0, .sl (ivs l)),(8, .sl (ivs l)),(9, .int .i64 l.length),(10, .int .i64 i.1)],[],0⟩) (fun i=>l.length - i.1) ⟨0,by simp⟩ ?_ ?_
 ·simp [go_sem]
 ·rintro⟨i,hi,hall⟩
  refine qa bJ.toS zb2 _ _ _ rfl ?_
  simp -implicitDefEqProofs only [cdA,go_sem,reduceIte,reduceCtorEq,Nat.reduceEqDiff,Nat.reduceAdd,Nat.reduceLeDiff,Nat.reduceSub,Nat.reduceMul,Nat.reduceLT,Nat.reduceShiftRight,Nat.reduceMod,Int.reduceLE,Int.reduceLT,Int.reduceToNat,List.cons.injEq,cdB]
  refine⟨fun h1=>⟨by omega, ?_⟩,fun h1=> ?_⟩
  ·refine ud.run vcc bJ ja (by kernel_rfl) (by kernel_rfl) ?_
   simp -implicitDefEqProofs only [cdA,go_sem,reduceIte,reduceCtorEq,Nat.reduceEqDiff,Nat.reduceAdd,Nat.reduceLeDiff,Nat.reduceSub,Nat.reduceMul,Nat.reduceLT,Nat.reduceShiftRight,Nat.reduceMod,Int.reduceLE,Int.reduceLT,Int.reduceToNat,List.cons.injEq,cdB]
   have hi':i<l.length:=by omega
   have hnext:(0<i→(l.getD (i - 1) default).hash<(l.getD i default).hash)→
    (¬(l.getD i default).n=0∧(l.getD i default).n≤MM→(¬(l.getD i default).state<1→(3<(l.getD i default).state→1=bac l)∧(¬3<(l.getD i default).state→
     ∃i_1:{i:Nat // i≤l.length∧(∀j,j<i→gan (l.getD j default)∧(0<j→(l.getD (j - 1) default).hash<(l.getD j default).hash))},l.length - i_1.val<l.length - i∧IntKind.i64.wrap ((i:Int)+1)=i_1.val))∧((l.getD i default).state<1→1=bac l))∧
    (¬(¬(l.getD i default).n=0∧(l.getD i default).n≤MM)→1=bac l):=fun ho=>by
    have hm:waM l→gan (l.getD i default):=fun h=>h.2.1 _ (ua.2 ⟨i,hi',rfl⟩)
    refine⟨fun h2=>⟨fun h3=>⟨fun h4=>hbad fun h=> ?_,fun h4=>⟨⟨i+1,hi',fun j hj=> ?_⟩,by dsimp only;omega,i64_in _ (by omega)⟩⟩,fun h3=>hbad fun h=> ?_⟩,fun h2=>hbad fun h=>h2 (hm h).1⟩
    ·have:=(hm h).2.2;omega
    ·by_cases hji:j=i
     ·subst hji;exact⟨⟨h2,by omega,by omega⟩,ho⟩
     ·exact hall j (by omega)
    ·have:=(hm h).2.1;omega
   refine⟨fun h2=> ?_,fun h2=>hnext fun h=>absurd h (by omega)⟩
   rw [i64_in _ (by omega),show((i:Int) - 1).toNat=i - 1 by omega]
   have hc:∀a b:Nat,0≤zad a b↔¬a<b:=fun a b=>by
    have:=vr (x:=a) (y:=b);omega
   rw [hc]
   exact⟨by omega,fun h3=>hnext fun _=>by omega,fun h3=>hbad fun h=>h3 (h.2.2 i hi' (by omega))⟩
  ·have hi':i=l.length:=by omega
   subst hi'
   rw [bac,if_pos]
   exact⟨by omega,fun x hx=>by obtain⟨j,hj,rfl⟩:=ua.1 hx;exact(hall j hj).1,fun j hj h0=>(hall j hj).2 h0⟩
def bD:List D→Option (Prop×D×Fr)
 |[.c (.sl z107)]=>some (z107=ivs (qi z107),zaV (qi z107),[])
 |_=>none
attribute [go_sem] bD
theorem kW:∀rs p r fr,bD rs=some (p,r,fr)→p→uc Tryz.prog 160 rs r fr:=by
 intro rs p r fr h hp
 unfold bD at h
 split at h<;>cases h
 have hc0:=hp
 rename_i z107
 obtain⟨z107,rfl⟩:∃m,z107=ivs m:=⟨_,hc0⟩
 simp only [vb]
 exact zbi z107
end Dm
namespace Dm
open Go Go.Proofs Go.IntWalk
structure Ev where
 seq:Nat
 kind:Int
 a:Nat
 n:Nat
deriving DecidableEq,Inhabited
@[go_sem] def Ev.enc (e:Ev):List C:=[.int .u64 (e.seq:Int), .int .i64 e.kind, .int .u64 (e.a:Int), .int .u64 (e.n:Int)]
def Ev.dec:List C→Ev
 |[.int .u64 z136, .int .i64 z137, .int .u64 z138, .int .u64 z139]=>(⟨z136.toNat,z137,z138.toNat,z139.toNat⟩:Ev)
 |_=>default
def evs (l:List Ev):List (List C):=l.map Ev.enc
def xh (l:List (List C)):List Ev:=l.map Ev.dec
@[simp,go_sem] theorem zci (l:List Ev):(evs l).length=l.length:=by simp [evs]
@[go_sem] theorem qdK (l:List Ev) (i:Nat):(evs l).getD i [.int .u64 0, .int .i64 0, .int .u64 0, .int .u64 0]=(l.getD i default).enc:=by
 simp only [evs,List.getD_eq_getElem?_getD,List.getElem?_map]
 cases l[i]? <;>rfl
@[go_sem] theorem gc4 (l:List Ev):uf 4 (evs l)=True:=by
 simp [uf,evs,Ev.enc]
theorem Ev.yd (e:Ev):Ev.dec e.enc=e:=by
 simp [Ev.enc,Ev.dec]
@[go_sem] theorem qb (l:List Ev):xh (evs l)=l:=by
 simp only [xh,evs,List.map_map]
 exact List.map_id'' (fun e=>Ev.yd e) l
@[go_sem] theorem xdK (a b:List Ev):evs a++evs b=evs (a++b):=by simp [evs]
@[go_sem] theorem vc4 (l:List Ev) (k:Nat):(evs l).drop k=evs (l.drop k):=by simp [evs]
@[go_sem] theorem uc4 (l:List Ev) (k:Nat):(evs l).take k=evs (l.take k):=by simp [evs]
@[go_sem] theorem jdK (z140:Int) (z141:Int) (z142:Int) (z143:Int) (hz140:0≤z140) (hz142:0≤z142) (hz143:0≤z143):[[C.int .u64 z140,C.int .i64 z141,C.int .u64 z142,C.int .u64 z143]]=evs [⟨z140.toNat,z141,z142.toNat,z143.toNat⟩]:=by simp [evs,Ev.enc,Int.toNat_of_nonneg hz140,Int.toNat_of_nonneg hz142,Int.toNat_of_nonneg hz143]
@[go_sem] theorem kdK (l:List Ev) (i:Nat) (z140:Int) (z141:Int) (z142:Int) (z143:Int) (hz140:0≤z140) (hz142:0≤z142) (hz143:0≤z143):(evs l).set i [C.int .u64 z140,C.int .i64 z141,C.int .u64 z142,C.int .u64 z143]=evs (l.set i ⟨z140.toNat,z141,z142.toNat,z143.toNat⟩):=by simp [evs,List.map_set,Ev.enc,Int.toNat_of_nonneg hz140,Int.toNat_of_nonneg hz142,Int.toNat_of_nonneg hz143]
@[go_sem] theorem kc4 (l:List Ev) (z140:Int) (z141:Int) (z142:Int) (z143:Int) (hz140:0≤z140) (hz142:0≤z142) (hz143:0≤z143):[C.int .u64 z140,C.int .i64 z141,C.int .u64 z142,C.int .u64 z143]::evs l=evs (⟨z140.toNat,z141,z142.toNat,z143.toNat⟩::l):=by simp [evs,Ev.enc,Int.toNat_of_nonneg hz140,Int.toNat_of_nonneg hz142,Int.toNat_of_nonneg hz143]
@[go_sem] theorem wc4 (l:List Ev):kS (evs l)=True:=eq_true fun x hx c hc=>by
 obtain⟨e,_,rfl⟩:=List.mem_map.1 hx
 simp only [Ev.enc,List.mem_cons,List.not_mem_nil,or_false]at hc
 rcases hc with rfl|rfl|rfl|rfl<;>rfl
@[go_sem] theorem Ev.eta {e:Ev}:(⟨e.seq,e.kind,e.a,e.n⟩:Ev)=e:=rfl
@[go_sem] theorem Ev.eqD {a b:Ev}:eqD Tryz.prog 195 [D.c (.int .u64 (a.seq:Int)),D.c (.int .i64 a.kind),D.c (.int .u64 (a.a:Int)),D.c (.int .u64 (a.n:Int))] [D.c (.int .u64 (b.seq:Int)),D.c (.int .i64 b.kind),D.c (.int .u64 (b.a:Int)),D.c (.int .u64 (b.n:Int))]=some (decide (a=b)):=by
 cases a;cases b
 simp only [Dm.eqD,kbz,xo,eqC,List.getElem?_cons_zero,List.getElem?_cons_succ,if_true,Option.some.injEq,Ev.mk.injEq]
 rw [Bool.eq_iff_iff]
 simp [Int.ofNat_inj]
structure Fd where
 next:Nat
 l:List Ev
deriving DecidableEq,Inhabited
@[go_sem] def Fd.enc (e:Fd):List C:=[.int .u64 (e.next:Int), .sl (evs e.l)]
def Fd.dec:List C→Fd
 |[.int .u64 z145, .sl z146]=>(⟨z145.toNat,(xh z146)⟩:Fd)
 |_=>default
def fds (l:List Fd):List (List C):=l.map Fd.enc
def keb (l:List (List C)):List Fd:=l.map Fd.dec
@[simp,go_sem] theorem yci (l:List Fd):(fds l).length=l.length:=by simp [fds]
@[go_sem] theorem gdL (l:List Fd) (i:Nat):(fds l).getD i [.int .u64 0, .sl []]=(l.getD i default).enc:=by
 simp only [fds,List.getD_eq_getElem?_getD,List.getElem?_map]
 cases l[i]? <;>rfl
@[go_sem] theorem gc5 (l:List Fd):uf 2 (fds l)=True:=by
 simp [uf,fds,Fd.enc]
theorem Fd.yd (e:Fd):Fd.dec e.enc=e:=by
 simp [Fd.enc,Fd.dec,qb]
@[go_sem] theorem yc3 (l:List Fd):keb (fds l)=l:=by
 simp only [keb,fds,List.map_map]
 exact List.map_id'' (fun e=>Fd.yd e) l
@[go_sem] theorem udL (a b:List Fd):fds a++fds b=fds (a++b):=by simp [fds]
@[go_sem] theorem wc5 (l:List Fd) (k:Nat):(fds l).drop k=fds (l.drop k):=by simp [fds]
@[go_sem] theorem uc5 (l:List Fd) (k:Nat):(fds l).take k=fds (l.take k):=by simp [fds]
@[go_sem] theorem bdL (z147:Int) (z148:List Ev) (hz147:0≤z147):[[C.int .u64 z147,C.sl (evs z148)]]=fds [⟨z147.toNat,z148⟩]:=by simp [fds,Fd.enc,Int.toNat_of_nonneg hz147]
@[go_sem] theorem zdM (l:List Fd) (i:Nat) (z147:Int) (z148:List Ev) (hz147:0≤z147):(fds l).set i [C.int .u64 z147,C.sl (evs z148)]=fds (l.set i ⟨z147.toNat,z148⟩):=by simp [fds,List.map_set,Fd.enc,Int.toNat_of_nonneg hz147]
@[go_sem] theorem vc5 (l:List Fd) (z147:Int) (z148:List Ev) (hz147:0≤z147):[C.int .u64 z147,C.sl (evs z148)]::fds l=fds (⟨z147.toNat,z148⟩::l):=by simp [fds,Fd.enc,Int.toNat_of_nonneg hz147]
@[go_sem] theorem Fd.eta {e:Fd}:(⟨e.next,e.l⟩:Fd)=e:=rfl
def gam (k:Int):Bool:=decide (0≤k∧k<16)
@[go_sem] def jbg (k:Int):D:= .bool (gam k)
@[go_sem] abbrev bdS:FuncId:=223
@[go_sem] def qbV:Tab:=[]
theorem ya4:za Tryz.prog qbV:=za.nil
set_option maxRecDepth 8000 in
set_option maxHeartbeats 1000000 in
theorem jbA (k:Int):va Tryz.prog 223 [.c (.int .i64 k)] (jbg k):=by
 refine .of (xdB ya4 (Nat.le_of_ble_eq_true rfl) ?_)
 simp -implicitDefEqProofs only [cdA,go_sem,Go.Proofs.Tryz.f223,reduceIte,reduceCtorEq,Nat.reduceEqDiff,Nat.reduceAdd,Nat.reduceLeDiff,Nat.reduceSub,Nat.reduceMul,Nat.reduceLT,Nat.reduceShiftRight,Nat.reduceMod,Int.reduceLE,Int.reduceLT,Int.reduceToNat,List.cons.injEq,cdB]
 have e:gam k=decide (0≤k∧k<16):=rfl
 rw [e]
 exact⟨fun h=>by rw [decide_eq_decide];exact⟨fun h2=>⟨h,h2⟩,fun h2=>h2.2⟩,fun h=>(decide_eq_false fun h2=>h h2.1).symm⟩
def bY:List D→Option (Prop×D×Fr)
 |[.c (.int .i64 z149)]=>some (True,jbg z149,[])
 |_=>none
attribute [go_sem] bY
theorem xaQ:∀rs p r fr,bY rs=some (p,r,fr)→p→uc Tryz.prog 223 rs r fr:=by
 intro rs p r fr h hp
 unfold bY at h
 split at h<;>cases h
 rename_i z149
 exact jbA z149
@[go_sem] def jbM:D:= .agg [.int .u64 1, .sl (evs [])]
@[go_sem] abbrev xej:FuncId:=102
@[go_sem] def zcB:Tab:=[]
theorem ubg:za Tryz.prog zcB:=za.nil
set_option maxRecDepth 8000 in
set_option maxHeartbeats 1000000 in
theorem bbX:va Tryz.prog 102 [] (jbM):=by
 refine .of (qdu ubg (Nat.le_of_ble_eq_true rfl) ?_)
 simp -implicitDefEqProofs only [cdA,go_sem,Go.Proofs.Tryz.f102,reduceIte,reduceCtorEq,Nat.reduceEqDiff,Nat.reduceAdd,Nat.reduceLeDiff,Nat.reduceSub,Nat.reduceMul,Nat.reduceLT,Nat.reduceShiftRight,Nat.reduceMod,Int.reduceLE,Int.reduceLT,Int.reduceToNat,List.cons.injEq,cdB]
 rfl
def kao:List D→Option (Prop×D×Fr)
 |[]=>some (True,jbM,[])
 |_=>none
attribute [go_sem] kao
theorem kba:∀rs p r fr,kao rs=some (p,r,fr)→p→uc Tryz.prog 102 rs r fr:=by
 intro rs p r fr h hp
 unfold kao at h
 split at h<;>cases h
 exact bbX
theorem ya0 {n k:Nat} (h:k<n):(List.finRange n).reverse.take k++[⟨n - 1 - k,by omega⟩]=(List.finRange n).reverse.take (k+1):=by
 have hl:k<(List.finRange n).reverse.length:=by simpa using h
 rw [List.take_add_one,List.getElem?_eq_getElem hl]
 simp
set_option maxRecDepth 4000 in
theorem zbe (l:List Ev) (hl:l.length≤1000000):vas Tryz.prog 250 [.rp [.sl (evs l)]] (m:=l.length) (fun x=>[.int .i64 x.1, .agg ((l.getD x.1 default).enc.map .c)]) (List.finRange l.length).reverse:=by
 refine vas.of (n:=19) (fn:=Tryz.f250) (by kernel_rfl) rfl rfl rfl (Nat.le_of_ble_eq_true rfl) rfl ?_
 intro y I J Jx hY
 refine SY.seq (SY.region .nil hY rfl ?_)
 simp -implicitDefEqProofs only [cdA,go_sem,gak,qaS,St.wbc,wan,List.contains_cons,List.contains_nil,Nat.reduceBEq,Bool.or_self,reduceIte,reduceCtorEq,Nat.reduceEqDiff,Nat.reduceAdd,Nat.reduceLeDiff,Nat.reduceSub,Nat.reduceMul,Nat.reduceLT,Nat.reduceShiftRight,Nat.reduceMod,Int.reduceLE,Int.reduceLT,Int.reduceToNat,List.cons.injEq,cdB]
 refine fun _=>SY.block (SY.loop l.length (fun k=>⟨[(0, .fn (.yield y) [] []),(1, .rp [.sl (evs l)]),(3, .int .i64 ((l.length:Int) - 1 - k))],[],0⟩) (fun k=>((List.finRange l.length).reverse.take k,true)) 0 ?_ (Nat.zero_le _) ?_)
 ·intro a w h
  rw [i64_in _ (by omega)]at h
  have h:=h.sub (s':=⟨[(0, .fn (.yield y) [] []),(1, .rp [.sl (evs l)]),(3, .int .i64 ((l.length:Int) - 1 - (0:Nat)))],[],0⟩) ⟨rfl,rfl,by simp [go_sem]⟩
  simpa using h
 ·intro k hk
  refine SY.seq (SY.seq (SY.region .nil hY rfl ?_))
  simp -implicitDefEqProofs only [cdA,go_sem,gak,qaS,St.wbc,wan,List.contains_cons,List.contains_nil,Nat.reduceBEq,Bool.or_self,reduceIte,reduceCtorEq,Nat.reduceEqDiff,Nat.reduceAdd,Nat.reduceLeDiff,Nat.reduceSub,Nat.reduceMul,Nat.reduceLT,Nat.reduceShiftRight,Nat.reduceMod,Int.reduceLE,Int.reduceLT,Int.reduceToNat,List.cons.injEq,cdB]
  refine SY.cond rfl (fun hc=>SY.skip ?_) (fun hc=>SY.exit ?_)
  ·have hk':k<l.length:=by simp at hc;omega
   refine SY.seq (SY.block (SY.seq (SY.region .nil hY rfl ?_)))
   simp -implicitDefEqProofs only [cdA,go_sem,gak,qaS,St.wbc,wan,List.contains_cons,List.contains_nil,Nat.reduceBEq,Bool.or_self,reduceIte,reduceCtorEq,Nat.reduceEqDiff,Nat.reduceAdd,Nat.reduceLeDiff,Nat.reduceSub,Nat.reduceMul,Nat.reduceLT,Nat.reduceShiftRight,Nat.reduceMod,Int.reduceLE,Int.reduceLT,Int.reduceToNat,List.cons.injEq,cdB]
   refine⟨by omega,by simp;omega,⟨l.length - 1 - k,by omega⟩, ?_, ?_, ?_⟩
   ·have e1:((l.length:Int) - 1 - k).toNat=l.length - 1 - k:=by omega
    have e2:((l.length:Int) - 1 - k)=((l.length - 1 - k:Nat):Int):=by omega
    rw [e1,e2];exact⟨rfl,rfl⟩
   ·refine SY.cond (b:=false) rfl (fun h=>by cases h) (fun _=>SY.skip (SY.region .nil hY rfl ?_))
    simp -implicitDefEqProofs only [cdA,go_sem,gak,qaS,reduceIte,reduceCtorEq,Nat.reduceEqDiff,Nat.reduceAdd,Nat.reduceLeDiff,Nat.reduceSub,Nat.reduceMul,Nat.reduceLT,Nat.reduceShiftRight,Nat.reduceMod,Int.reduceLE,Int.reduceLT,Int.reduceToNat,List.cons.injEq,cdB]
    rw [i64_in _ (by omega)]
    exact⟨hk',by rw [ya0 hk'],by omega⟩
   ·refine SY.cond (b:=true) rfl (fun _=>SY.ret ?_) (fun h=>by cases h)
    refine⟨.inr rfl, .inr ⟨rfl, ?_⟩⟩
    rw [ya0 hk']
    exact List.take_prefix _ _
  ·have hk':k=l.length:=by simp at hc;omega
   have:List.take l.length (List.finRange l.length).reverse=(List.finRange l.length).reverse:=List.take_of_length_le (by simp)
   simp [hk',this]
@[go_sem] def zbg (l:List Ev):D:= .fn (.func 250) [] [.rp [.sl (evs l)]]
@[go_sem] abbrev wdS:FuncId:=222
@[go_sem] def zbV:Tab:=[]
theorem ka3:za Tryz.prog zbV:=za.nil
set_option maxRecDepth 8000 in
set_option maxHeartbeats 1000000 in
theorem gbz (l:List Ev):va Tryz.prog 222 [.sl (evs l)] (zbg l):=by
 refine .of (ydB ka3 (Nat.le_of_ble_eq_true rfl) ?_)
 simp -implicitDefEqProofs only [cdA,go_sem,Go.Proofs.Tryz.f222,reduceIte,reduceCtorEq,Nat.reduceEqDiff,Nat.reduceAdd,Nat.reduceLeDiff,Nat.reduceSub,Nat.reduceMul,Nat.reduceLT,Nat.reduceShiftRight,Nat.reduceMod,Int.reduceLE,Int.reduceLT,Int.reduceToNat,List.cons.injEq,cdB]
 exact⟨_,rfl,rfl⟩
def wY:List D→Option (Prop×D×Fr)
 |[.c (.sl z150)]=>some (z150=evs (xh z150),zbg (xh z150),[])
 |_=>none
attribute [go_sem] wY
theorem baP:∀rs p r fr,wY rs=some (p,r,fr)→p→uc Tryz.prog 222 rs r fr:=by
 intro rs p r fr h hp
 unfold wY at h
 split at h<;>cases h
 have hc0:=hp
 rename_i z150
 obtain⟨z150,rfl⟩:∃m,z150=evs m:=⟨_,hc0⟩
 simp only [qb]
 exact gbz z150
def ucp (n:Int):List Ev→Bool
 |[]=>true
 |e::r=>decide ((e.seq:Int)=n - (r.length+1))&&gam e.kind&&ucp n r
def xbE (f:Fd):Prop:=1≤f.next∧f.next≤MM∧f.l.length=min (f.next - 1) 64∧ucp f.next f.l=true
instance (f:Fd):Decidable (xbE f):=by unfold xbE;infer_instance
def vbc (f:Fd):Int:=if xbE f then 0 else 1
theorem uL (n:Int):∀(l:List Ev),ucp n l=true↔∀i:Nat,i<l.length→((l.getD i default).seq:Int)=n - (l.length - i:Int)∧gam (l.getD i default).kind=true
 |[]=>by simp [ucp]
 |e::r=>by
  rw [ucp,Bool.and_eq_true,Bool.and_eq_true,uL n r,decide_eq_true_eq]
  constructor
  ·rintro⟨⟨h1,h2⟩,h3⟩ i hi
   cases i with
   |zero=>simp [h1,h2]
   |succ i=>
    have:=h3 i (by simpa using hi)
    simp only [List.getD_cons_succ,List.length_cons]
    refine⟨?_,this.2⟩
    rw [this.1]
    omega
  ·intro h
   refine⟨?_,fun i hi=> ?_⟩
   ·have:=h 0 (by simp)
    simp at this
    exact⟨by rw [this.1],this.2⟩
   ·have:=h (i+1) (by simpa using hi)
    simp only [List.getD_cons_succ,List.length_cons]at this
    refine⟨?_,this.2⟩
    rw [this.1]
    omega
theorem bat {f:Fd} {pre:List (Fin f.l.length)} {x:Fin f.l.length} (h:pre++[x]<+:(List.finRange f.l.length).reverse)
 (hb:¬(((f.l.getD x.1 default).seq:Int)=f.next - (pre.length+1:Int)∧gam (f.l.getD x.1 default).kind=true)):vbc f=1:=by
 unfold vbc
 rw [if_neg]
 rintro⟨_,_,_,h4⟩
 obtain⟨t,ht⟩:=h
 have h5:(List.finRange f.l.length).reverse[pre.length]? =some x:=by rw [←ht];simp
 have h6:=(uL f.next f.l).1 h4 x.1 x.2
 have hlt:pre.length<f.l.length:=by
  have:=(List.getElem?_eq_some_iff.1 h5).1
  simpa using this
 have h7:x.1=f.l.length - 1 - pre.length:=by
  rw [List.getElem?_eq_getElem (by simpa using hlt)]at h5
  simp at h5
  rw [←h5]
 refine hb ⟨?_,h6.2⟩
 rw [h6.1,h7]
 omega
attribute [go_sem] xaP asg rfp
@[go_sem] def zaU (f:Fd):D:= .int .i64 (vbc f)
@[go_sem] abbrev jdb:FuncId:=161
@[go_sem] def bbz:Tab:=[(223,bY),(222,wY)]
theorem jm:za Tryz.prog bbz:=(za.cons xaQ (za.cons baP za.nil))
set_option maxRecDepth 8000 in
set_option maxHeartbeats 1000000 in
theorem ybg (f:Fd) (h:f.next≤18446744073709551615):va Tryz.prog 161 [.agg [.c (.int .u64 (f.next:Int)), .sl (evs f.l)]] (zaU f):=by
 refine .of (yU (n:=44) (fn:=Tryz.f161) (by kernel_rfl) rfl rfl rfl (Nat.le_of_ble_eq_true rfl) (rs:=[.cell 2 50]) rfl ?_)
 refine SWm.seq (SWm.awp jm.toS vaw rfl ?_)
 simp -implicitDefEqProofs only [cdA,go_sem,reduceIte,reduceCtorEq,Nat.reduceEqDiff,Nat.reduceAdd,Nat.reduceLeDiff,Nat.reduceSub,Nat.reduceMul,Nat.reduceLT,Nat.reduceShiftRight,Nat.reduceMod,Int.reduceLE,Int.reduceLT,Int.reduceToNat,List.cons.injEq,cdB]
 refine SWm.seq (SWm.awp jm.toS vaw rfl ?_)
 simp -implicitDefEqProofs only [cdA,go_sem,reduceIte,reduceCtorEq,Nat.reduceEqDiff,Nat.reduceAdd,Nat.reduceLeDiff,Nat.reduceSub,Nat.reduceMul,Nat.reduceLT,Nat.reduceShiftRight,Nat.reduceMod,Int.reduceLE,Int.reduceLT,Int.reduceToNat,List.cons.injEq,cdB]
 have hbad:¬xbE f→1=vbc f:=fun h=>by rw [vbc,if_neg h]
 refine⟨fun h1=>⟨fun h2 h3=>⟨fun h4=> ?_,fun h4=>hbad fun ho=>h4 ?_⟩,fun h2=>hbad fun ho=> ?_⟩,fun h1=>hbad fun ho=> ?_⟩
 rotate_left 1
 ·have:=ho.2.2.1
  rw [u64_in f.l.length (by omega),u64_in ((f.next:Int) - 1) (by omega)];omega
 ·have:=ho.2.1;unfold MM at this;omega
 ·have:=ho.1;omega
 ·refine SWm.seq (SWm.awp jm.toS vaw rfl ?_)
  simp -implicitDefEqProofs only [cdA,go_sem,reduceIte,reduceCtorEq,Nat.reduceEqDiff,Nat.reduceAdd,Nat.reduceLeDiff,Nat.reduceSub,Nat.reduceMul,Nat.reduceLT,Nat.reduceShiftRight,Nat.reduceMod,Int.reduceLE,Int.reduceLT,Int.reduceToNat,List.cons.injEq,cdB]
  refine SWm.seq (SWm.seq (SWm.awp jm.toS vaw rfl ?_))
  simp -implicitDefEqProofs only [cdA,go_sem,reduceIte,reduceCtorEq,Nat.reduceEqDiff,Nat.reduceAdd,Nat.reduceLeDiff,Nat.reduceSub,Nat.reduceMul,Nat.reduceLT,Nat.reduceShiftRight,Nat.reduceMod,Int.reduceLE,Int.reduceLT,Int.reduceToNat,List.cons.injEq,cdB]
  have hle:(f.l.length:Int)≤64∧(f.l.length:Int)≤f.next - 1:=by
   rw [u64_in f.l.length (by omega),u64_in ((f.next:Int) - 1) (by omega)]at h4
   omega
  have hlen:f.l.length≤1000000:=by omega
  refine SWm.block (SWm.rangeFunc jm.toS vaw (caps:=[.rp [.sl (evs f.l)]]) rfl (by simp [D.vad]) (zbe f.l hlen)
   (fun pre=>[(2, .box [.int .u64 ((f.next:Int) - pre.length)]),(1, .box [.int .i64 0]),(0, .box [.int .u64 f.next, .sl (evs f.l)])])
   (fun pre=>∀(j:Nat) (x:Fin f.l.length),pre[j]? =some x→((f.l.getD x.1 default).seq:Int)=f.next - (j+1)∧gam (f.l.getD x.1 default).kind=true)
   (fun x=>rfl) (by decide) (Nat.zero_le _) rfl rfl rfl rfl ?_ ?_ ?_)
  ·simp [go_sem]
  ·intro pre x hok hpre
   simp -implicitDefEqProofs only [cdA,go_sem,reduceIte,reduceCtorEq,Nat.reduceEqDiff,Nat.reduceAdd,Nat.reduceLeDiff,Nat.reduceSub,Nat.reduceMul,Nat.reduceLT,Nat.reduceShiftRight,Nat.reduceMod,Int.reduceLE,Int.reduceLT,Int.reduceToNat,List.cons.injEq,cdB]
   rw [u64_in ((f.next:Int) - _ - 1) (by omega)]
   refine⟨fun h5=>⟨fun h6=>⟨fun j y hj=> ?_,by omega⟩,fun h6 hp=> ?_⟩,fun h5 hp=> ?_⟩
   ·rw [List.getElem?_append]at hj
    split at hj
    ·exact hok j y hj
    ·rename_i hge
     have:j=pre.length:=by
      have:=(List.getElem?_eq_some_iff.1 hj).1
      simp at this
      omega
     subst this
     simp at hj
     subst hj
     exact⟨by omega,h6⟩
   ·exact(bat hp fun h=>by rw [h6]at h;cases h.2).symm
   ·exact(bat hp fun h=>h5 (by omega)).symm
  ·intro hok
   refine SWm.awp jm.toS vaw rfl ?_
   simp -implicitDefEqProofs only [cdA,go_sem,reduceIte,reduceCtorEq,Nat.reduceEqDiff,Nat.reduceAdd,Nat.reduceLeDiff,Nat.reduceSub,Nat.reduceMul,Nat.reduceLT,Nat.reduceShiftRight,Nat.reduceMod,Int.reduceLE,Int.reduceLT,Int.reduceToNat,List.cons.injEq,cdB]
   rw [u64_in f.l.length (by omega),u64_in ((f.next:Int) - 1) (by omega)]at h4
   have hE:ucp f.next f.l=true:=by
    rw [uL]
    intro i hi
    have h5:(List.finRange f.l.length).reverse[f.l.length - 1 - i]? =some ⟨i,hi⟩:=by
     rw [List.getElem?_eq_getElem (by simp;omega)]
     simp
     try omega
    obtain⟨h6,h7⟩:=hok _ _ h5
    refine⟨?_,h7⟩
    rw [h6]
    omega
   rw [vbc,if_pos (show xbE f from⟨by omega,by unfold MM;omega,by omega,hE⟩)]
@[go_sem] def baT (f:Fd):Prop:=(f.next≤18446744073709551615)
def yN:List D→Option (Prop×D×Fr)
 |[.agg [.c (.int .u64 z152), .c (.sl z153)]]=>some (z152=(z152.toNat:Int)∧z153=evs (xh z153)∧baT (⟨z152.toNat,(xh z153)⟩:Fd),zaU (⟨z152.toNat,(xh z153)⟩:Fd),[])
 |_=>none
attribute [go_sem] yN
theorem jaE:∀rs p r fr,yN rs=some (p,r,fr)→p→uc Tryz.prog 161 rs r fr:=by
 intro rs p r fr h hp
 unfold yN at h
 split at h<;>cases h
 obtain⟨hc0,hc1,hp⟩:=hp
 rename_i z152 z153
 obtain⟨z152,rfl⟩:∃m:Nat,z152=m:=⟨_,hc0⟩
 obtain⟨z153,rfl⟩:∃m,z153=evs m:=⟨_,hc1⟩
 simp only [Int.toNat_natCast,qb]
 simp only [Int.toNat_natCast,qb,baT]at hp
 exact ybg ⟨z152,z153⟩ hp
theorem jaT {f:Fd}:vbc f=0↔xbE f:=by unfold vbc;split<;>rename_i h<;>simp only [h]<;>decide
end Dm
namespace Dm
open Go Go.Proofs Go.IntWalk
structure Wt where
 id:Nat
 w:Option Nat
deriving DecidableEq
instance:Inhabited Wt:=⟨⟨default,some 0⟩⟩
@[go_sem] def Wt.enc (e:Wt):List C:=[.int .u64 (e.id:Int), .flt .f64 e.w]
def Wt.dec:List C→Wt
 |[.int .u64 z2, .flt .f64 z3]=>(⟨z2.toNat,z3⟩:Wt)
 |_=>default
def wts (l:List Wt):List (List C):=l.map Wt.enc
def vl (l:List (List C)):List Wt:=l.map Wt.dec
@[simp,go_sem] theorem zcu (l:List Wt):(wts l).length=l.length:=by simp [wts]
@[go_sem] theorem qd4 (l:List Wt) (i:Nat):(wts l).getD i [.int .u64 0, .flt .f64 (some 0)]=(l.getD i default).enc:=by
 simp only [wts,List.getD_eq_getElem?_getD,List.getElem?_map]
 cases l[i]? <;>rfl
@[go_sem] theorem udo (l:List Wt):uf 2 (wts l)=True:=by
 simp [uf,wts,Wt.enc]
theorem Wt.yd (e:Wt):Wt.dec e.enc=e:=by
 simp [Wt.enc,Wt.dec]
@[go_sem] theorem qc (l:List Wt):vl (wts l)=l:=by
 simp only [vl,wts,List.map_map]
 exact List.map_id'' (fun e=>Wt.yd e) l
@[go_sem] theorem xd4 (a b:List Wt):wts a++wts b=wts (a++b):=by simp [wts]
@[go_sem] theorem kdo (l:List Wt) (k:Nat):(wts l).drop k=wts (l.drop k):=by simp [wts]
@[go_sem] theorem wdo (l:List Wt) (k:Nat):(wts l).take k=wts (l.take k):=by simp [wts]
@[go_sem] theorem jd4 (z4:Int) (z5:Option Nat) (hz4:0≤z4):[[C.int .u64 z4,C.flt .f64 z5]]=wts [⟨z4.toNat,z5⟩]:=by simp [wts,Wt.enc,Int.toNat_of_nonneg hz4]
@[go_sem] theorem kd4 (l:List Wt) (i:Nat) (z4:Int) (z5:Option Nat) (hz4:0≤z4):(wts l).set i [C.int .u64 z4,C.flt .f64 z5]=wts (l.set i ⟨z4.toNat,z5⟩):=by simp [wts,List.map_set,Wt.enc,Int.toNat_of_nonneg hz4]
@[go_sem] theorem jdo (l:List Wt) (z4:Int) (z5:Option Nat) (hz4:0≤z4):[C.int .u64 z4,C.flt .f64 z5]::wts l=wts (⟨z4.toNat,z5⟩::l):=by simp [wts,Wt.enc,Int.toNat_of_nonneg hz4]
@[go_sem] theorem vdo (l:List Wt):kS (wts l)=True:=eq_true fun x hx c hc=>by
 obtain⟨e,_,rfl⟩:=List.mem_map.1 hx
 simp only [Wt.enc,List.mem_cons,List.not_mem_nil,or_false]at hc
 rcases hc with rfl|rfl<;>rfl
@[go_sem] theorem Wt.eta {e:Wt}:(⟨e.id,e.w⟩:Wt)=e:=rfl
end Dm
namespace Dm
open Go Go.Proofs Go.IntWalk
structure Wl where
 c:List Ch
 w:List Wt
 i:List Iv
 p:List Py
 f:Fd
 next:Nat
 tick:Nat
deriving DecidableEq,Inhabited
@[go_sem] def Wl.enc (e:Wl):List C:=[.sl (chs e.c), .sl (wts e.w), .sl (ivs e.i), .sl (pys e.p), .int .u64 (e.f.next:Int), .sl (evs e.f.l), .int .u64 (e.next:Int), .int .u64 (e.tick:Int)]
def Wl.dec:List C→Wl
 |[.sl z7, .sl z8, .sl z9, .sl z10, .int .u64 z12, .sl z13, .int .u64 z14, .int .u64 z15]=>(⟨(ug z7),(vl z8),(qi z9),(ji z10),(⟨z12.toNat,(xh z13)⟩:Fd),z14.toNat,z15.toNat⟩:Wl)
 |_=>default
def wls (l:List Wl):List (List C):=l.map Wl.enc
def beb (l:List (List C)):List Wl:=l.map Wl.dec
@[simp,go_sem] theorem bct (l:List Wl):(wls l).length=l.length:=by simp [wls]
@[go_sem] theorem bd3 (l:List Wl) (i:Nat):(wls l).getD i [.sl [], .sl [], .sl [], .sl [], .int .u64 0, .sl [], .int .u64 0, .int .u64 0]=(l.getD i default).enc:=by
 simp only [wls,List.getD_eq_getElem?_getD,List.getElem?_map]
 cases l[i]? <;>rfl
@[go_sem] theorem qdo (l:List Wl):uf 8 (wls l)=True:=by
 simp [uf,wls,Wl.enc]
theorem Wl.yd (e:Wl):Wl.dec e.enc=e:=by
 simp [Wl.enc,Wl.dec,yb,qb,vb,jb,qc]
@[go_sem] theorem vc3 (l:List Wl):beb (wls l)=l:=by
 simp only [beb,wls,List.map_map]
 exact List.map_id'' (fun e=>Wl.yd e) l
@[go_sem] theorem gd3 (a b:List Wl):wls a++wls b=wls (a++b):=by simp [wls]
@[go_sem] theorem ydo (l:List Wl) (k:Nat):(wls l).drop k=wls (l.drop k):=by simp [wls]
@[go_sem] theorem xdo (l:List Wl) (k:Nat):(wls l).take k=wls (l.take k):=by simp [wls]
@[go_sem] theorem zd4 (z16:List Ch) (z17:List Wt) (z18:List Iv) (z19:List Py) (z20:Int) (z21:List Ev) (z22:Int) (z23:Int) (hz20:0≤z20) (hz22:0≤z22) (hz23:0≤z23):[[C.sl (chs z16),C.sl (wts z17),C.sl (ivs z18),C.sl (pys z19),C.int .u64 z20,C.sl (evs z21),C.int .u64 z22,C.int .u64 z23]]=wls [⟨z16,z17,z18,z19,⟨z20.toNat,z21⟩,z22.toNat,z23.toNat⟩]:=by simp [wls,Wl.enc,Int.toNat_of_nonneg hz20,Int.toNat_of_nonneg hz22,Int.toNat_of_nonneg hz23]
@[go_sem] theorem yd4 (l:List Wl) (i:Nat) (z16:List Ch) (z17:List Wt) (z18:List Iv) (z19:List Py) (z20:Int) (z21:List Ev) (z22:Int) (z23:Int) (hz20:0≤z20) (hz22:0≤z22) (hz23:0≤z23):(wls l).set i [C.sl (chs z16),C.sl (wts z17),C.sl (ivs z18),C.sl (pys z19),C.int .u64 z20,C.sl (evs z21),C.int .u64 z22,C.int .u64 z23]=wls (l.set i ⟨z16,z17,z18,z19,⟨z20.toNat,z21⟩,z22.toNat,z23.toNat⟩):=by simp [wls,List.map_set,Wl.enc,Int.toNat_of_nonneg hz20,Int.toNat_of_nonneg hz22,Int.toNat_of_nonneg hz23]
@[go_sem] theorem zdo (l:List Wl) (z16:List Ch) (z17:List Wt) (z18:List Iv) (z19:List Py) (z20:Int) (z21:List Ev) (z22:Int) (z23:Int) (hz20:0≤z20) (hz22:0≤z22) (hz23:0≤z23):[C.sl (chs z16),C.sl (wts z17),C.sl (ivs z18),C.sl (pys z19),C.int .u64 z20,C.sl (evs z21),C.int .u64 z22,C.int .u64 z23]::wls l=wls (⟨z16,z17,z18,z19,⟨z20.toNat,z21⟩,z22.toNat,z23.toNat⟩::l):=by simp [wls,Wl.enc,Int.toNat_of_nonneg hz20,Int.toNat_of_nonneg hz22,Int.toNat_of_nonneg hz23]
@[go_sem] theorem Wl.eta {e:Wl}:(⟨e.c,e.w,e.i,e.p,e.f,e.next,e.tick⟩:Wl)=e:=rfl
def okW (w:Wl):Prop:=vbw w.c∧waM w.i∧xbE w.f∧w.w.length≤32∧w.next≠0∧w.next≤MM∧(0<w.p.length→(w.p.getD (w.p.length - 1) default).id<w.next)∧jX w.p w.c=(true,0)
instance (w:Wl):Decidable (okW w):=by unfold okW;infer_instance
def wU (w:Wl):Int:=if okW w then 0 else 1
theorem ybM {w:Wl}:wU w=0↔okW w:=by unfold wU;split<;>rename_i h<;>simp only [h]<;>decide
@[go_sem] def vbQ:D:= .agg [.sl (chs []), .sl (wts []), .sl (ivs []), .sl (pys []), .int .u64 1, .sl (evs []), .int .u64 1, .int .u64 0]
@[go_sem] abbrev yek:FuncId:=35
@[go_sem] def xcV:Tab:=[(102,kao)]
theorem bbv:za Tryz.prog xcV:=(za.cons kba za.nil)
set_option maxRecDepth 8000 in
set_option maxHeartbeats 1000000 in
theorem xcf:va Tryz.prog 35 [] (vbQ):=by
 refine .of (zes bbv (Nat.le_of_ble_eq_true rfl) ?_)
 simp -implicitDefEqProofs only [cdA,go_sem,Go.Proofs.Tryz.f35,reduceIte,reduceCtorEq,Nat.reduceEqDiff,Nat.reduceAdd,Nat.reduceLeDiff,Nat.reduceSub,Nat.reduceMul,Nat.reduceLT,Nat.reduceShiftRight,Nat.reduceMod,Int.reduceLE,Int.reduceLT,Int.reduceToNat,List.cons.injEq,cdB]
 exact⟨rfl,rfl,rfl,rfl⟩
def qar:List D→Option (Prop×D×Fr)
 |[]=>some (True,vbQ,[])
 |_=>none
attribute [go_sem] qar
theorem xbb:∀rs p r fr,qar rs=some (p,r,fr)→p→uc Tryz.prog 35 rs r fr:=by
 intro rs p r fr h hp
 unfold qar at h
 split at h<;>cases h
 exact xcf
@[go_sem] def za2 (w:Wl):D:= .int .i64 (wU w)
@[go_sem] abbrev wde:FuncId:=82
@[go_sem] def ybK:Tab:=[(159,uN),(160,bD),(161,yN),(162,bN)]
theorem wac:za Tryz.prog ybK:=(za.cons uaE (za.cons kW (za.cons jaE (za.cons baE za.nil))))
set_option maxRecDepth 8000 in
set_option maxHeartbeats 1000000 in
theorem kbv (w:Wl) (h:w.f.next≤18446744073709551615):va Tryz.prog 82 [.agg [.sl (chs w.c), .sl (wts w.w), .sl (ivs w.i), .sl (pys w.p), .c (.int .u64 (w.f.next:Int)), .sl (evs w.f.l), .c (.int .u64 (w.next:Int)), .c (.int .u64 (w.tick:Int))]] (za2 w):=by
 refine .of (xev wac (Nat.le_of_ble_eq_true rfl) ?_)
 simp -implicitDefEqProofs only [cdA,go_sem,Go.Proofs.Tryz.f82,reduceIte,reduceCtorEq,Nat.reduceEqDiff,Nat.reduceAdd,Nat.reduceLeDiff,Nat.reduceSub,Nat.reduceMul,Nat.reduceLT,Nat.reduceShiftRight,Nat.reduceMod,Int.reduceLE,Int.reduceLT,Int.reduceToNat,List.cons.injEq,cdB]
 have hbad:¬okW w→1=wU w:=fun h=>by rw [wU,if_neg h]
 have hl0:qbw w.c=0↔vbw w.c:=by unfold qbw;split<;>rename_i h<;>simp only [h]<;>decide
 have hi0:bac w.i=0↔waM w.i:=by unfold bac;split<;>rename_i h<;>simp only [h]<;>decide
 refine⟨fun h1=>⟨fun h2=>⟨h,fun h3 _=>⟨fun h4=>⟨fun h5=>⟨fun h6=>hbad fun ho=> ?_,fun h6 _=> ?_⟩,fun h5=>hbad fun ho=> ?_⟩,fun h4=>hbad fun ho=> ?_⟩,fun h3=>hbad fun ho=>h3 (jaT.2 ho.2.2.1)⟩,fun h2=>hbad fun ho=>h2 (hi0.2 ho.2.1)⟩,fun h1=>hbad fun ho=>h1 (hl0.2 ho.1)⟩
 rotate_left 1
 ·refine ud.run qcU wac ja (by kernel_rfl) (by kernel_rfl) ?_
  simp -implicitDefEqProofs only [cdA,go_sem,reduceIte,reduceCtorEq,Nat.reduceEqDiff,Nat.reduceAdd,Nat.reduceLeDiff,Nat.reduceSub,Nat.reduceMul,Nat.reduceLT,Nat.reduceShiftRight,Nat.reduceMod,Int.reduceLE,Int.reduceLT,Int.reduceToNat,List.cons.injEq,cdB]
  have hL:=hl0.1 h1
  have hh:∀c∈w.c,c.holds.length≤1000000:=fun c hc=>by have:=(hL.2.1 c hc).2.2.1;omega
  have hfin:(0<w.p.length→(w.p.getD (w.p.length - 1) default).id<w.next)→((jX w.p w.c).2=0→((jX w.p w.c).1=true→0=wU w)∧((jX w.p w.c).1=false→1=wU w))∧(¬(jX w.p w.c).2=0→1=wU w):=fun h7=>
   ⟨fun h8=>⟨fun h9=>by
    rw [wU,if_pos (show okW w from⟨hL,hi0.1 h2,jaT.1 h3,by omega,by omega,by unfold MM;omega,h7,Prod.ext h9 h8⟩)],fun h9=>hbad fun ho=>by have:=ho.2.2.2.2.2.2.2;rw [this]at h9;cases h9⟩,
    fun h8=>hbad fun ho=>by have:=ho.2.2.2.2.2.2.2;rw [this]at h8;exact h8 rfl⟩
  refine⟨fun h7=> ?_,fun h7=>⟨hh,hfin fun h=>absurd h (by omega)⟩⟩
  rw [i64_in _ (by omega),show((w.p.length:Int) - 1).toNat=w.p.length - 1 by omega]
  refine⟨by omega,fun h8=>hbad fun ho=> ?_,fun h8=>⟨hh,hfin fun _=>by omega⟩⟩
  have:=ho.2.2.2.2.2.2.1 (by omega);omega
 ·have:=ho.2.2.2.2.1;omega
 ·have:=ho.2.2.2.1;omega
 ·have:=ho.2.2.2.2.2.1;unfold MM at this;omega
@[go_sem] def ba1 (w:Wl):Prop:=(w.f.next≤18446744073709551615)
def jE:List D→Option (Prop×D×Fr)
 |[.agg [.c (.sl z25), .c (.sl z26), .c (.sl z27), .c (.sl z28), .c (.int .u64 z30), .c (.sl z31), .c (.int .u64 z32), .c (.int .u64 z33)]]=>some (z25=chs (ug z25)∧z26=wts (vl z26)∧z27=ivs (qi z27)∧z28=pys (ji z28)∧z30=(z30.toNat:Int)∧z31=evs (xh z31)∧z32=(z32.toNat:Int)∧z33=(z33.toNat:Int)∧ba1 (⟨(ug z25),(vl z26),(qi z27),(ji z28),(⟨z30.toNat,(xh z31)⟩:Fd),z32.toNat,z33.toNat⟩:Wl),za2 (⟨(ug z25),(vl z26),(qi z27),(ji z28),(⟨z30.toNat,(xh z31)⟩:Fd),z32.toNat,z33.toNat⟩:Wl),[])
 |_=>none
attribute [go_sem] jE
theorem wW:∀rs p r fr,jE rs=some (p,r,fr)→p→uc Tryz.prog 82 rs r fr:=by
 intro rs p r fr h hp
 unfold jE at h
 split at h<;>cases h
 obtain⟨hc0,hc1,hc2,hc3,hc4,hc5,hc6,hc7,hp⟩:=hp
 rename_i z25 z26 z27 z28 z30 z31 z32 z33
 obtain⟨z25,rfl⟩:∃m,z25=chs m:=⟨_,hc0⟩
 obtain⟨z26,rfl⟩:∃m,z26=wts m:=⟨_,hc1⟩
 obtain⟨z27,rfl⟩:∃m,z27=ivs m:=⟨_,hc2⟩
 obtain⟨z28,rfl⟩:∃m,z28=pys m:=⟨_,hc3⟩
 obtain⟨z30,rfl⟩:∃m:Nat,z30=m:=⟨_,hc4⟩
 obtain⟨z31,rfl⟩:∃m,z31=evs m:=⟨_,hc5⟩
 obtain⟨z32,rfl⟩:∃m:Nat,z32=m:=⟨_,hc6⟩
 obtain⟨z33,rfl⟩:∃m:Nat,z33=m:=⟨_,hc7⟩
 simp only [Int.toNat_natCast,yb,qb,vb,jb,qc]
 simp only [Int.toNat_natCast,yb,qb,vb,jb,qc,ba1]at hp
 exact kbv ⟨z25,z26,z27,z28,⟨z30,z31⟩,z32,z33⟩ hp
end Dm
namespace Dm
open Go Go.Proofs Go.IntWalk
@[go_sem] def waU (l:List Hd):D:= .sl (hds l)
@[go_sem] abbrev vdb:FuncId:=132
@[go_sem] def zbB:Tab:=[]
theorem yaL:za Tryz.prog zbB:=za.nil
set_option maxRecDepth 8000 in
set_option maxHeartbeats 1000000 in
theorem jbh (l:List Hd) (h:l.length≤1000000):va Tryz.prog 132 [.sl (hds l)] (waU l):=by
 refine .of (jdw yaL (Nat.le_of_ble_eq_true rfl) ?_)
 simp -implicitDefEqProofs only [cdA,go_sem,Go.Proofs.Tryz.f132,reduceIte,reduceCtorEq,Nat.reduceEqDiff,Nat.reduceAdd,Nat.reduceLeDiff,Nat.reduceSub,Nat.reduceMul,Nat.reduceLT,Nat.reduceShiftRight,Nat.reduceMod,Int.reduceLE,Int.reduceLT,Int.reduceToNat,List.cons.injEq,cdB]
 exact fun b hb=>⟨hb,fun _=>⟨by omega,_,_,_,rfl⟩⟩
@[go_sem] def vaU (l:List Hd):Prop:=(l.length≤1000000)
def gD:List D→Option (Prop×D×Fr)
 |[.c (.sl z183)]=>some (z183=hds (yad z183)∧vaU (yad z183),waU (yad z183),[])
 |_=>none
attribute [go_sem] gD
theorem jW:∀rs p r fr,gD rs=some (p,r,fr)→p→uc Tryz.prog 132 rs r fr:=by
 intro rs p r fr h hp
 unfold gD at h
 split at h<;>cases h
 obtain⟨hc0,hp⟩:=hp
 rename_i z183
 obtain⟨z183,rfl⟩:∃m,z183=hds m:=⟨_,hc0⟩
 simp only [wk]
 simp only [wk,vaU]at hp
 exact jbh z183 hp
end Dm
namespace Dm
open Go Go.Proofs Go.IntWalk
@[go_sem] def qaT (l:List Ch):D:= .vec 0 l.length
@[go_sem] def gat (l:List Ch):Fr:=[(7,86,true,chs l)]
@[go_sem] abbrev ydb:FuncId:=127
@[go_sem] def xby:Tab:=[]
theorem vaK:za Tryz.prog xby:=za.nil
set_option maxRecDepth 8000 in
set_option maxHeartbeats 1000000 in
theorem gbe (l:List Ch) (h:l.length≤1000000):ki Tryz.prog 127 [.sl (chs l)] (qaT l) (gat l):=by
 refine .of (zdw vaK (Nat.le_of_ble_eq_true rfl) ?_)
 simp -implicitDefEqProofs only [cdA,go_sem,Go.Proofs.Tryz.f127,reduceIte,reduceCtorEq,Nat.reduceEqDiff,Nat.reduceAdd,Nat.reduceLeDiff,Nat.reduceSub,Nat.reduceMul,Nat.reduceLT,Nat.reduceShiftRight,Nat.reduceMod,Int.reduceLE,Int.reduceLT,Int.reduceToNat,List.cons.injEq,cdB]
 refine fun b hb=>⟨fun h=> ?_,fun h=> ?_⟩
 ·exact⟨[none],by simp [go_sem,hb h],by cases l<;>simp_all [go_sem,chs]⟩
 ·exact⟨by omega,[some 0],by simp [go_sem]⟩
@[go_sem] def xaT (l:List Ch):Prop:=(l.length≤1000000)
def wD:List D→Option (Prop×D×Fr)
 |[.c (.sl z184)]=>some (z184=chs (ug z184)∧xaT (ug z184),qaT (ug z184),gat (ug z184))
 |_=>none
attribute [go_sem] wD
theorem xW:∀rs p r fr,wD rs=some (p,r,fr)→p→uc Tryz.prog 127 rs r fr:=by
 intro rs p r fr h hp
 unfold wD at h
 split at h<;>cases h
 obtain⟨hc0,hp⟩:=hp
 rename_i z184
 obtain⟨z184,rfl⟩:∃m,z184=chs m:=⟨_,hc0⟩
 simp only [yb]
 simp only [yb,xaT]at hp
 exact(show uc _ _ _ _ _ from And.intro rfl (gbe z184 hp))
end Dm
namespace Dm
open Go Go.Proofs Go.IntWalk
end Dm
namespace Dm
open Go Go.Proofs Go.IntWalk
@[go_sem] def jaJ (l:List Wt):D:= .sl (wts l)
@[go_sem] abbrev xcN:FuncId:=128
@[go_sem] def zbw:Tab:=[]
theorem xaJ:za Tryz.prog zbw:=za.nil
set_option maxRecDepth 8000 in
set_option maxHeartbeats 1000000 in
theorem xbc (l:List Wt) (h:l.length≤1000000):va Tryz.prog 128 [.sl (wts l)] (jaJ l):=by
 refine .of (ydw xaJ (Nat.le_of_ble_eq_true rfl) ?_)
 simp -implicitDefEqProofs only [cdA,go_sem,Go.Proofs.Tryz.f128,reduceIte,reduceCtorEq,Nat.reduceEqDiff,Nat.reduceAdd,Nat.reduceLeDiff,Nat.reduceSub,Nat.reduceMul,Nat.reduceLT,Nat.reduceShiftRight,Nat.reduceMod,Int.reduceLE,Int.reduceLT,Int.reduceToNat,List.cons.injEq,cdB]
 exact fun b hb=>⟨hb,fun _=>⟨by omega,_,_,_,rfl⟩⟩
@[go_sem] def qaJ (l:List Wt):Prop:=(l.length≤1000000)
def ux:List D→Option (Prop×D×Fr)
 |[.c (.sl z34)]=>some (z34=wts (vl z34)∧qaJ (vl z34),jaJ (vl z34),[])
 |_=>none
attribute [go_sem] ux
theorem vR:∀rs p r fr,ux rs=some (p,r,fr)→p→uc Tryz.prog 128 rs r fr:=by
 intro rs p r fr h hp
 unfold ux at h
 split at h<;>cases h
 obtain⟨hc0,hp⟩:=hp
 rename_i z34
 obtain⟨z34,rfl⟩:∃m,z34=wts m:=⟨_,hc0⟩
 simp only [qc]
 simp only [qc,qaJ]at hp
 exact xbc z34 hp
@[go_sem] def bav (l:List Iv):D:= .sl (ivs l)
@[go_sem] abbrev zcK:FuncId:=129
@[go_sem] def zbj:Tab:=[]
theorem uav:za Tryz.prog zbj:=za.nil
set_option maxRecDepth 8000 in
set_option maxHeartbeats 1000000 in
theorem ya5 (l:List Iv) (h:l.length≤1000000):va Tryz.prog 129 [.sl (ivs l)] (bav l):=by
 refine .of (qcv uav (Nat.le_of_ble_eq_true rfl) ?_)
 simp -implicitDefEqProofs only [cdA,go_sem,Go.Proofs.Tryz.f129,reduceIte,reduceCtorEq,Nat.reduceEqDiff,Nat.reduceAdd,Nat.reduceLeDiff,Nat.reduceSub,Nat.reduceMul,Nat.reduceLT,Nat.reduceShiftRight,Nat.reduceMod,Int.reduceLE,Int.reduceLT,Int.reduceToNat,List.cons.injEq,cdB]
 exact fun b hb=>⟨hb,fun _=>⟨by omega,_,_,_,rfl⟩⟩
@[go_sem] def gav (l:List Iv):Prop:=(l.length≤1000000)
def jv:List D→Option (Prop×D×Fr)
 |[.c (.sl z35)]=>some (z35=ivs (qi z35)∧gav (qi z35),bav (qi z35),[])
 |_=>none
attribute [go_sem] jv
theorem vN:∀rs p r fr,jv rs=some (p,r,fr)→p→uc Tryz.prog 129 rs r fr:=by
 intro rs p r fr h hp
 unfold jv at h
 split at h<;>cases h
 obtain⟨hc0,hp⟩:=hp
 rename_i z35
 obtain⟨z35,rfl⟩:∃m,z35=ivs m:=⟨_,hc0⟩
 simp only [vb]
 simp only [vb,gav]at hp
 exact ya5 z35 hp
@[go_sem] def gay (l:List Py):D:= .sl (pys l)
@[go_sem] abbrev xcK:FuncId:=130
@[go_sem] def xbn:Tab:=[]
theorem vay:za Tryz.prog xbn:=za.nil
set_option maxRecDepth 8000 in
set_option maxHeartbeats 1000000 in
theorem xa6 (l:List Py) (h:l.length≤1000000):va Tryz.prog 130 [.sl (pys l)] (gay l):=by
 refine .of (xdw vay (Nat.le_of_ble_eq_true rfl) ?_)
 simp -implicitDefEqProofs only [cdA,go_sem,Go.Proofs.Tryz.f130,reduceIte,reduceCtorEq,Nat.reduceEqDiff,Nat.reduceAdd,Nat.reduceLeDiff,Nat.reduceSub,Nat.reduceMul,Nat.reduceLT,Nat.reduceShiftRight,Nat.reduceMod,Int.reduceLE,Int.reduceLT,Int.reduceToNat,List.cons.injEq,cdB]
 exact fun b hb=>⟨hb,fun _=>⟨by omega,_,_,_,rfl⟩⟩
@[go_sem] def uay (l:List Py):Prop:=(l.length≤1000000)
def wv:List D→Option (Prop×D×Fr)
 |[.c (.sl z36)]=>some (z36=pys (ji z36)∧uay (ji z36),gay (ji z36),[])
 |_=>none
attribute [go_sem] wv
theorem xO:∀rs p r fr,wv rs=some (p,r,fr)→p→uc Tryz.prog 130 rs r fr:=by
 intro rs p r fr h hp
 unfold wv at h
 split at h<;>cases h
 obtain⟨hc0,hp⟩:=hp
 rename_i z36
 obtain⟨z36,rfl⟩:∃m,z36=pys m:=⟨_,hc0⟩
 simp only [jb]
 simp only [jb,uay]at hp
 exact xa6 z36 hp
@[go_sem] def uaf (l:List Ev):D:= .sl (evs l)
@[go_sem] abbrev jco:FuncId:=131
@[go_sem] def ja3:Tab:=[]
theorem gal:za Tryz.prog ja3:=za.nil
set_option maxRecDepth 8000 in
set_option maxHeartbeats 1000000 in
theorem zaL (l:List Ev) (h:l.length≤1000000):va Tryz.prog 131 [.sl (evs l)] (uaf l):=by
 refine .of (qdw gal (Nat.le_of_ble_eq_true rfl) ?_)
 simp -implicitDefEqProofs only [cdA,go_sem,Go.Proofs.Tryz.f131,reduceIte,reduceCtorEq,Nat.reduceEqDiff,Nat.reduceAdd,Nat.reduceLeDiff,Nat.reduceSub,Nat.reduceMul,Nat.reduceLT,Nat.reduceShiftRight,Nat.reduceMod,Int.reduceLE,Int.reduceLT,Int.reduceToNat,List.cons.injEq,cdB]
 exact fun b hb=>⟨hb,fun _=>⟨by omega,_,_,_,rfl⟩⟩
@[go_sem] def waf (l:List Ev):Prop:=(l.length≤1000000)
def uq:List D→Option (Prop×D×Fr)
 |[.c (.sl z37)]=>some (z37=evs (xh z37)∧waf (xh z37),uaf (xh z37),[])
 |_=>none
attribute [go_sem] uq
theorem qJ:∀rs p r fr,uq rs=some (p,r,fr)→p→uc Tryz.prog 131 rs r fr:=by
 intro rs p r fr h hp
 unfold uq at h
 split at h<;>cases h
 obtain⟨hc0,hp⟩:=hp
 rename_i z37
 obtain⟨z37,rfl⟩:∃m,z37=evs m:=⟨_,hc0⟩
 simp only [qb]
 simp only [qb,waf]at hp
 exact zaL z37 hp
def gaD (w:Wl):Prop:=w.c.length≤1000000∧(∀c∈w.c,c.holds.length≤1000000)∧w.w.length≤1000000∧w.i.length≤1000000∧w.p.length≤1000000∧w.f.l.length≤1000000
@[go_sem] def ubQ (w:Wl):D:= .agg [.sl (chs w.c), .sl (wts w.w), .sl (ivs w.i), .sl (pys w.p), .int .u64 w.f.next, .sl (evs w.f.l), .int .u64 w.next, .int .u64 w.tick]
@[go_sem] abbrev xek:FuncId:=189
@[go_sem] def qcV:Tab:=[(127,wD),(132,gD),(128,ux),(129,jv),(130,wv),(131,uq)]
theorem gR:za Tryz.prog qcV:=(za.cons xW (za.cons jW (za.cons vR (za.cons vN (za.cons xO (za.cons qJ za.nil))))))
set_option maxRecDepth 8000 in
set_option maxHeartbeats 1000000 in
theorem jcf (w:Wl) (h:gaD w):va Tryz.prog 189 [.agg [.sl (chs w.c), .sl (wts w.w), .sl (ivs w.i), .sl (pys w.p), .c (.int .u64 (w.f.next:Int)), .sl (evs w.f.l), .c (.int .u64 (w.next:Int)), .c (.int .u64 (w.tick:Int))]] (ubQ w):=by
 refine .of (ydz gR (Nat.le_of_ble_eq_true rfl) ?_)
 simp -implicitDefEqProofs only [cdA,go_sem,Go.Proofs.Tryz.f189,reduceIte,reduceCtorEq,Nat.reduceEqDiff,Nat.reduceAdd,Nat.reduceLeDiff,Nat.reduceSub,Nat.reduceMul,Nat.reduceLT,Nat.reduceShiftRight,Nat.reduceMod,Int.reduceLE,Int.reduceLT,Int.reduceToNat,List.cons.injEq,cdB]
 refine ud.run ycd gR ja (by kernel_rfl) (by kernel_rfl) ?_
 simp -implicitDefEqProofs only [cdA,go_sem,reduceIte,reduceCtorEq,Nat.reduceEqDiff,Nat.reduceAdd,Nat.reduceLeDiff,Nat.reduceSub,Nat.reduceMul,Nat.reduceLT,Nat.reduceShiftRight,Nat.reduceMod,Int.reduceLE,Int.reduceLT,Int.reduceToNat,List.cons.injEq,cdB]
 obtain⟨h1,h2,h3,h4,h5,h6⟩:=h
 refine⟨h1,h3,h4,h5,h6,fun _=>SWp.loop (ι:={i:Nat // i≤w.c.length}) (fun i=>⟨[(1, .ref 0 0),(2, .ref 1 0),(28, .vec 2 w.c.length),(29, .int .i64 w.c.length),(30, .int .i64 i.1)],
  [(2, .vec true 7 86 (chs w.c)),(0, .box [.vec 2 w.c.length, .sl (wts w.w), .sl (ivs w.i), .sl (pys w.p), .c (.int .u64 w.f.next), .sl (evs w.f.l), .c (.int .u64 w.next), .c (.int .u64 w.tick)]),
    (1, .box [.nil, .nil, .nil, .nil, .c (.int .u64 0), .nil, .c (.int .u64 0), .c (.int .u64 0)])],3⟩) (fun i=>w.c.length - i.1) ⟨0,by omega⟩ ?_ ?_⟩
 ·simp [go_sem]
 ·rintro⟨i,hi⟩
  refine qa gR.toS kb2 _ _ _ rfl ?_
  simp -implicitDefEqProofs only [cdA,go_sem,reduceIte,reduceCtorEq,Nat.reduceEqDiff,Nat.reduceAdd,Nat.reduceLeDiff,Nat.reduceSub,Nat.reduceMul,Nat.reduceLT,Nat.reduceShiftRight,Nat.reduceMod,Int.reduceLE,Int.reduceLT,Int.reduceToNat,List.cons.injEq,cdB]
  refine⟨fun h7=>⟨by omega,by omega, ?_⟩,fun _=>⟨_,_,_,rfl⟩⟩
  have hi':i<w.c.length:=by omega
  have hself:w.c.set i (w.c.getD i default)=w.c:=by
   rw [we hi'];exact List.set_getElem_self hi'
  have hhl:=h2 _ (ua.2 ⟨i,hi',rfl⟩)
  refine ud.run xcd gR ja (by kernel_rfl) (by kernel_rfl) ?_
  simp -implicitDefEqProofs only [cdA,go_sem,reduceIte,reduceCtorEq,Nat.reduceEqDiff,Nat.reduceAdd,Nat.reduceLeDiff,Nat.reduceSub,Nat.reduceMul,Nat.reduceLT,Nat.reduceShiftRight,Nat.reduceMod,Int.reduceLE,Int.reduceLT,Int.reduceToNat,List.cons.injEq,cdB]
  exact⟨hhl,by omega,hi',⟨i+1,hi'⟩,by dsimp only;omega,i64_in _ (by omega),by rw [hself]⟩
@[go_sem] def wbQ (w:Wl):Prop:=(gaD w)
def jar:List D→Option (Prop×D×Fr)
 |[.agg [.c (.sl z39), .c (.sl z40), .c (.sl z41), .c (.sl z42), .c (.int .u64 z44), .c (.sl z45), .c (.int .u64 z46), .c (.int .u64 z47)]]=>some (z39=chs (ug z39)∧z40=wts (vl z40)∧z41=ivs (qi z41)∧z42=pys (ji z42)∧z44=(z44.toNat:Int)∧z45=evs (xh z45)∧z46=(z46.toNat:Int)∧z47=(z47.toNat:Int)∧wbQ (⟨(ug z39),(vl z40),(qi z41),(ji z42),(⟨z44.toNat,(xh z45)⟩:Fd),z46.toNat,z47.toNat⟩:Wl),ubQ (⟨(ug z39),(vl z40),(qi z41),(ji z42),(⟨z44.toNat,(xh z45)⟩:Fd),z46.toNat,z47.toNat⟩:Wl),[])
 |_=>none
attribute [go_sem] jar
theorem qbb:∀rs p r fr,jar rs=some (p,r,fr)→p→uc Tryz.prog 189 rs r fr:=by
 intro rs p r fr h hp
 unfold jar at h
 split at h<;>cases h
 obtain⟨hc0,hc1,hc2,hc3,hc4,hc5,hc6,hc7,hp⟩:=hp
 rename_i z39 z40 z41 z42 z44 z45 z46 z47
 obtain⟨z39,rfl⟩:∃m,z39=chs m:=⟨_,hc0⟩
 obtain⟨z40,rfl⟩:∃m,z40=wts m:=⟨_,hc1⟩
 obtain⟨z41,rfl⟩:∃m,z41=ivs m:=⟨_,hc2⟩
 obtain⟨z42,rfl⟩:∃m,z42=pys m:=⟨_,hc3⟩
 obtain⟨z44,rfl⟩:∃m:Nat,z44=m:=⟨_,hc4⟩
 obtain⟨z45,rfl⟩:∃m,z45=evs m:=⟨_,hc5⟩
 obtain⟨z46,rfl⟩:∃m:Nat,z46=m:=⟨_,hc6⟩
 obtain⟨z47,rfl⟩:∃m:Nat,z47=m:=⟨_,hc7⟩
 simp only [Int.toNat_natCast,yb,qb,vb,jb,qc]
 simp only [Int.toNat_natCast,yb,qb,vb,jb,qc,wbQ]at hp
 exact jcf ⟨z39,z40,z41,z42,⟨z44,z45⟩,z46,z47⟩ hp
end Dm
namespace Dm
open Go Go.Proofs Go.IntWalk
structure Rk where
 id:Nat
 key:Nat
 gone:Bool
deriving DecidableEq,Inhabited
@[go_sem] def Rk.enc (e:Rk):List C:=[.int .u64 (e.id:Int), .int .u64 (e.key:Int), .bool e.gone]
def Rk.dec:List C→Rk
 |[.int .u64 z2, .int .u64 z3, .bool z4]=>(⟨z2.toNat,z3.toNat,z4⟩:Rk)
 |_=>default
def rks (l:List Rk):List (List C):=l.map Rk.enc
def vj (l:List (List C)):List Rk:=l.map Rk.dec
@[simp,go_sem] theorem bh (l:List Rk):(rks l).length=l.length:=by simp [rks]
@[go_sem] theorem udW (l:List Rk) (i:Nat):(rks l).getD i [.int .u64 0, .int .u64 0, .bool false]=(l.getD i default).enc:=by
 simp only [rks,List.getD_eq_getElem?_getD,List.getElem?_map]
 cases l[i]? <;>rfl
@[go_sem] theorem vbH (l:List Rk):uf 3 (rks l)=True:=by
 simp [uf,rks,Rk.enc]
theorem Rk.yd (e:Rk):Rk.dec e.enc=e:=by
 simp [Rk.enc,Rk.dec]
@[go_sem] theorem yc (l:List Rk):vj (rks l)=l:=by
 simp only [vj,rks,List.map_map]
 exact List.map_id'' (fun e=>Rk.yd e) l
@[go_sem] theorem wdW (a b:List Rk):rks a++rks b=rks (a++b):=by simp [rks]
@[go_sem] theorem xdi (l:List Rk) (k:Nat):(rks l).drop k=rks (l.drop k):=by simp [rks]
@[go_sem] theorem jdi (l:List Rk) (k:Nat):(rks l).take k=rks (l.take k):=by simp [rks]
@[go_sem] theorem gdW (z5:Int) (z6:Int) (z7:Bool) (hz5:0≤z5) (hz6:0≤z6):[[C.int .u64 z5,C.int .u64 z6,C.bool z7]]=rks [⟨z5.toNat,z6.toNat,z7⟩]:=by simp [rks,Rk.enc,Int.toNat_of_nonneg hz5,Int.toNat_of_nonneg hz6]
@[go_sem] theorem bdW (l:List Rk) (i:Nat) (z5:Int) (z6:Int) (z7:Bool) (hz5:0≤z5) (hz6:0≤z6):(rks l).set i [C.int .u64 z5,C.int .u64 z6,C.bool z7]=rks (l.set i ⟨z5.toNat,z6.toNat,z7⟩):=by simp [rks,List.map_set,Rk.enc,Int.toNat_of_nonneg hz5,Int.toNat_of_nonneg hz6]
@[go_sem] theorem ydi (l:List Rk) (z5:Int) (z6:Int) (z7:Bool) (hz5:0≤z5) (hz6:0≤z6):[C.int .u64 z5,C.int .u64 z6,C.bool z7]::rks l=rks (⟨z5.toNat,z6.toNat,z7⟩::l):=by simp [rks,Rk.enc,Int.toNat_of_nonneg hz5,Int.toNat_of_nonneg hz6]
@[go_sem] theorem qdi (l:List Rk):kS (rks l)=True:=eq_true fun x hx c hc=>by
 obtain⟨e,_,rfl⟩:=List.mem_map.1 hx
 simp only [Rk.enc,List.mem_cons,List.not_mem_nil,or_false]at hc
 rcases hc with rfl|rfl|rfl<;>rfl
@[go_sem] theorem Rk.eta {e:Rk}:(⟨e.id,e.key,e.gone⟩:Rk)=e:=rfl
@[go_sem] theorem Rk.eqD {a b:Rk}:eqD Tryz.prog 70 [D.c (.int .u64 (a.id:Int)),D.c (.int .u64 (a.key:Int)),D.c (.bool a.gone)] [D.c (.int .u64 (b.id:Int)),D.c (.int .u64 (b.key:Int)),D.c (.bool b.gone)]=some (decide (a=b)):=by
 cases a;cases b
 simp only [Dm.eqD,ubU,xo,eqC,List.getElem?_cons_zero,List.getElem?_cons_succ,if_true,Option.some.injEq,Rk.mk.injEq]
 rw [Bool.eq_iff_iff]
 simp [Int.ofNat_inj]
@[go_sem] def xaD (r:Rk) (id:Nat):D:= .int .i64 (zad r.id id)
@[go_sem] abbrev qcM:FuncId:=163
@[go_sem] def xbs:Tab:=[(225,xJ)]
theorem yaD:za Tryz.prog xbs:=(za.cons wq za.nil)
set_option maxRecDepth 8000 in
set_option maxHeartbeats 1000000 in
theorem ba9 (r:Rk) (id:Nat):va Tryz.prog 163 [.agg [.c (.int .u64 (r.id:Int)), .c (.int .u64 (r.key:Int)), .c (.bool r.gone)], .c (.int .u64 (id:Int))] (xaD r id):=by
 refine .of (ydy yaD (Nat.le_of_ble_eq_true rfl) ?_)
 simp -implicitDefEqProofs only [cdA,go_sem,Go.Proofs.Tryz.f163,reduceIte,reduceCtorEq,Nat.reduceEqDiff,Nat.reduceAdd,Nat.reduceLeDiff,Nat.reduceSub,Nat.reduceMul,Nat.reduceLT,Nat.reduceShiftRight,Nat.reduceMod,Int.reduceLE,Int.reduceLT,Int.reduceToNat,List.cons.injEq,cdB]
def gw:List D→Option (Prop×D×Fr)
 |[.agg [.c (.int .u64 z9), .c (.int .u64 z10), .c (.bool z11)], .c (.int .u64 z12)]=>some (z9=(z9.toNat:Int)∧z10=(z10.toNat:Int)∧z12=(z12.toNat:Int),xaD (⟨z9.toNat,z10.toNat,z11⟩:Rk) z12.toNat,[])
 |_=>none
attribute [go_sem] gw
theorem wQ:∀rs p r fr,gw rs=some (p,r,fr)→p→uc Tryz.prog 163 rs r fr:=by
 intro rs p r fr h hp
 unfold gw at h
 split at h<;>cases h
 obtain⟨hc0,hc1,hc2⟩:=hp
 rename_i z9 z10 z11 z12
 obtain⟨z9,rfl⟩:∃m:Nat,z9=m:=⟨_,hc0⟩
 obtain⟨z10,rfl⟩:∃m:Nat,z10=m:=⟨_,hc1⟩
 obtain⟨z12,rfl⟩:∃m:Nat,z12=m:=⟨_,hc2⟩
 simp only [Int.toNat_natCast]
 exact ba9 ⟨z9,z10,z11⟩ z12
def kJ (l:List Rk) (key:Nat):Bool:=decide (∃r∈l,r.key=key)
@[go_sem] def jaD (l:List Rk) (key:Nat):D:= .bool (kJ l key)
@[go_sem] abbrev jcM:FuncId:=139
@[go_sem] def qbs:Tab:=[]
theorem vn:za Tryz.prog qbs:=za.nil
set_option maxRecDepth 8000 in
set_option maxHeartbeats 1000000 in
theorem zba (l:List Rk) (key:Nat):va Tryz.prog 139 [.sl (rks l), .c (.int .u64 (key:Int))] (jaD l key):=by
 refine .of (bdw vn (Nat.le_of_ble_eq_true rfl) ?_)
 simp -implicitDefEqProofs only [cdA,go_sem,Go.Proofs.Tryz.f139,reduceIte,reduceCtorEq,Nat.reduceEqDiff,Nat.reduceAdd,Nat.reduceLeDiff,Nat.reduceSub,Nat.reduceMul,Nat.reduceLT,Nat.reduceShiftRight,Nat.reduceMod,Int.reduceLE,Int.reduceLT,Int.reduceToNat,List.cons.injEq,cdB]
 refine qdA vn (Nat.le_of_ble_eq_true rfl) ?_
 simp -implicitDefEqProofs only [cdA,go_sem,Go.Proofs.Tryz.f207,reduceIte,reduceCtorEq,Nat.reduceEqDiff,Nat.reduceAdd,Nat.reduceLeDiff,Nat.reduceSub,Nat.reduceMul,Nat.reduceLT,Nat.reduceShiftRight,Nat.reduceMod,Int.reduceLE,Int.reduceLT,Int.reduceToNat,List.cons.injEq,cdB]
 refine jdC vn (Nat.le_of_ble_eq_true rfl) ?_
 simp -implicitDefEqProofs only [cdA,go_sem,Go.Proofs.Tryz.f244,reduceIte,reduceCtorEq,Nat.reduceEqDiff,Nat.reduceAdd,Nat.reduceLeDiff,Nat.reduceSub,Nat.reduceMul,Nat.reduceLT,Nat.reduceShiftRight,Nat.reduceMod,Int.reduceLE,Int.reduceLT,Int.reduceToNat,List.cons.injEq,cdB]
 refine fun _=>SWp.loop (ι:={i:Nat // i≤l.length∧∀j,j<i→(l.getD j default).key≠key}) (fun i=>⟨[(0, .sl (rks l)),(1, .fn (.func 208) [] [.ref 0 0]),(7, .int .i64 l.length),(8, .int .i64 i.1)],[(0, .box [.c (.int .u64 key)])],1⟩) (fun i=>l.length - i.1) ⟨0,by simp⟩ ?_ ?_
 ·simp [go_sem]
 ·rintro⟨i,hi,hall⟩
  refine qa vn.toS gb3 _ _ _ rfl ?_
  simp -implicitDefEqProofs only [cdA,go_sem,reduceIte,reduceCtorEq,Nat.reduceEqDiff,Nat.reduceAdd,Nat.reduceLeDiff,Nat.reduceSub,Nat.reduceMul,Nat.reduceLT,Nat.reduceShiftRight,Nat.reduceMod,Int.reduceLE,Int.reduceLT,Int.reduceToNat,List.cons.injEq,cdB]
  refine⟨fun h4=>⟨h4, ?_⟩,fun h4=> ?_⟩
  ·skip
   refine jdA vn (Nat.le_of_ble_eq_true rfl) ?_
   simp -implicitDefEqProofs only [cdA,go_sem,Go.Proofs.Tryz.f208,reduceIte,reduceCtorEq,Nat.reduceEqDiff,Nat.reduceAdd,Nat.reduceLeDiff,Nat.reduceSub,Nat.reduceMul,Nat.reduceLT,Nat.reduceShiftRight,Nat.reduceMod,Int.reduceLE,Int.reduceLT,Int.reduceToNat,List.cons.injEq,cdB]
   have hi':i<l.length:=by omega
   refine⟨fun h5=>(decide_eq_true ⟨_,ua.2 ⟨i,hi',rfl⟩,by omega⟩).symm,fun h5=>⟨⟨i+1,hi',fun j hj=> ?_⟩,by dsimp only;omega,i64_in _ (by omega)⟩⟩
   by_cases hji:j=i
   ·subst hji;omega
   ·exact hall j (by omega)
  ·have hi':i=l.length:=by omega
   subst hi'
   rw [kJ,decide_eq_decide]
   refine⟨False.elim,fun⟨r,hr,hk⟩=> ?_⟩
   obtain⟨j,hj,rfl⟩:=ua.1 hr
   exact hall j hj hk
def bw:List D→Option (Prop×D×Fr)
 |[.c (.sl z13), .c (.int .u64 z14)]=>some (z13=rks (vj z13)∧z14=(z14.toNat:Int),jaD (vj z13) z14.toNat,[])
 |_=>none
attribute [go_sem] bw
theorem uQ:∀rs p r fr,bw rs=some (p,r,fr)→p→uc Tryz.prog 139 rs r fr:=by
 intro rs p r fr h hp
 unfold bw at h
 split at h<;>cases h
 obtain⟨hc0,hc1⟩:=hp
 rename_i z13 z14
 obtain⟨z13,rfl⟩:∃m,z13=rks m:=⟨_,hc0⟩
 obtain⟨z14,rfl⟩:∃m:Nat,z14=m:=⟨_,hc1⟩
 simp only [Int.toNat_natCast,yc]
 exact zba z13 z14
def kad (l:List Rk):Prop:=l.length≤64∧Srt.Chn Rk.id ltN l∧(l.map Rk.key).Nodup
instance (l:List Rk):Decidable (Srt.Chn Rk.id ltN l):=by unfold Srt.Chn;infer_instance
instance (l:List Rk):Decidable (kad l):=by unfold kad;infer_instance
def vU (l:List Rk):Int:=if kad l then 0 else 1
@[go_sem] def zaD (l:List Rk):D:= .int .i64 (vU l)
@[go_sem] abbrev xcM:FuncId:=83
@[go_sem] def gbr:Tab:=[(163,gw),(139,bw)]
theorem jD:za Tryz.prog gbr:=(za.cons wQ (za.cons uQ za.nil))
set_option maxRecDepth 8000 in
set_option maxHeartbeats 1000000 in
theorem ua9 (l:List Rk):va Tryz.prog 83 [.sl (rks l)] (zaD l):=by
 refine .of (qev jD (Nat.le_of_ble_eq_true rfl) ?_)
 simp -implicitDefEqProofs only [cdA,go_sem,Go.Proofs.Tryz.f83,reduceIte,reduceCtorEq,Nat.reduceEqDiff,Nat.reduceAdd,Nat.reduceLeDiff,Nat.reduceSub,Nat.reduceMul,Nat.reduceLT,Nat.reduceShiftRight,Nat.reduceMod,Int.reduceLE,Int.reduceLT,Int.reduceToNat,List.cons.injEq,cdB]
 have hbad:¬kad l→1=vU l:=fun h=>by rw [vU,if_neg h]
 refine fun _=>⟨fun h1=>hbad fun h=>by have:=h.1;omega,fun h1 _=> ?_⟩
 refine SWp.loop (ι:={i:Nat // i≤l.length∧(∀j,j<i→0<j→(l.getD (j - 1) default).id<(l.getD j default).id)∧((l.take i).map Rk.key).Nodup}) (fun i=>⟨[(0, .sl (rks l)),(8, .sl (rks l)),(9, .int .i64 l.length),(10, .int .i64 i.1)],[],0⟩) (fun i=>l.length - i.1) ⟨0,by simp,by simp,by simp⟩ ?_ ?_
 ·simp [go_sem]
 ·rintro⟨i,hi,hall,hnd⟩
  refine qa jD.toS udQ _ _ _ rfl ?_
  simp -implicitDefEqProofs only [cdA,go_sem,reduceIte,reduceCtorEq,Nat.reduceEqDiff,Nat.reduceAdd,Nat.reduceLeDiff,Nat.reduceSub,Nat.reduceMul,Nat.reduceLT,Nat.reduceShiftRight,Nat.reduceMod,Int.reduceLE,Int.reduceLT,Int.reduceToNat,List.cons.injEq,cdB]
  refine⟨fun h2=>⟨h2, ?_⟩,fun h2=> ?_⟩
  ·refine ud.run jcU jD ja (by kernel_rfl) (by kernel_rfl) ?_
   simp -implicitDefEqProofs only [cdA,go_sem,reduceIte,reduceCtorEq,Nat.reduceEqDiff,Nat.reduceAdd,Nat.reduceLeDiff,Nat.reduceSub,Nat.reduceMul,Nat.reduceLT,Nat.reduceShiftRight,Nat.reduceMod,Int.reduceLE,Int.reduceLT,Int.reduceToNat,List.cons.injEq,cdB]
   have hi':i<l.length:=by omega
   have htk:=take_succ hi'
   have hnext:(0<i→(l.getD (i - 1) default).id<(l.getD i default).id)→(kJ (l.take i) (l.getD i default).key=true→1=vU l)∧(kJ (l.take i) (l.getD i default).key=false→∃i_1:{i:Nat // i≤l.length∧(∀j,j<i→0<j→(l.getD (j - 1) default).id<(l.getD j default).id)∧((l.take i).map Rk.key).Nodup},l.length - i_1.val<l.length - i∧IntKind.i64.wrap ((i:Int)+1)=i_1.val):=fun ho=>by
    refine⟨fun h3=>hbad fun h=> ?_,fun h3=>⟨⟨i+1,hi',fun j hj h0=> ?_, ?_⟩,by dsimp only;omega,i64_in _ (by omega)⟩⟩
    ·obtain⟨r,hr,hk⟩:=of_decide_eq_true h3
     have h4:((l.take (i+1)).map Rk.key).Nodup:=((List.take_prefix _ _).map _).sublist.nodup h.2.2
     rw [htk,List.map_append,List.nodup_append]at h4
     exact h4.2.2 _ (List.mem_map.2 ⟨r,hr,hk⟩) _ (by simp) rfl
    ·by_cases hji:j=i
     ·subst hji;exact ho h0
     ·exact hall j (by omega) h0
    ·rw [htk,List.map_append,List.nodup_append]
     refine⟨hnd,by simp,fun x hx y hy=> ?_⟩
     simp at hy
     rintro rfl
     obtain⟨r,hr,hk⟩:=List.mem_map.1 hx
     exact of_decide_eq_false h3 ⟨r,hr,by rw [hk,hy,List.getD_eq_getElem?_getD]⟩
   refine⟨fun h3=> ?_,fun h3=>⟨by omega,hnext fun h=>absurd h (by omega)⟩⟩
   rw [i64_in _ (by omega),show((i:Int) - 1).toNat=i - 1 by omega]
   have hc:∀a b:Nat,0≤zad a b↔¬a<b:=fun a b=>by
    have:=vr (x:=a) (y:=b);omega
   rw [hc]
   exact⟨by omega,fun h4=>⟨by omega,hnext fun _=>by omega⟩,fun h4=>hbad fun h=>h4 (h.2.1 i hi' (by omega))⟩
  ·have hi':i=l.length:=by omega
   subst hi'
   rw [List.take_length]at hnd
   rw [vU,if_pos ⟨by omega,fun j hj h0=>hall j hj h0,hnd⟩]
def uw:List D→Option (Prop×D×Fr)
 |[.c (.sl z15)]=>some (z15=rks (vj z15),zaD (vj z15),[])
 |_=>none
attribute [go_sem] uw
theorem kQ:∀rs p r fr,uw rs=some (p,r,fr)→p→uc Tryz.prog 83 rs r fr:=by
 intro rs p r fr h hp
 unfold uw at h
 split at h<;>cases h
 have hc0:=hp
 rename_i z15
 obtain⟨z15,rfl⟩:∃m,z15=rks m:=⟨_,hc0⟩
 simp only [yc]
 exact ua9 z15
def qT (l:List Rk) (id:Nat):Nat×Bool×Int:=if kad l then(Srt.pos Rk.id ltN l id,Srt.thr Rk.id ltN l id,0)else(0,false,1)
@[go_sem] def qa0 (l:List Rk) (id:Nat):D:= .tup [.int .i64 (qT l id).1, .bool (qT l id).2.1, .int .i64 (qT l id).2.2]
@[go_sem] abbrev yde:FuncId:=154
@[go_sem] def wbH:Tab:=[(83,uw),(163,gw)]
theorem gK:za Tryz.prog wbH:=(za.cons kQ (za.cons wQ za.nil))
set_option maxRecDepth 8000 in
set_option maxHeartbeats 1000000 in
theorem bbr (l:List Rk) (id:Nat):va Tryz.prog 154 [.sl (rks l), .c (.int .u64 (id:Int))] (qa0 l id):=by
 refine .of (jdx gK (Nat.le_of_ble_eq_true rfl) ?_)
 simp -implicitDefEqProofs only [cdA,go_sem,Go.Proofs.Tryz.f154,reduceIte,reduceCtorEq,Nat.reduceEqDiff,Nat.reduceAdd,Nat.reduceLeDiff,Nat.reduceSub,Nat.reduceMul,Nat.reduceLT,Nat.reduceShiftRight,Nat.reduceMod,Int.reduceLE,Int.reduceLT,Int.reduceToNat,List.cons.injEq,cdB]
 have hcz:vU l=0↔kad l:=by unfold vU;split<;>simp_all
 refine⟨fun hok0=> ?_,fun hno0=>by
  have hno:¬kad l:=fun h=>hno0 (hcz.2 h)
  rw [qT,vU,if_neg hno,if_neg hno];exact⟨rfl,rfl,rfl⟩⟩
 have hok:=hcz.1 hok0
 have hu:Srt.Up Rk.id ltN l:=(Srt.uU (lt:=ltN) Srt.jB).1 hok.2.1
 have hl32:=hok.1
 refine wdA gK (Nat.le_of_ble_eq_true rfl) ?_
 simp -implicitDefEqProofs only [cdA,go_sem,Go.Proofs.Tryz.f215,reduceIte,reduceCtorEq,Nat.reduceEqDiff,Nat.reduceAdd,Nat.reduceLeDiff,Nat.reduceSub,Nat.reduceMul,Nat.reduceLT,Nat.reduceShiftRight,Nat.reduceMod,Int.reduceLE,Int.reduceLT,Int.reduceToNat,List.cons.injEq,cdB]
 refine fun _=>SWp.loop (ι:={x:Nat×Nat // x.1≤x.2∧x.2≤l.length∧(∀k,k<x.1→(l.getD k default).id<id)∧∀k,x.2≤k→k<l.length→¬(l.getD k default).id<id}) (fun x=>⟨[(0, .sl (rks l)),(1, .int .u64 id),(2, .fn (.func 163) [] []),(8, .int .i64 l.length),(9, .int .i64 x.1.1),(10, .int .i64 x.1.2)],[],0⟩) (fun x=>x.1.2 - x.1.1) ⟨(0,l.length),by simp,by simp,fun k hk=>absurd hk (by simp),fun k h1 h2=>absurd h1 (by simpa using h2)⟩ ?_ ?_
 ·simp [go_sem]
 ·rintro⟨⟨i,j⟩,hij,hj,hlo,hup⟩
  dsimp only at hij hj hlo hup
  refine qa gK.toS zb3 _ _ _ rfl ?_
  simp -implicitDefEqProofs only [cdA,go_sem,reduceIte,reduceCtorEq,Nat.reduceEqDiff,Nat.reduceAdd,Nat.reduceLeDiff,Nat.reduceSub,Nat.reduceMul,Nat.reduceLT,Nat.reduceShiftRight,Nat.reduceMod,Int.reduceLE,Int.reduceLT,Int.reduceToNat,List.cons.injEq,cdB]
  rw [zbP hij hj ‹_›]
  refine⟨fun h4=> ?_,fun h4=> ?_⟩
  ·have hm:(i+j) / 2<l.length:=by omega
   rw [vr,Int.toNat_natCast]
   refine⟨by omega,fun h5=>⟨⟨((i+j) / 2+1,j),by dsimp only;omega,hj,fun k hk=> ?_,hup⟩,by dsimp only;omega,i64_in _ (by omega),rfl⟩,fun h5=>⟨⟨(i,(i+j) / 2),by dsimp only;omega,by dsimp only;omega,hlo,fun k hk1 hk2=> ?_⟩,by dsimp only;omega,rfl,rfl⟩⟩
   ·dsimp only at hk
    by_cases hkm:k=(i+j) / 2
    ·rw [hkm];omega
    ·have:=Srt.zy.1 hu k _ (by omega) hm
     simp only [ltN]at this;omega
   ·dsimp only at hk1
    by_cases hkm:k=(i+j) / 2
    ·rw [hkm];omega
    ·have:=Srt.zy.1 hu ((i+j) / 2) k (by omega) hk2
     simp only [ltN]at this;omega
  ·have hp:Srt.pos Rk.id ltN l id=i:=Srt.pos_eq (by omega) hlo (fun h=>hup i (by omega) h)
   rw [qT,if_pos hok,Srt.thr,hp]
   refine⟨fun h5=>⟨h5,rfl, ?_,rfl⟩,fun h5=>⟨rfl, ?_,rfl⟩⟩
   ·rw [decide_eq_decide,bcy]
    exact⟨fun h=>⟨by omega,by omega⟩,fun h=>by have:=h.2;omega⟩
   ·exact(decide_eq_false fun h=>h5 (by omega)).symm
def xE:List D→Option (Prop×D×Fr)
 |[.c (.sl z16), .c (.int .u64 z17)]=>some (z16=rks (vj z16)∧z17=(z17.toNat:Int),qa0 (vj z16) z17.toNat,[])
 |_=>none
attribute [go_sem] xE
theorem vW:∀rs p r fr,xE rs=some (p,r,fr)→p→uc Tryz.prog 154 rs r fr:=by
 intro rs p r fr h hp
 unfold xE at h
 split at h<;>cases h
 obtain⟨hc0,hc1⟩:=hp
 rename_i z16 z17
 obtain⟨z16,rfl⟩:∃m,z16=rks m:=⟨_,hc0⟩
 obtain⟨z17,rfl⟩:∃m:Nat,z17=m:=⟨_,hc1⟩
 simp only [Int.toNat_natCast,yc]
 exact bbr z16 z17
def wz (l:List Rk) (id:Nat):Nat×Int:=if¬kad l then(0,1)else if Srt.thr Rk.id ltN l id=false then(0,5)else if(l.getD (Srt.pos Rk.id ltN l id) default).gone=true then(0,13)else(Srt.pos Rk.id ltN l id,0)
@[go_sem] def ja0 (l:List Rk) (id:Nat):D:= .tup [.int .i64 (wz l id).1, .int .i64 (wz l id).2]
@[go_sem] abbrev xde:FuncId:=111
@[go_sem] def ubH:Tab:=[(154,xE)]
theorem baO:za Tryz.prog ubH:=(za.cons vW za.nil)
set_option maxRecDepth 8000 in
set_option maxHeartbeats 1000000 in
theorem zbs (l:List Rk) (id:Nat):va Tryz.prog 111 [.sl (rks l), .c (.int .u64 (id:Int))] (ja0 l id):=by
 refine .of (bdu baO (Nat.le_of_ble_eq_true rfl) ?_)
 simp -implicitDefEqProofs only [cdA,go_sem,Go.Proofs.Tryz.f111,reduceIte,reduceCtorEq,Nat.reduceEqDiff,Nat.reduceAdd,Nat.reduceLeDiff,Nat.reduceSub,Nat.reduceMul,Nat.reduceLT,Nat.reduceShiftRight,Nat.reduceMod,Int.reduceLE,Int.reduceLT,Int.reduceToNat,List.cons.injEq,cdB]
 by_cases hok:kad l
 rotate_left 1
 ·have e1:qT l id=(0,false,1):=by rw [qT,if_neg hok]
  have e2:wz l id=(0,1):=by rw [wz,if_pos hok]
  rw [e1,e2]
  exact⟨fun h=>absurd (show(1:Int)=0 from h) (by decide),fun _=>⟨rfl,rfl⟩⟩
 have e1:qT l id=(Srt.pos Rk.id ltN l id,Srt.thr Rk.id ltN l id,0):=by rw [qT,if_pos hok]
 have e2:wz l id=if Srt.thr Rk.id ltN l id=false then(0,5)else if(l.getD (Srt.pos Rk.id ltN l id) default).gone=true then(0,13)else(Srt.pos Rk.id ltN l id,0):=by rw [wz,if_neg fun h=>h hok]
 rw [e1,e2]
 refine⟨fun _=>⟨fun h2=> ?_,fun h2=> ?_⟩,fun h=>absurd rfl h⟩
 ·dsimp only at h2⊢
  have hp:Srt.pos Rk.id ltN l id<l.length:=by
   have h2:=h2
   unfold Srt.thr at h2
   exact(of_decide_eq_true h2).1
  rw [if_neg (by rw [h2];decide)]
  refine⟨by omega,fun h3=> ?_,fun h3=> ?_⟩
  ·rw [if_pos h3];exact⟨rfl,rfl⟩
  ·rw [if_neg (by rw [h3];decide)];exact⟨rfl,rfl⟩
 ·rw [if_pos h2];exact⟨rfl,rfl⟩
def vQ:List D→Option (Prop×D×Fr)
 |[.c (.sl z18), .c (.int .u64 z19)]=>some (z18=rks (vj z18)∧z19=(z19.toNat:Int),ja0 (vj z18) z19.toNat,[])
 |_=>none
attribute [go_sem] vQ
theorem uaG:∀rs p r fr,vQ rs=some (p,r,fr)→p→uc Tryz.prog 111 rs r fr:=by
 intro rs p r fr h hp
 unfold vQ at h
 split at h<;>cases h
 obtain⟨hc0,hc1⟩:=hp
 rename_i z18 z19
 obtain⟨z18,rfl⟩:∃m,z18=rks m:=⟨_,hc0⟩
 obtain⟨z19,rfl⟩:∃m:Nat,z19=m:=⟨_,hc1⟩
 simp only [Int.toNat_natCast,yc]
 exact zbs z18 z19
theorem xa0 {l:List Rk} {id:Nat} (h:(wz l id).2=0):kad l∧(wz l id).1=Srt.pos Rk.id ltN l id∧(wz l id).1<l.length∧(l.getD (wz l id).1 default).id=id∧(l.getD (wz l id).1 default).gone=false:=by
 unfold wz at*
 split at h
 ·exact absurd h (by decide)
 ·rename_i h1
  rw [if_neg h1]
  have hok:kad l:=Classical.not_not.1 h1
  split at h
  ·exact absurd h (by decide)
  ·rename_i h2
   rw [if_neg h2]
   split at h
   ·exact absurd h (by decide)
   ·rename_i h3
    rw [if_neg h3]
    have h2:Srt.thr Rk.id ltN l id=true:=by simpa using h2
    unfold Srt.thr at h2
    have h4:=of_decide_eq_true h2
    exact⟨hok,rfl,h4.1,h4.2,by simpa using h3⟩
def vaj (l:List Rk) (id:Nat):Nat×Int:=if(wz l id).2=0 then((l.getD (wz l id).1 default).key,0)else(0,(wz l id).2)
@[go_sem] def ybs (l:List Rk) (id:Nat):D:= .tup [.int .u64 (vaj l id).1, .int .i64 (vaj l id).2]
@[go_sem] abbrev xdU:FuncId:=42
@[go_sem] def gb9:Tab:=[(111,vQ)]
theorem ga9:za Tryz.prog gb9:=(za.cons uaG za.nil)
set_option maxRecDepth 8000 in
set_option maxHeartbeats 1000000 in
theorem gbH (l:List Rk) (id:Nat):va Tryz.prog 42 [.sl (rks l), .c (.int .u64 (id:Int))] (ybs l id):=by
 refine .of (ues ga9 (Nat.le_of_ble_eq_true rfl) ?_)
 simp -implicitDefEqProofs only [cdA,go_sem,Go.Proofs.Tryz.f42,reduceIte,reduceCtorEq,Nat.reduceEqDiff,Nat.reduceAdd,Nat.reduceLeDiff,Nat.reduceSub,Nat.reduceMul,Nat.reduceLT,Nat.reduceShiftRight,Nat.reduceMod,Int.reduceLE,Int.reduceLT,Int.reduceToNat,List.cons.injEq,cdB]
 refine⟨fun h=>⟨by have:=(xa0 h).2.2.1;omega, ?_⟩,fun h=> ?_⟩
 ·rw [vaj,if_pos h];exact⟨rfl,rfl⟩
 ·rw [vaj,if_neg h];exact⟨rfl,rfl⟩
def gZ:List D→Option (Prop×D×Fr)
 |[.c (.sl z20), .c (.int .u64 z21)]=>some (z20=rks (vj z20)∧z21=(z21.toNat:Int),ybs (vj z20) z21.toNat,[])
 |_=>none
attribute [go_sem] gZ
theorem yaR:∀rs p r fr,gZ rs=some (p,r,fr)→p→uc Tryz.prog 42 rs r fr:=by
 intro rs p r fr h hp
 unfold gZ at h
 split at h<;>cases h
 obtain⟨hc0,hc1⟩:=hp
 rename_i z20 z21
 obtain⟨z20,rfl⟩:∃m,z20=rks m:=⟨_,hc0⟩
 obtain⟨z21,rfl⟩:∃m:Nat,z21=m:=⟨_,hc1⟩
 simp only [Int.toNat_natCast,yc]
 exact gbH z20 z21
end Dm
namespace Dm
open Go Go.Proofs Go.IntWalk
def ltC (a b:Nat×Nat):Prop:=a.1<b.1∨(a.1=b.1∧a.2<b.2)
instance:DecidableRel ltC:=fun a b=>by unfold ltC;infer_instance
theorem gcR:Srt.Tot ltC:=⟨fun a=>by unfold ltC;omega,fun h h'=>by unfold ltC at*;omega,fun a b=>by
 unfold ltC
 have:a=b↔a.1=b.1∧a.2=b.2:=Prod.ext_iff
 rw [this];omega⟩
def Ct.key (c:Ct):Nat×Nat:=(c.root,c.b)
def ba5 (a b:Ct):Int:=orS [zad a.root b.root,zad a.b b.b]
theorem bax {a b:Ct}:ba5 a b<0↔ltC a.key b.key:=by
 unfold ba5 orS ltC Ct.key zad
 by_cases h1:(a.root:Int)<b.root
 ·simp [h1];omega
 ·by_cases h2:(b.root:Int)<a.root
  ·simp [h1,h2];omega
  ·by_cases h3:(a.b:Int)<b.b
   ·simp [h1,h2,h3];omega
   ·by_cases h4:(b.b:Int)<a.b
    ·simp [h1,h2,h3,h4];omega
    ·simp [h1,h2,h3,h4];omega
theorem vb5 {a b:Ct}:ba5 a b=0↔a.key=b.key:=by
 have hk:a.key=b.key↔a.root=b.root∧a.b=b.b:=Prod.ext_iff
 rw [hk]
 unfold ba5 orS zad
 by_cases h1:(a.root:Int)<b.root
 ·simp [h1];omega
 ·by_cases h2:(b.root:Int)<a.root
  ·simp [h1,h2];omega
  ·by_cases h3:(a.b:Int)<b.b
   ·simp [h1,h2,h3];omega
   ·by_cases h4:(b.b:Int)<a.b
    ·simp [h1,h2,h3,h4];omega
    ·simp [h1,h2,h3,h4];omega
@[go_sem] def vaH (a:Ct) (b:Ct):D:= .int .i64 (ba5 a b)
@[go_sem] abbrev ucM:FuncId:=166
@[go_sem] def jbt:Tab:=[(225,xJ),(226,jY)]
theorem uW:za Tryz.prog jbt:=(za.cons wq (za.cons waP za.nil))
set_option maxRecDepth 8000 in
set_option maxHeartbeats 1000000 in
theorem vbb (a:Ct) (b:Ct):va Tryz.prog 166 [.agg [.c (.int .u64 (a.root:Int)), .c (.int .u64 (a.b:Int)), .c (.int .u64 (a.n:Int))], .agg [.c (.int .u64 (b.root:Int)), .c (.int .u64 (b.b:Int)), .c (.int .u64 (b.n:Int))]] (vaH a b):=by
 refine .of (jdy uW (Nat.le_of_ble_eq_true rfl) ?_)
 simp -implicitDefEqProofs only [cdA,go_sem,Go.Proofs.Tryz.f166,reduceIte,reduceCtorEq,Nat.reduceEqDiff,Nat.reduceAdd,Nat.reduceLeDiff,Nat.reduceSub,Nat.reduceMul,Nat.reduceLT,Nat.reduceShiftRight,Nat.reduceMod,Int.reduceLE,Int.reduceLT,Int.reduceToNat,List.cons.injEq,cdB]
 refine ud.run wcc uW ja (by kernel_rfl) (by kernel_rfl) ?_
 simp -implicitDefEqProofs only [cdA,go_sem,reduceIte,reduceCtorEq,Nat.reduceEqDiff,Nat.reduceAdd,Nat.reduceLeDiff,Nat.reduceSub,Nat.reduceMul,Nat.reduceLT,Nat.reduceShiftRight,Nat.reduceMod,Int.reduceLE,Int.reduceLT,Int.reduceToNat,List.cons.injEq,cdB]
 rfl
def yx:List D→Option (Prop×D×Fr)
 |[.agg [.c (.int .u64 z2), .c (.int .u64 z3), .c (.int .u64 z4)], .agg [.c (.int .u64 z6), .c (.int .u64 z7), .c (.int .u64 z8)]]=>some (z2=(z2.toNat:Int)∧z3=(z3.toNat:Int)∧z4=(z4.toNat:Int)∧z6=(z6.toNat:Int)∧z7=(z7.toNat:Int)∧z8=(z8.toNat:Int),vaH (⟨z2.toNat,z3.toNat,z4.toNat⟩:Ct) (⟨z6.toNat,z7.toNat,z8.toNat⟩:Ct),[])
 |_=>none
attribute [go_sem] yx
theorem zR:∀rs p r fr,yx rs=some (p,r,fr)→p→uc Tryz.prog 166 rs r fr:=by
 intro rs p r fr h hp
 unfold yx at h
 split at h<;>cases h
 obtain⟨hc0,hc1,hc2,hc3,hc4,hc5⟩:=hp
 rename_i z2 z3 z4 z6 z7 z8
 obtain⟨z2,rfl⟩:∃m:Nat,z2=m:=⟨_,hc0⟩
 obtain⟨z3,rfl⟩:∃m:Nat,z3=m:=⟨_,hc1⟩
 obtain⟨z4,rfl⟩:∃m:Nat,z4=m:=⟨_,hc2⟩
 obtain⟨z6,rfl⟩:∃m:Nat,z6=m:=⟨_,hc3⟩
 obtain⟨z7,rfl⟩:∃m:Nat,z7=m:=⟨_,hc4⟩
 obtain⟨z8,rfl⟩:∃m:Nat,z8=m:=⟨_,hc5⟩
 simp only [Int.toNat_natCast]
 exact vbb ⟨z2,z3,z4⟩ ⟨z6,z7,z8⟩
def zaT (m:List (Nat×Int)) (c:Cv):List (Nat×Int):=if c.kind=4 then(match nlk c.b m with
 |some n=>if(c.a:Int)<n then vaJ c.b c.a m else m
 |none=>vaJ c.b c.a m)else m
def uat (l:List Cv):List (Nat×Int)×Int:=if l.length≤16∧l.all (fun c=>decide (gB c=0))=true then(l.foldl zaT [],0)else([],1)
theorem kcy {c:Cv} (h:¬gB c=0):gB c=1:=by unfold gB at*;split<;>simp_all
@[go_sem] def ba0 (l:List Cv):D:= .tup [.c (.map [.int .u64] (kvF .u64 .u64 (uat l).1)), .int .i64 (uat l).2]
@[go_sem] abbrev qde:FuncId:=196
@[go_sem] def kbI:Tab:=[(58,jh)]
theorem xac:za Tryz.prog kbI:=(za.cons zi za.nil)
set_option maxRecDepth 8000 in
set_option maxHeartbeats 1000000 in
theorem ybt (l:List Cv):va Tryz.prog 196 [.sl (cvs l)] (ba0 l):=by
 refine .of (kdz xac (Nat.le_of_ble_eq_true rfl) ?_)
 simp -implicitDefEqProofs only [cdA,go_sem,Go.Proofs.Tryz.f196,reduceIte,reduceCtorEq,Nat.reduceEqDiff,Nat.reduceAdd,Nat.reduceLeDiff,Nat.reduceSub,Nat.reduceMul,Nat.reduceLT,Nat.reduceShiftRight,Nat.reduceMod,Int.reduceLE,Int.reduceLT,Int.reduceToNat,List.cons.injEq,cdB]
 refine fun hl=>⟨fun h1=> ?_,fun h1 _=> ?_⟩
 ·rw [uat,if_neg (by omega)];exact⟨rfl,rfl⟩
 ·refine SWp.loop (ι:={i:Nat // i≤l.length∧∀j,j<i→gB (l.getD j default)=0}) (fun i=>⟨[(4, .mp 0),(14, .sl (cvs l)),(15, .int .i64 l.length),(16, .int .i64 i.1)],[(0, .map [.int .u64] (kvN .u64 .u64 ((l.take i.1).foldl zaT [])))],1⟩) (fun i=>l.length - i.1) ⟨0,by simp⟩ ?_ ?_
  ·simp [go_sem];rfl
  ·rintro⟨i,hi,hall⟩
   refine qa xac.toS wb2 _ _ _ rfl ?_
   simp -implicitDefEqProofs only [cdA,go_sem,reduceIte,reduceCtorEq,Nat.reduceEqDiff,Nat.reduceAdd,Nat.reduceLeDiff,Nat.reduceSub,Nat.reduceMul,Nat.reduceLT,Nat.reduceShiftRight,Nat.reduceMod,Int.reduceLE,Int.reduceLT,Int.reduceToNat,List.cons.injEq,cdB]
   refine⟨fun h=>⟨by omega,fun hc=> ?_,fun hc=> ?_⟩,fun h=> ?_⟩
   ·have hi':i<l.length:=by omega
    have hs:(l.take (i+1)).foldl zaT []=zaT ((l.take i).foldl zaT []) (l.getD i default):=by rw [take_succ hi',List.foldl_append];rfl
    have hn:∀m,m=(l.take (i+1)).foldl zaT []→∃i_1:{i:Nat // i≤l.length∧∀j,j<i→gB (l.getD j default)=0},l.length - i_1.val<l.length - i∧IntKind.i64.wrap (↑i+1)= ↑i_1.val∧kvN .u64 .u64 m=kvN .u64 .u64 ((l.take i_1.val).foldl zaT []):=fun m hm=>
     ⟨⟨i+1,hi',fun j hj=>by
       by_cases hji:j=i
       ·subst hji;exact hc
       ·exact hall j (by omega)⟩,by dsimp only;omega,i64_in _ (by omega),congrArg _ hm⟩
    rw [zaT]at hs
    refine⟨fun h4=>⟨fun a ha=>⟨fun h5=>hn _ ?_,fun h5=>hn _ ?_⟩,fun ha=>hn _ ?_⟩,fun h4=>hn _ ?_⟩
    ·rw [hs,if_pos h4,ha];exact(if_pos h5).symm
    ·rw [hs,if_pos h4,ha];exact(if_neg h5).symm
    ·rw [hs,if_pos h4,ha]
    ·rw [hs,if_neg h4]
   ·have hb:uat l=([],1):=by
     rw [uat,if_neg]
     rintro⟨_,h2⟩
     have:=List.all_eq_true.1 h2 _ (ua.2 ⟨i,by omega,rfl⟩)
     exact hc (by simpa using this)
    rw [hb];exact⟨rfl,kcy hc⟩
   ·have hi':i=l.length:=by omega
    subst hi'
    have hb:uat l=(l.foldl zaT [],0):=by
     rw [uat,if_pos]
     refine⟨by omega,List.all_eq_true.2 fun x hx=> ?_⟩
     obtain⟨j,hj,rfl⟩:=ua.1 hx
     simpa using hall j hj
    rw [hb,List.take_length]
    exact⟨⟨_,_,rfl,v8, .refl _⟩,rfl⟩
def gQ:List D→Option (Prop×D×Fr)
 |[.c (.sl z9)]=>some (z9=cvs (zj z9),ba0 (zj z9),[])
 |_=>none
attribute [go_sem] gQ
theorem gaG:∀rs p r fr,gQ rs=some (p,r,fr)→p→uc Tryz.prog 196 rs r fr:=by
 intro rs p r fr h hp
 unfold gQ at h
 split at h<;>cases h
 have hc0:=hp
 rename_i z9
 obtain⟨z9,rfl⟩:∃m,z9=cvs m:=⟨_,hc0⟩
 simp only [ye]
 exact ybt z9
def kdV (l:List Ct):Prop:=Srt.Chn Ct.key ltC l∧∀c∈l,¬c.n=0∧c.n≤4611686018427387904
instance (l:List Ct):Decidable (kdV l):=by unfold kdV;infer_instance
def wJ (l:List Ct):Int:=if l.length≤128∧kdV l then 0 else 1
@[go_sem] def xaH (l:List Ct):D:= .int .i64 (wJ l)
@[go_sem] abbrev vcM:FuncId:=85
@[go_sem] def xbt:Tab:=[(122,zf),(166,yx)]
theorem kE:za Tryz.prog xbt:=(za.cons ve (za.cons zR za.nil))
set_option maxRecDepth 8000 in
set_option maxHeartbeats 1000000 in
theorem jbb (l:List Ct):va Tryz.prog 85 [.sl (cts l)] (xaH l):=by
 refine .of (kev kE (Nat.le_of_ble_eq_true rfl) ?_)
 simp -implicitDefEqProofs only [cdA,go_sem,Go.Proofs.Tryz.f85,reduceIte,reduceCtorEq,Nat.reduceEqDiff,Nat.reduceAdd,Nat.reduceLeDiff,Nat.reduceSub,Nat.reduceMul,Nat.reduceLT,Nat.reduceShiftRight,Nat.reduceMod,Int.reduceLE,Int.reduceLT,Int.reduceToNat,List.cons.injEq,cdB]
 refine fun hl=>⟨fun h1=> ?_,fun h1 _=> ?_⟩
 ·rw [wJ,if_neg (by omega)]
 ·refine SWp.loop (ι:={i:Nat // i≤l.length∧∀j,j<i→(0<j→ltC (l.getD (j - 1) default).key (l.getD j default).key)∧¬(l.getD j default).n=0∧(l.getD j default).n≤4611686018427387904}) (fun i=>⟨[(0, .sl (cts l)),(8, .sl (cts l)),(9, .int .i64 l.length),(10, .int .i64 i.1)],[],0⟩) (fun i=>l.length - i.1) ⟨0,by simp⟩ ?_ ?_
  ·simp [go_sem]
  ·rintro⟨i,hi,hall⟩
   refine qa kE.toS bdQ _ _ _ rfl ?_
   simp -implicitDefEqProofs only [cdA,go_sem,reduceIte,reduceCtorEq,Nat.reduceEqDiff,Nat.reduceAdd,Nat.reduceLeDiff,Nat.reduceSub,Nat.reduceMul,Nat.reduceLT,Nat.reduceShiftRight,Nat.reduceMod,Int.reduceLE,Int.reduceLT,Int.reduceToNat,List.cons.injEq,cdB]
   refine⟨fun h=>⟨by omega, ?_⟩,fun h=> ?_⟩
   ·have hi':i<l.length:=by omega
    refine ud.run vcU kE ja (by kernel_rfl) (by kernel_rfl) ?_
    simp -implicitDefEqProofs only [cdA,go_sem,reduceIte,reduceCtorEq,Nat.reduceEqDiff,Nat.reduceAdd,Nat.reduceLeDiff,Nat.reduceSub,Nat.reduceMul,Nat.reduceLT,Nat.reduceShiftRight,Nat.reduceMod,Int.reduceLE,Int.reduceLT,Int.reduceToNat,List.cons.injEq,cdB]
    have hbad:¬((0<i→ltC (l.getD (i - 1) default).key (l.getD i default).key)∧¬(l.getD i default).n=0∧(l.getD i default).n≤4611686018427387904)→1=wJ l:=fun hb=>by
     rw [wJ,if_neg]
     rintro⟨_,h2,h3⟩
     exact hb ⟨fun h0=>h2 i hi' h0,h3 _ (ua.2 ⟨i,hi',rfl⟩)⟩
    have hnext:(0<i→ltC (l.getD (i - 1) default).key (l.getD i default).key)→¬(l.getD i default).n=0∧(l.getD i default).n≤4611686018427387904→∃i_1:{i:Nat // i≤l.length∧∀j,j<i→(0<j→ltC (l.getD (j - 1) default).key (l.getD j default).key)∧¬(l.getD j default).n=0∧(l.getD j default).n≤4611686018427387904},l.length - i_1.val<l.length - i∧IntKind.i64.wrap (↑i+1)= ↑i_1.val:=fun ha hb=>
     ⟨⟨i+1,hi',fun j hj=>by
       by_cases hji:j=i
       ·subst hji;exact⟨ha,hb⟩
       ·exact hall j (by omega)⟩,by dsimp only;omega,i64_in _ (by omega)⟩
    rw [uI]
    have ho:∀a b,0≤ba5 a b↔¬ltC a.key b.key:=fun a b=>by rw [←bax];omega
    simp only [ho,Classical.not_not]
    refine⟨fun h2=>⟨fun h3=>⟨fun h4=> ?_,fun h4=>hnext (fun h=>absurd h (by omega)) ⟨by omega,h3⟩⟩,fun h3=>hbad fun h=>h3 h.2.2⟩,fun h2=>hbad fun h=>h.2.1 (by omega)⟩
    rw [i64_in _ (by omega),show((i:Int) - 1).toNat=i - 1 by omega]
    exact⟨by omega,fun h5=>hbad fun h=>h5 (h.1 (by omega)),fun h5=>hnext (fun _=>h5) ⟨by omega,h3⟩⟩
   ·have hi':i=l.length:=by omega
    subst hi'
    rw [wJ,if_pos]
    refine⟨by omega,fun j hj h0=>(hall j hj).1 h0,fun c hc=> ?_⟩
    obtain⟨j,hj,rfl⟩:=ua.1 hc
    exact(hall j hj).2
def zx:List D→Option (Prop×D×Fr)
 |[.c (.sl z10)]=>some (z10=cts (xm z10),xaH (xm z10),[])
 |_=>none
attribute [go_sem] zx
theorem bQ:∀rs p r fr,zx rs=some (p,r,fr)→p→uc Tryz.prog 85 rs r fr:=by
 intro rs p r fr h hp
 unfold zx at h
 split at h<;>cases h
 have hc0:=hp
 rename_i z10
 obtain⟨z10,rfl⟩:∃m,z10=cts m:=⟨_,hc0⟩
 simp only [jd]
 exact jbb z10
@[go_sem] def uaH (l:List Ct) (root:Nat) (b:Nat):D:= .tup [.int .u64 (((Srt.fnd Ct.key l (root,b)).map Ct.n).getD 0:Nat), .int .i64 (Srt.pos Ct.key ltC l (root,b):Nat), .bool (Srt.thr Ct.key ltC l (root,b))]
@[go_sem] abbrev gcM:FuncId:=197
@[go_sem] def kbt:Tab:=[(166,yx)]
theorem bn:za Tryz.prog kbt:=(za.cons zR za.nil)
set_option maxRecDepth 8000 in
set_option maxHeartbeats 1000000 in
theorem wbb (l:List Ct) (root:Nat) (b:Nat) (h:Srt.Up Ct.key ltC l):va Tryz.prog 197 [.sl (cts l), .c (.int .u64 (root:Int)), .c (.int .u64 (b:Int))] (uaH l root b):=by
 refine .of (vdz bn (Nat.le_of_ble_eq_true rfl) ?_)
 simp -implicitDefEqProofs only [cdA,go_sem,Go.Proofs.Tryz.f197,reduceIte,reduceCtorEq,Nat.reduceEqDiff,Nat.reduceAdd,Nat.reduceLeDiff,Nat.reduceSub,Nat.reduceMul,Nat.reduceLT,Nat.reduceShiftRight,Nat.reduceMod,Int.reduceLE,Int.reduceLT,Int.reduceToNat,List.cons.injEq,cdB]
 refine xdC bn (Nat.le_of_ble_eq_true rfl) ?_
 simp -implicitDefEqProofs only [cdA,go_sem,Go.Proofs.Tryz.f242,reduceIte,reduceCtorEq,Nat.reduceEqDiff,Nat.reduceAdd,Nat.reduceLeDiff,Nat.reduceSub,Nat.reduceMul,Nat.reduceLT,Nat.reduceShiftRight,Nat.reduceMod,Int.reduceLE,Int.reduceLT,Int.reduceToNat,List.cons.injEq,cdB]
 refine fun _=>SWp.loop (ι:={x:Nat×Nat // x.1≤x.2∧x.2≤l.length∧(∀k,k<x.1→ltC (l.getD k default).key (root,b))∧∀k,x.2≤k→k<l.length→¬ltC (l.getD k default).key (root,b)}) (fun x=>⟨[(0, .sl (cts l)),(2, .fn (.func 166) [] []),(4, .ref 0 0),(8, .int .i64 l.length),(9, .int .i64 x.1.1),(10, .int .i64 x.1.2)],[(0, .box [.int .u64 root, .int .u64 b, .int .u64 0])],1⟩) (fun x=>x.1.2 - x.1.1) ⟨(0,l.length),by simp,by simp,fun k hk=>absurd hk (by simp),fun k h1 h2=>absurd h1 (by simpa using h2)⟩ ?_ ?_
 ·simp [go_sem]
 ·rintro⟨⟨i,j⟩,hij,hj,hlo,hup⟩
  dsimp only at hij hj hlo hup
  refine qa bn.toS wb3 _ _ _ rfl ?_
  simp -implicitDefEqProofs only [cdA,go_sem,reduceIte,reduceCtorEq,Nat.reduceEqDiff,Nat.reduceAdd,Nat.reduceLeDiff,Nat.reduceSub,Nat.reduceMul,Nat.reduceLT,Nat.reduceShiftRight,Nat.reduceMod,Int.reduceLE,Int.reduceLT,Int.reduceToNat,List.cons.injEq,cdB]
  rw [zbP hij hj ‹_›]
  refine⟨fun h4=> ?_,fun h4=> ?_⟩
  ·have hm:(i+j) / 2<l.length:=by omega
   refine ud.run wcd bn ja (by kernel_rfl) (by kernel_rfl) ?_
   simp -implicitDefEqProofs only [cdA,go_sem,reduceIte,reduceCtorEq,Nat.reduceEqDiff,Nat.reduceAdd,Nat.reduceLeDiff,Nat.reduceSub,Nat.reduceMul,Nat.reduceLT,Nat.reduceShiftRight,Nat.reduceMod,Int.reduceLE,Int.reduceLT,Int.reduceToNat,List.cons.injEq,cdB]
   rw [bax]
   refine⟨by omega,fun h5=>⟨⟨((i+j) / 2+1,j),by dsimp only;omega,hj,fun k hk=> ?_,hup⟩,by dsimp only;omega,i64_in _ (by omega),rfl⟩,fun h5=>⟨⟨(i,(i+j) / 2),by dsimp only;omega,by dsimp only;omega,hlo,fun k hk1 hk2=> ?_⟩,by dsimp only;omega,rfl,rfl⟩⟩
   ·dsimp only at hk
    by_cases hkm:k=(i+j) / 2
    ·rw [hkm];exact h5
    ·exact gcR.tr (Srt.zy.1 h k _ (by omega) hm) h5
   ·dsimp only at hk1
    by_cases hkm:k=(i+j) / 2
    ·rw [hkm];exact h5
    ·exact fun h6=>h5 (gcR.tr (Srt.zy.1 h _ k (by omega) hk2) h6)
  ·refine ud.run ucd bn ja (by kernel_rfl) (by kernel_rfl) ?_
   simp -implicitDefEqProofs only [cdA,go_sem,reduceIte,reduceCtorEq,Nat.reduceEqDiff,Nat.reduceAdd,Nat.reduceLeDiff,Nat.reduceSub,Nat.reduceMul,Nat.reduceLT,Nat.reduceShiftRight,Nat.reduceMod,Int.reduceLE,Int.reduceLT,Int.reduceToNat,List.cons.injEq,cdB]
   have hp:Srt.pos Ct.key ltC l (root,b)=i:=Srt.pos_eq (by omega) hlo (fun h=>hup i (by omega) h)
   rw [Srt.wbg gcR h,Srt.thr,hp,vb5]
   refine⟨fun h5=>⟨by omega,fun h6=>⟨by omega, ?_⟩,fun h6=> ?_⟩,fun h5=> ?_⟩
   ·have h7:i<l.length∧(l.getD i default).key=(root,b):=⟨by omega,h6⟩
    rw [decide_eq_true h7];exact⟨rfl,rfl,rfl⟩
   ·have h7:¬(i<l.length∧(l.getD i default).key=(root,b)):=fun h=>h6 h.2
    rw [decide_eq_false h7];exact⟨rfl,rfl,rfl⟩
   ·have h7:¬(i<l.length∧(l.getD i default).key=(root,b)):=fun h=>by omega
    rw [decide_eq_false h7];exact⟨rfl,rfl,rfl⟩
@[go_sem] def waH (l:List Ct) (root:Nat) (b:Nat):Prop:=(Srt.Up Ct.key ltC l)
def zI:List D→Option (Prop×D×Fr)
 |[.c (.sl z11), .c (.int .u64 z12), .c (.int .u64 z13)]=>some (z11=cts (xm z11)∧z12=(z12.toNat:Int)∧z13=(z13.toNat:Int)∧waH (xm z11) z12.toNat z13.toNat,uaH (xm z11) z12.toNat z13.toNat,[])
 |_=>none
attribute [go_sem] zI
theorem zar:∀rs p r fr,zI rs=some (p,r,fr)→p→uc Tryz.prog 197 rs r fr:=by
 intro rs p r fr h hp
 unfold zI at h
 split at h<;>cases h
 obtain⟨hc0,hc1,hc2,hp⟩:=hp
 rename_i z11 z12 z13
 obtain⟨z11,rfl⟩:∃m,z11=cts m:=⟨_,hc0⟩
 obtain⟨z12,rfl⟩:∃m:Nat,z12=m:=⟨_,hc1⟩
 obtain⟨z13,rfl⟩:∃m:Nat,z13=m:=⟨_,hc2⟩
 simp only [Int.toNat_natCast,jd]
 simp only [Int.toNat_natCast,jd,waH]at hp
 exact wbb z11 z12 z13 hp
@[go_sem] def kaH (l:List Ct):D:= .vec 0 l.length
@[go_sem] def xak (l:List Ct):Fr:=[(3,160,true,cts l)]
@[go_sem] abbrev wcM:FuncId:=136
@[go_sem] def qbt:Tab:=[]
theorem qaH:za Tryz.prog qbt:=za.nil
set_option maxRecDepth 8000 in
set_option maxHeartbeats 1000000 in
theorem kbb (l:List Ct) (hl:l.length≤1000000):ki Tryz.prog 136 [.sl (cts l)] (kaH l) (xak l):=by
 refine .of (udw qaH (Nat.le_of_ble_eq_true rfl) ?_)
 simp -implicitDefEqProofs only [cdA,go_sem,Go.Proofs.Tryz.f136,reduceIte,reduceCtorEq,Nat.reduceEqDiff,Nat.reduceAdd,Nat.reduceLeDiff,Nat.reduceSub,Nat.reduceMul,Nat.reduceLT,Nat.reduceShiftRight,Nat.reduceMod,Int.reduceLE,Int.reduceLT,Int.reduceToNat,List.cons.injEq,cdB]
 refine fun b hb=>⟨fun h=> ?_,fun h=> ?_⟩
 ·exact⟨[none],by simp [go_sem,hb h],by cases l<;>simp_all [go_sem,cts]⟩
 ·exact⟨by omega,[some 0],by simp [go_sem]⟩
@[go_sem] def jaH (l:List Ct):Prop:=(l.length≤1000000)
def bH:List D→Option (Prop×D×Fr)
 |[.c (.sl z14)]=>some (z14=cts (xm z14)∧jaH (xm z14),kaH (xm z14),xak (xm z14))
 |_=>none
attribute [go_sem] bH
theorem baq:∀rs p r fr,bH rs=some (p,r,fr)→p→uc Tryz.prog 136 rs r fr:=by
 intro rs p r fr h hp
 unfold bH at h
 split at h<;>cases h
 obtain⟨hc0,hp⟩:=hp
 rename_i z14
 obtain⟨z14,rfl⟩:∃m,z14=cts m:=⟨_,hc0⟩
 simp only [jd]
 simp only [jd,jaH]at hp
 exact(show uc _ _ _ _ _ from And.intro rfl (kbb z14 hp))
theorem qal {l:List Ct} (h:wJ l=0):l.length≤128∧Srt.Up Ct.key ltC l∧∀c∈l,¬c.n=0∧c.n≤4611686018427387904:=by
 unfold wJ at h
 split at h
 ·rename_i h1;exact⟨h1.1,(Srt.uU gcR).1 h1.2.1,h1.2.2⟩
 ·cases h
def yu (l:List Ct) (root b:Nat):Nat:=((Srt.fnd Ct.key l (root,b)).map Ct.n).getD 0
def yX (l:List Ct) (root:Nat) (cav:List Cv) (n:Nat):List (Nat×Int)×Int:=
 if(uat cav).2=0∧wJ l=0∧n≤4611686018427387904 then
  (if(uat cav).1.all (fun x=>decide ((yu l root x.1:Int)+n≤4611686018427387904∧(yu l root x.1:Int)+n≤x.2))=true then((uat cav).1.map fun x=>(x.1,(yu l root x.1:Int)+n),0)else([],8))
 else([],1)
theorem jcy (l:List Cv):((uat l).1.map (·.1)).Nodup:=by
 have:∀(l:List Cv) (m:List (Nat×Int)),(m.map (·.1)).Nodup→((l.foldl zaT m).map (·.1)).Nodup:=by
  intro l
  induction l with
  |nil=>exact fun m h=>h
  |cons c l ih=>
   intro m h
   refine ih _ ?_
   unfold zaT
   split
   ·split
    ·split
     ·exact xbl h
     ·exact h
    ·exact xbl h
   ·exact h
 unfold uat
 split
 ·exact this l [] (by simp)
 ·simp
theorem udD {a b:Nat} (ha:a≤4611686018427387904) (hb:b≤4611686018427387904):yS [a,b]=if a+b≤4611686018427387904 then(a+b,0)else(0,8):=by
 have:wL [a,b]=0:=by simp [wL,ha,hb]
 have e:[a,b].sum=a+b:=by simp
 rw [yS,if_pos this,e]
theorem gcU {l:List Ct} (h:wJ l=0) (root b:Nat):yu l root b≤4611686018427387904:=by
 unfold yu
 cases hf:Srt.fnd Ct.key l (root,b)with
 |none=>simp
 |some c=>exact((qal h).2.2 c ((Srt.xaU gcR (qal h).2.1).1 hf).1).2
@[go_sem] def za1 (l:List Ct) (root:Nat) (cav:List Cv) (n:Nat):D:= .tup [.c (.map [.int .u64] (kvF .u64 .u64 (yX l root cav n).1)), .int .i64 (yX l root cav n).2]
@[go_sem] abbrev jde:FuncId:=114
@[go_sem] def vbI:Tab:=[(196,gQ),(85,zx),(122,zf),(197,zI),(198,gq)]
theorem qac:za Tryz.prog vbI:=(za.cons gaG (za.cons bQ (za.cons ve (za.cons zar (za.cons js za.nil)))))
set_option maxRecDepth 8000 in
set_option maxHeartbeats 1000000 in
theorem vbt (l:List Ct) (root:Nat) (cav:List Cv) (n:Nat):va Tryz.prog 114 [.sl (cts l), .c (.int .u64 (root:Int)), .sl (cvs cav), .c (.int .u64 (n:Int))] (za1 l root cav n):=by
 refine .of (xdv qac (Nat.le_of_ble_eq_true rfl) ?_)
 simp -implicitDefEqProofs only [cdA,go_sem,Go.Proofs.Tryz.f114,reduceIte,reduceCtorEq,Nat.reduceEqDiff,Nat.reduceAdd,Nat.reduceLeDiff,Nat.reduceSub,Nat.reduceMul,Nat.reduceLT,Nat.reduceShiftRight,Nat.reduceMod,Int.reduceLE,Int.reduceLT,Int.reduceToNat,List.cons.injEq,cdB]
 rw [uI]
 refine⟨fun h1=>⟨fun h2=>⟨fun h3=> ?_,fun h3=> ?_⟩,fun h2=> ?_⟩,fun h1=> ?_⟩
 ·have hnd:=jcy cav
  have hs:yX l root cav n=if(uat cav).1.all (fun x=>decide ((yu l root x.1:Int)+n≤4611686018427387904∧(yu l root x.1:Int)+n≤x.2))=true then((uat cav).1.map fun x=>(x.1,(yu l root x.1:Int)+n),0)else([],8):=by rw [yX,if_pos ⟨h1,h2,h3⟩]
  rw [hs]
  generalize (uat cav).1=m at*
  refine SWp.loop (ι:={sn:List (Nat×Int) // sn.Nodup∧(∀x∈sn,x∈m)∧∀x∈sn,(yu l root x.1:Int)+n≤4611686018427387904∧(yu l root x.1:Int)+n≤x.2}) (fun sn=>⟨[(0, .sl (cts l)),(1, .int .u64 root),(3, .int .u64 n),(12, .mp 1),(40, .ref 2 0)],
   [(2, .it (kvF .u64 .u64 m) (kvF .u64 .u64 sn.1)),(1, .map [.int .u64] (kvN .u64 .u64 (sn.1.map fun x=>(x.1,(yu l root x.1:Int)+n))))],3⟩) (fun sn=>m.length - sn.1.length) ⟨[],by simp⟩ ?_ ?_
  ·simp [go_sem];exact⟨rfl,rfl⟩
  ·rintro⟨sn,hsn,hsm,hok⟩
   refine qa qac.toS xb1 _ _ _ rfl ?_
   simp -implicitDefEqProofs only [cdA,go_sem,reduceIte,reduceCtorEq,Nat.reduceEqDiff,Nat.reduceAdd,Nat.reduceLeDiff,Nat.reduceSub,Nat.reduceMul,Nat.reduceLT,Nat.reduceShiftRight,Nat.reduceMod,Int.reduceLE,Int.reduceLT,Int.reduceToNat,List.cons.injEq,cdB]
   have hfail:∀a b,(a,b)∈m→¬((yu l root a:Int)+n≤4611686018427387904∧(yu l root a:Int)+n≤b)→m.all (fun x=>decide ((yu l root x.1:Int)+n≤4611686018427387904∧(yu l root x.1:Int)+n≤x.2))=false:=fun a b hab hn=>by
    rw [List.all_eq_false]
    exact⟨_,hab,by simpa using hn⟩
   refine⟨fun a b hab hns=>⟨(qal h2).2.1, ?_⟩,fun hall=> ?_⟩
   ·rw [show((Srt.fnd Ct.key l (root,a)).map Ct.n).getD 0=yu l root a from rfl,udD (gcU h2 root a) h3]
    by_cases h4:yu l root a+n≤4611686018427387904
    ·rw [if_pos h4]
     refine⟨fun _=>⟨fun h5=> ?_,fun h5=> ?_⟩,fun h=>absurd rfl h⟩
     ·rw [hfail a b hab (by dsimp only at h5;omega)];exact⟨rfl,rfl⟩
     ·dsimp only at h5
      refine⟨⟨sn++[(a,b)],ybP hsn hns,fun x hx=> ?_,fun x hx=> ?_⟩, ?_,rfl, ?_⟩
      ·rcases List.mem_append.1 hx with hx|hx
       ·exact hsm x hx
       ·simp at hx;subst hx;exact hab
      ·rcases List.mem_append.1 hx with hx|hx
       ·exact hok x hx
       ·simp at hx;subst hx;exact⟨by dsimp only;omega,by dsimp only;omega⟩
      ·have:=List.Nodup.length_le_of_subset (ybP hsn hns) (l₂:=m) (fun x hx=>by
        rcases List.mem_append.1 hx with hx|hx
        ·exact hsm x hx
        ·simp at hx;subst hx;exact hab)
       simp at this⊢
       omega
      ·have hk:a∉(sn.map fun x=>(x.1,(yu l root x.1:Int)+n)).map (·.1):=by
        rw [List.map_map];exact kcN hnd hsm hab hns
       rw [van hk,List.map_append];simp
    ·rw [if_neg h4]
     refine⟨fun h=>absurd h (by decide),fun _=> ?_⟩
     rw [hfail a b hab (by omega)];exact⟨rfl,rfl⟩
   ·have hp:sn.Perm m:=(List.perm_ext_iff_of_nodup hsn (wa5 hnd)).2 fun x=>⟨hsm x,fun hx=>hall x.1 x.2 hx⟩
    rw [if_pos (List.all_eq_true.2 fun x hx=>by simpa using hok x (hp.mem_iff.2 hx))]
    exact⟨⟨_,_,rfl,v8,bbB (hp.map _)⟩,rfl⟩
 ·rw [yX,if_neg (fun h=>h3 h.2.2)];exact⟨rfl,rfl⟩
 ·rw [yX,if_neg (fun h=>h2 h.2.1)];exact⟨rfl,rfl⟩
 ·rw [yX,if_neg (fun h=>h1 h.1)];exact⟨rfl,rfl⟩
def yR:List D→Option (Prop×D×Fr)
 |[.c (.sl z15), .c (.int .u64 z16), .c (.sl z17), .c (.int .u64 z18)]=>some (z15=cts (xm z15)∧z16=(z16.toNat:Int)∧z17=cvs (zj z17)∧z18=(z18.toNat:Int),za1 (xm z15) z16.toNat (zj z17) z18.toNat,[])
 |_=>none
attribute [go_sem] yR
theorem baG:∀rs p r fr,yR rs=some (p,r,fr)→p→uc Tryz.prog 114 rs r fr:=by
 intro rs p r fr h hp
 unfold yR at h
 split at h<;>cases h
 obtain⟨hc0,hc1,hc2,hc3⟩:=hp
 rename_i z15 z16 z17 z18
 obtain⟨z15,rfl⟩:∃m,z15=cts m:=⟨_,hc0⟩
 obtain⟨z16,rfl⟩:∃m:Nat,z16=m:=⟨_,hc1⟩
 obtain⟨z17,rfl⟩:∃m,z17=cvs m:=⟨_,hc2⟩
 obtain⟨z18,rfl⟩:∃m:Nat,z18=m:=⟨_,hc3⟩
 simp only [Int.toNat_natCast,jd,ye]
 exact vbt z15 z16 z17 z18
def kbk (l:List Ct) (root:Nat) (cav:List Cv) (n:Nat):Bool×Int:=if(yX l root cav n).2=8 then(false,0)else(decide ((yX l root cav n).2=0),(yX l root cav n).2)
@[go_sem] def bbs (l:List Ct) (root:Nat) (cav:List Cv) (n:Nat):D:= .tup [.bool (kbk l root cav n).1, .int .i64 (kbk l root cav n).2]
@[go_sem] abbrev kdU:FuncId:=48
@[go_sem] def uca:Tab:=[(114,yR)]
theorem qba:za Tryz.prog uca:=(za.cons baG za.nil)
set_option maxRecDepth 8000 in
set_option maxHeartbeats 1000000 in
theorem jbI (l:List Ct) (root:Nat) (cav:List Cv) (n:Nat):va Tryz.prog 48 [.sl (cts l), .c (.int .u64 (root:Int)), .sl (cvs cav), .c (.int .u64 (n:Int))] (bbs l root cav n):=by
 refine .of (qet qba (Nat.le_of_ble_eq_true rfl) ?_)
 simp -implicitDefEqProofs only [cdA,go_sem,Go.Proofs.Tryz.f48,reduceIte,reduceCtorEq,Nat.reduceEqDiff,Nat.reduceAdd,Nat.reduceLeDiff,Nat.reduceSub,Nat.reduceMul,Nat.reduceLT,Nat.reduceShiftRight,Nat.reduceMod,Int.reduceLE,Int.reduceLT,Int.reduceToNat,List.cons.injEq,cdB]
 refine⟨fun h=> ?_,fun h=> ?_⟩
 ·rw [kbk,if_pos h];exact⟨rfl,rfl⟩
 ·rw [kbk,if_neg h];exact⟨rfl,rfl⟩
def u0:List D→Option (Prop×D×Fr)
 |[.c (.sl z19), .c (.int .u64 z20), .c (.sl z21), .c (.int .u64 z22)]=>some (z19=cts (xm z19)∧z20=(z20.toNat:Int)∧z21=cvs (zj z21)∧z22=(z22.toNat:Int),bbs (xm z19) z20.toNat (zj z21) z22.toNat,[])
 |_=>none
attribute [go_sem] u0
theorem jaR:∀rs p r fr,u0 rs=some (p,r,fr)→p→uc Tryz.prog 48 rs r fr:=by
 intro rs p r fr h hp
 unfold u0 at h
 split at h<;>cases h
 obtain⟨hc0,hc1,hc2,hc3⟩:=hp
 rename_i z19 z20 z21 z22
 obtain⟨z19,rfl⟩:∃m,z19=cts m:=⟨_,hc0⟩
 obtain⟨z20,rfl⟩:∃m:Nat,z20=m:=⟨_,hc1⟩
 obtain⟨z21,rfl⟩:∃m,z21=cvs m:=⟨_,hc2⟩
 obtain⟨z22,rfl⟩:∃m:Nat,z22=m:=⟨_,hc3⟩
 simp only [Int.toNat_natCast,jd,ye]
 exact jbI z19 z20 z21 z22
end Dm
namespace Dm
open Go Go.Proofs Go.IntWalk
def gac (r:Rq):Nat×Int:=if rqS r=0 then(if r.method=1 then(r.n,0)else if r.method=2 then ubc r.items else(0,0))else(0,rqS r)
@[go_sem] def qcw (r:Rq):D:= .tup [.int .u64 ((gac r).1:Nat), .int .i64 (gac r).2]
@[go_sem] abbrev bex:FuncId:=57
@[go_sem] def bdD:Tab:=[(120,gH),(121,vab)]
theorem bbw:za Tryz.prog bdD:=(za.cons uaq (za.cons gaj za.nil))
set_option maxRecDepth 8000 in
set_option maxHeartbeats 1000000 in
theorem xcw (r:Rq):va Tryz.prog 57 [.agg [.c (.int .u64 (r.id:Int)), .c (.int .i64 r.method), .c (.int .u64 (r.key:Int)), .c (.int .u64 (r.t.root:Int)), .sl (cvs r.t.l), .c (.int .i64 r.t.tag), .c (.int .u64 (r.a:Int)), .c (.int .u64 (r.n:Int)), .c (.int .u64 (r.till:Int)), .sl (its r.items), .sl (cvs r.l)]] (qcw r):=by
 refine .of (bet bbw (Nat.le_of_ble_eq_true rfl) ?_)
 simp -implicitDefEqProofs only [cdA,go_sem,Go.Proofs.Tryz.f57,reduceIte,reduceCtorEq,Nat.reduceEqDiff,Nat.reduceAdd,Nat.reduceLeDiff,Nat.reduceSub,Nat.reduceMul,Nat.reduceLT,Nat.reduceShiftRight,Nat.reduceMod,Int.reduceLE,Int.reduceLT,Int.reduceToNat,List.cons.injEq,cdB]
 refine⟨fun h=>⟨fun h1=> ?_,fun h1=>⟨fun h2=> ?_,fun h2=> ?_⟩⟩,fun h=> ?_⟩
 ·rw [gac,if_pos h,if_pos h1];exact⟨rfl,rfl⟩
 ·rw [gac,if_pos h,if_neg h1,if_pos h2];exact⟨rfl,rfl⟩
 ·rw [gac,if_pos h,if_neg h1,if_neg h2];exact⟨rfl,rfl⟩
 ·rw [gac,if_neg h];exact⟨rfl,rfl⟩
def ga0:List D→Option (Prop×D×Fr)
 |[.agg [.c (.int .u64 z2), .c (.int .i64 z3), .c (.int .u64 z4), .c (.int .u64 z6), .c (.sl z7), .c (.int .i64 z8), .c (.int .u64 z9), .c (.int .u64 z10), .c (.int .u64 z11), .c (.sl z12), .c (.sl z13)]]=>some (z2=(z2.toNat:Int)∧z4=(z4.toNat:Int)∧z6=(z6.toNat:Int)∧z7=cvs (zj z7)∧z9=(z9.toNat:Int)∧z10=(z10.toNat:Int)∧z11=(z11.toNat:Int)∧z12=its (y7 z12)∧z13=cvs (zj z13),qcw (⟨z2.toNat,z3,z4.toNat,(⟨z6.toNat,(zj z7),z8⟩:Tk),z9.toNat,z10.toNat,z11.toNat,(y7 z12),(zj z13)⟩:Rq),[])
 |_=>none
attribute [go_sem] ga0
theorem zbt:∀rs p r fr,ga0 rs=some (p,r,fr)→p→uc Tryz.prog 57 rs r fr:=by
 intro rs p r fr h hp
 unfold ga0 at h
 split at h<;>cases h
 obtain⟨hc0,hc1,hc2,hc3,hc4,hc5,hc6,hc7,hc8⟩:=hp
 rename_i z2 z3 z4 z6 z7 z8 z9 z10 z11 z12 z13
 obtain⟨z2,rfl⟩:∃m:Nat,z2=m:=⟨_,hc0⟩
 obtain⟨z4,rfl⟩:∃m:Nat,z4=m:=⟨_,hc1⟩
 obtain⟨z6,rfl⟩:∃m:Nat,z6=m:=⟨_,hc2⟩
 obtain⟨z7,rfl⟩:∃m,z7=cvs m:=⟨_,hc3⟩
 obtain⟨z9,rfl⟩:∃m:Nat,z9=m:=⟨_,hc4⟩
 obtain⟨z10,rfl⟩:∃m:Nat,z10=m:=⟨_,hc5⟩
 obtain⟨z11,rfl⟩:∃m:Nat,z11=m:=⟨_,hc6⟩
 obtain⟨z12,rfl⟩:∃m,z12=its m:=⟨_,hc7⟩
 obtain⟨z13,rfl⟩:∃m,z13=cvs m:=⟨_,hc8⟩
 simp only [Int.toNat_natCast,ye,uo]
 exact xcw ⟨z2,z3,z4,⟨z6,z7,z8⟩,z9,z10,z11,z12,z13⟩
structure Bk where
 w:Wl
 a:Ar
 r:List Rk
 k:List Ky
 s:List Ct
deriving DecidableEq,Inhabited
@[go_sem] def Bk.enc (e:Bk):List C:=[.sl (chs e.w.c), .sl (wts e.w.w), .sl (ivs e.w.i), .sl (pys e.w.p), .int .u64 (e.w.f.next:Int), .sl (evs e.w.f.l), .int .u64 (e.w.next:Int), .int .u64 (e.w.tick:Int), .sl (tms e.a.l), .sl (rks e.r), .sl (kys e.k), .sl (cts e.s)]
def Bk.dec:List C→Bk
 |[.sl z16, .sl z17, .sl z18, .sl z19, .int .u64 z21, .sl z22, .int .u64 z23, .int .u64 z24, .sl z26, .sl z27, .sl z28, .sl z29]=>(⟨(⟨(ug z16),(vl z17),(qi z18),(ji z19),(⟨z21.toNat,(xh z22)⟩:Fd),z23.toNat,z24.toNat⟩:Wl),(⟨(zh z26)⟩:Ar),(vj z27),(yo z28),(xm z29)⟩:Bk)
 |_=>default
def bks (l:List Bk):List (List C):=l.map Bk.enc
def jeb (l:List (List C)):List Bk:=l.map Bk.dec
@[simp,go_sem] theorem vch (l:List Bk):(bks l).length=l.length:=by simp [bks]
@[go_sem] theorem kdG (l:List Bk) (i:Nat):(bks l).getD i [.sl [], .sl [], .sl [], .sl [], .int .u64 0, .sl [], .int .u64 0, .int .u64 0, .sl [], .sl [], .sl [], .sl []]=(l.getD i default).enc:=by
 simp only [bks,List.getD_eq_getElem?_getD,List.getElem?_map]
 cases l[i]? <;>rfl
@[go_sem] theorem vcZ (l:List Bk):uf 12 (bks l)=True:=by
 simp [uf,bks,Bk.enc]
theorem Bk.yd (e:Bk):Bk.dec e.enc=e:=by
 simp [Bk.enc,Bk.dec,yb,jd,qb,vb,ze,jb,yc,xb,qc]
@[go_sem] theorem zc3 (l:List Bk):jeb (bks l)=l:=by
 simp only [jeb,bks,List.map_map]
 exact List.map_id'' (fun e=>Bk.yd e) l
@[go_sem] theorem jdG (a b:List Bk):bks a++bks b=bks (a++b):=by simp [bks]
@[go_sem] theorem jcZ (l:List Bk) (k:Nat):(bks l).drop k=bks (l.drop k):=by simp [bks]
@[go_sem] theorem kcZ (l:List Bk) (k:Nat):(bks l).take k=bks (l.take k):=by simp [bks]
@[go_sem] theorem vdG (z30:List Ch) (z31:List Wt) (z32:List Iv) (z33:List Py) (z34:Int) (z35:List Ev) (z36:Int) (z37:Int) (z38:List Tm) (z39:List Rk) (z40:List Ky) (z41:List Ct) (hz34:0≤z34) (hz36:0≤z36) (hz37:0≤z37):[[C.sl (chs z30),C.sl (wts z31),C.sl (ivs z32),C.sl (pys z33),C.int .u64 z34,C.sl (evs z35),C.int .u64 z36,C.int .u64 z37,C.sl (tms z38),C.sl (rks z39),C.sl (kys z40),C.sl (cts z41)]]=bks [⟨⟨z30,z31,z32,z33,⟨z34.toNat,z35⟩,z36.toNat,z37.toNat⟩,⟨z38⟩,z39,z40,z41⟩]:=by simp [bks,Bk.enc,Int.toNat_of_nonneg hz34,Int.toNat_of_nonneg hz36,Int.toNat_of_nonneg hz37]
@[go_sem] theorem wdG (l:List Bk) (i:Nat) (z30:List Ch) (z31:List Wt) (z32:List Iv) (z33:List Py) (z34:Int) (z35:List Ev) (z36:Int) (z37:Int) (z38:List Tm) (z39:List Rk) (z40:List Ky) (z41:List Ct) (hz34:0≤z34) (hz36:0≤z36) (hz37:0≤z37):(bks l).set i [C.sl (chs z30),C.sl (wts z31),C.sl (ivs z32),C.sl (pys z33),C.int .u64 z34,C.sl (evs z35),C.int .u64 z36,C.int .u64 z37,C.sl (tms z38),C.sl (rks z39),C.sl (kys z40),C.sl (cts z41)]=bks (l.set i ⟨⟨z30,z31,z32,z33,⟨z34.toNat,z35⟩,z36.toNat,z37.toNat⟩,⟨z38⟩,z39,z40,z41⟩):=by simp [bks,List.map_set,Bk.enc,Int.toNat_of_nonneg hz34,Int.toNat_of_nonneg hz36,Int.toNat_of_nonneg hz37]
@[go_sem] theorem qcZ (l:List Bk) (z30:List Ch) (z31:List Wt) (z32:List Iv) (z33:List Py) (z34:Int) (z35:List Ev) (z36:Int) (z37:Int) (z38:List Tm) (z39:List Rk) (z40:List Ky) (z41:List Ct) (hz34:0≤z34) (hz36:0≤z36) (hz37:0≤z37):[C.sl (chs z30),C.sl (wts z31),C.sl (ivs z32),C.sl (pys z33),C.int .u64 z34,C.sl (evs z35),C.int .u64 z36,C.int .u64 z37,C.sl (tms z38),C.sl (rks z39),C.sl (kys z40),C.sl (cts z41)]::bks l=bks (⟨⟨z30,z31,z32,z33,⟨z34.toNat,z35⟩,z36.toNat,z37.toNat⟩,⟨z38⟩,z39,z40,z41⟩::l):=by simp [bks,Bk.enc,Int.toNat_of_nonneg hz34,Int.toNat_of_nonneg hz36,Int.toNat_of_nonneg hz37]
@[go_sem] theorem Bk.eta {e:Bk}:(⟨e.w,e.a,e.r,e.k,e.s⟩:Bk)=e:=rfl
def jU (b:Bk):Int:=if wU b.w≠0 then wU b.w else if vo b.a.l≠0 then vo b.a.l else if vU b.r≠0 then vU b.r else if bbe b.k≠0 then bbe b.k else wJ b.s
@[go_sem] def kaU (b:Bk):D:= .int .i64 (jU b)
@[go_sem] abbrev kdb:FuncId:=31
@[go_sem] def wbA:Tab:=[(82,jE),(54,yq),(83,uw),(84,yG),(85,zx)]
theorem vi:za Tryz.prog wbA:=(za.cons wW (za.cons gz (za.cons kQ (za.cons uao (za.cons bQ za.nil)))))
set_option maxRecDepth 8000 in
set_option maxHeartbeats 1000000 in
theorem bbg (b:Bk) (h:b.w.f.next≤18446744073709551615):va Tryz.prog 31 [.agg [.sl (chs b.w.c), .sl (wts b.w.w), .sl (ivs b.w.i), .sl (pys b.w.p), .c (.int .u64 (b.w.f.next:Int)), .sl (evs b.w.f.l), .c (.int .u64 (b.w.next:Int)), .c (.int .u64 (b.w.tick:Int)), .sl (tms b.a.l), .sl (rks b.r), .sl (kys b.k), .sl (cts b.s)]] (kaU b):=by
 refine .of (uer vi (Nat.le_of_ble_eq_true rfl) ?_)
 simp -implicitDefEqProofs only [cdA,go_sem,Go.Proofs.Tryz.f31,reduceIte,reduceCtorEq,Nat.reduceEqDiff,Nat.reduceAdd,Nat.reduceLeDiff,Nat.reduceSub,Nat.reduceMul,Nat.reduceLT,Nat.reduceShiftRight,Nat.reduceMod,Int.reduceLE,Int.reduceLT,Int.reduceToNat,List.cons.injEq,cdB]
 refine ud.run xcT vi ja (by kernel_rfl) (by kernel_rfl) ?_
 simp -implicitDefEqProofs only [cdA,go_sem,reduceIte,reduceCtorEq,Nat.reduceEqDiff,Nat.reduceAdd,Nat.reduceLeDiff,Nat.reduceSub,Nat.reduceMul,Nat.reduceLT,Nat.reduceShiftRight,Nat.reduceMod,Int.reduceLE,Int.reduceLT,Int.reduceToNat,List.cons.injEq,cdB]
 refine⟨h,SWp.loop (ι:={i:Nat // i≤5∧(0<i→wU b.w=0)∧(1<i→vo b.a.l=0)∧(2<i→vU b.r=0)∧(3<i→bbe b.k=0)∧(4<i→wJ b.s=0)}) (fun i=>⟨[(20, .agg [.int .i64 (wU b.w), .int .i64 (vo b.a.l), .int .i64 (vU b.r), .int .i64 (bbe b.k), .int .i64 (wJ b.s)]),(21, .int .i64 i.1)],[],1⟩) (fun i=>5 - i.1) ⟨0,by simp⟩ ?_ ?_⟩
 ·simp [go_sem]
 ·rintro⟨i,hi,h1,h2,h3,h4,h5⟩
  match i,hi,h1,h2,h3,h4,h5 with
  |5,_,h1,h2,h3,h4,h5=>
   refine qa vi.toS wbO _ _ _ rfl ?_
   simp -implicitDefEqProofs only [cdA,go_sem,reduceIte,reduceCtorEq,Nat.reduceEqDiff,Nat.reduceAdd,Nat.reduceLeDiff,Nat.reduceSub,Nat.reduceMul,Nat.reduceLT,Nat.reduceShiftRight,Nat.reduceMod,Int.reduceLE,Int.reduceLT,Int.reduceToNat,List.cons.injEq,cdB]
   refine⟨fun h=>h.elim, ?_⟩
   rw [jU,if_neg (fun h=>h (h1 (by decide))),if_neg (fun h=>h (h2 (by decide))),if_neg (fun h=>h (h3 (by decide))),if_neg (fun h=>h (h4 (by decide))),h5 (by decide)]
  |4,_,h1,h2,h3,h4,h5=>
   refine qa vi.toS wbO _ _ _ rfl ?_
   simp -implicitDefEqProofs only [cdA,go_sem,reduceIte,reduceCtorEq,Nat.reduceEqDiff,Nat.reduceAdd,Nat.reduceLeDiff,Nat.reduceSub,Nat.reduceMul,Nat.reduceLT,Nat.reduceShiftRight,Nat.reduceMod,Int.reduceLE,Int.reduceLT,Int.reduceToNat,List.cons.injEq,cdB]
   refine⟨fun h6=>⟨⟨5,by decide,fun _=>h1 (by decide),fun _=>h2 (by decide),fun _=>h3 (by decide),fun _=>h4 (by decide),fun _=>h6⟩,by dsimp only;omega,by kernel_rfl⟩,fun h6=> ?_⟩
   rw [jU,if_neg (fun h=>h (h1 (by decide))),if_neg (fun h=>h (h2 (by decide))),if_neg (fun h=>h (h3 (by decide))),if_neg (fun h=>h (h4 (by decide)))]
  |3,_,h1,h2,h3,h4,h5=>
   refine qa vi.toS wbO _ _ _ rfl ?_
   simp -implicitDefEqProofs only [cdA,go_sem,reduceIte,reduceCtorEq,Nat.reduceEqDiff,Nat.reduceAdd,Nat.reduceLeDiff,Nat.reduceSub,Nat.reduceMul,Nat.reduceLT,Nat.reduceShiftRight,Nat.reduceMod,Int.reduceLE,Int.reduceLT,Int.reduceToNat,List.cons.injEq,cdB]
   refine⟨fun h6=>⟨⟨4,by decide,fun _=>h1 (by decide),fun _=>h2 (by decide),fun _=>h3 (by decide),fun _=>h6,fun h=>absurd h (by decide)⟩,by dsimp only;omega,by kernel_rfl⟩,fun h6=> ?_⟩
   rw [jU,if_neg (fun h=>h (h1 (by decide))),if_neg (fun h=>h (h2 (by decide))),if_neg (fun h=>h (h3 (by decide))),if_pos h6]
  |2,_,h1,h2,h3,h4,h5=>
   refine qa vi.toS wbO _ _ _ rfl ?_
   simp -implicitDefEqProofs only [cdA,go_sem,reduceIte,reduceCtorEq,Nat.reduceEqDiff,Nat.reduceAdd,Nat.reduceLeDiff,Nat.reduceSub,Nat.reduceMul,Nat.reduceLT,Nat.reduceShiftRight,Nat.reduceMod,Int.reduceLE,Int.reduceLT,Int.reduceToNat,List.cons.injEq,cdB]
   refine⟨fun h6=>⟨⟨3,by decide,fun _=>h1 (by decide),fun _=>h2 (by decide),fun _=>h6,fun h=>absurd h (by decide),fun h=>absurd h (by decide)⟩,by dsimp only;omega,by kernel_rfl⟩,fun h6=> ?_⟩
   rw [jU,if_neg (fun h=>h (h1 (by decide))),if_neg (fun h=>h (h2 (by decide))),if_pos h6]
  |1,_,h1,h2,h3,h4,h5=>
   refine qa vi.toS wbO _ _ _ rfl ?_
   simp -implicitDefEqProofs only [cdA,go_sem,reduceIte,reduceCtorEq,Nat.reduceEqDiff,Nat.reduceAdd,Nat.reduceLeDiff,Nat.reduceSub,Nat.reduceMul,Nat.reduceLT,Nat.reduceShiftRight,Nat.reduceMod,Int.reduceLE,Int.reduceLT,Int.reduceToNat,List.cons.injEq,cdB]
   refine⟨fun h6=>⟨⟨2,by decide,fun _=>h1 (by decide),fun _=>h6,fun h=>absurd h (by decide),fun h=>absurd h (by decide),fun h=>absurd h (by decide)⟩,by dsimp only;omega,by kernel_rfl⟩,fun h6=> ?_⟩
   rw [jU,if_neg (fun h=>h (h1 (by decide))),if_pos h6]
  |0,_,h1,h2,h3,h4,h5=>
   refine qa vi.toS wbO _ _ _ rfl ?_
   simp -implicitDefEqProofs only [cdA,go_sem,reduceIte,reduceCtorEq,Nat.reduceEqDiff,Nat.reduceAdd,Nat.reduceLeDiff,Nat.reduceSub,Nat.reduceMul,Nat.reduceLT,Nat.reduceShiftRight,Nat.reduceMod,Int.reduceLE,Int.reduceLT,Int.reduceToNat,List.cons.injEq,cdB]
   refine⟨fun h6=>⟨⟨1,by decide,fun _=>h6,fun h=>absurd h (by decide),fun h=>absurd h (by decide),fun h=>absurd h (by decide),fun h=>absurd h (by decide)⟩,by dsimp only;omega,by kernel_rfl⟩,fun h6=> ?_⟩
   rw [jU,if_pos h6]
@[go_sem] def jaU (b:Bk):Prop:=(b.w.f.next≤18446744073709551615)
def uD:List D→Option (Prop×D×Fr)
 |[.agg [.c (.sl z44), .c (.sl z45), .c (.sl z46), .c (.sl z47), .c (.int .u64 z49), .c (.sl z50), .c (.int .u64 z51), .c (.int .u64 z52), .c (.sl z54), .c (.sl z55), .c (.sl z56), .c (.sl z57)]]=>some (z44=chs (ug z44)∧z45=wts (vl z45)∧z46=ivs (qi z46)∧z47=pys (ji z47)∧z49=(z49.toNat:Int)∧z50=evs (xh z50)∧z51=(z51.toNat:Int)∧z52=(z52.toNat:Int)∧z54=tms (zh z54)∧z55=rks (vj z55)∧z56=kys (yo z56)∧z57=cts (xm z57)∧jaU (⟨(⟨(ug z44),(vl z45),(qi z46),(ji z47),(⟨z49.toNat,(xh z50)⟩:Fd),z51.toNat,z52.toNat⟩:Wl),(⟨(zh z54)⟩:Ar),(vj z55),(yo z56),(xm z57)⟩:Bk),kaU (⟨(⟨(ug z44),(vl z45),(qi z46),(ji z47),(⟨z49.toNat,(xh z50)⟩:Fd),z51.toNat,z52.toNat⟩:Wl),(⟨(zh z54)⟩:Ar),(vj z55),(yo z56),(xm z57)⟩:Bk),[])
 |_=>none
attribute [go_sem] uD
theorem qW:∀rs p r fr,uD rs=some (p,r,fr)→p→uc Tryz.prog 31 rs r fr:=by
 intro rs p r fr h hp
 unfold uD at h
 split at h<;>cases h
 obtain⟨hc0,hc1,hc2,hc3,hc4,hc5,hc6,hc7,hc8,hc9,hc10,hc11,hp⟩:=hp
 rename_i z44 z45 z46 z47 z49 z50 z51 z52 z54 z55 z56 z57
 obtain⟨z44,rfl⟩:∃m,z44=chs m:=⟨_,hc0⟩
 obtain⟨z45,rfl⟩:∃m,z45=wts m:=⟨_,hc1⟩
 obtain⟨z46,rfl⟩:∃m,z46=ivs m:=⟨_,hc2⟩
 obtain⟨z47,rfl⟩:∃m,z47=pys m:=⟨_,hc3⟩
 obtain⟨z49,rfl⟩:∃m:Nat,z49=m:=⟨_,hc4⟩
 obtain⟨z50,rfl⟩:∃m,z50=evs m:=⟨_,hc5⟩
 obtain⟨z51,rfl⟩:∃m:Nat,z51=m:=⟨_,hc6⟩
 obtain⟨z52,rfl⟩:∃m:Nat,z52=m:=⟨_,hc7⟩
 obtain⟨z54,rfl⟩:∃m,z54=tms m:=⟨_,hc8⟩
 obtain⟨z55,rfl⟩:∃m,z55=rks m:=⟨_,hc9⟩
 obtain⟨z56,rfl⟩:∃m,z56=kys m:=⟨_,hc10⟩
 obtain⟨z57,rfl⟩:∃m,z57=cts m:=⟨_,hc11⟩
 simp only [Int.toNat_natCast,yb,jd,qb,vb,ze,jb,yc,xb,qc]
 simp only [Int.toNat_natCast,yb,jd,qb,vb,ze,jb,yc,xb,qc,jaU]at hp
 exact bbg ⟨⟨z44,z45,z46,z47,⟨z49,z50⟩,z51,z52⟩,⟨z54⟩,z55,z56,z57⟩ hp
end Dm
namespace Dm
open Go Go.Proofs Go.IntWalk
@[go_sem] def baC (l:List Rk):D:= .vec 0 l.length
@[go_sem] def kaj (l:List Rk):Fr:=[(3,70,true,rks l)]
@[go_sem] abbrev ycM:FuncId:=134
@[go_sem] def wbr:Tab:=[]
theorem uaC:za Tryz.prog wbr:=za.nil
set_option maxRecDepth 8000 in
set_option maxHeartbeats 1000000 in
theorem wa9 (l:List Rk) (hl:l.length≤1000000):ki Tryz.prog 134 [.sl (rks l)] (baC l) (kaj l):=by
 refine .of (vdw uaC (Nat.le_of_ble_eq_true rfl) ?_)
 simp -implicitDefEqProofs only [cdA,go_sem,Go.Proofs.Tryz.f134,reduceIte,reduceCtorEq,Nat.reduceEqDiff,Nat.reduceAdd,Nat.reduceLeDiff,Nat.reduceSub,Nat.reduceMul,Nat.reduceLT,Nat.reduceShiftRight,Nat.reduceMod,Int.reduceLE,Int.reduceLT,Int.reduceToNat,List.cons.injEq,cdB]
 refine fun b hb=>⟨fun h=> ?_,fun h=> ?_⟩
 ·exact⟨[none],by simp [go_sem,hb h],by cases l<;>simp_all [go_sem,rks]⟩
 ·exact⟨by omega,[some 0],by simp [go_sem]⟩
@[go_sem] def gaC (l:List Rk):Prop:=(l.length≤1000000)
def qw:List D→Option (Prop×D×Fr)
 |[.c (.sl z1)]=>some (z1=rks (vj z1)∧gaC (vj z1),baC (vj z1),kaj (vj z1))
 |_=>none
attribute [go_sem] qw
theorem jQ:∀rs p r fr,qw rs=some (p,r,fr)→p→uc Tryz.prog 134 rs r fr:=by
 intro rs p r fr h hp
 unfold qw at h
 split at h<;>cases h
 obtain⟨hc0,hp⟩:=hp
 rename_i z1
 obtain⟨z1,rfl⟩:∃m,z1=rks m:=⟨_,hc0⟩
 simp only [yc]
 simp only [yc,gaC]at hp
 exact(show uc _ _ _ _ _ from And.intro rfl (wa9 z1 hp))
end Dm
