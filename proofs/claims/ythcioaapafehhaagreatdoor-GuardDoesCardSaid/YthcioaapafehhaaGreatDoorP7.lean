import Derived.Test.YthcioaapafehhaaGreatDoorP6

set_option linter.unusedSimpArgs false
set_option linter.unusedVariables false
set_option linter.unusedSectionVars false
set_option linter.defProp false
set_option maxRecDepth 20000
set_option maxHeartbeats 4000000
namespace Dm
open Go Go.Proofs Go.IntWalk
structure Py where
 id:Nat
 hash:Nat
 chan:Nat
 n:Nat
 state:Int
deriving DecidableEq,Inhabited
@[go_sem] def Py.enc (e:Py):List C:=[.int .u64 (e.id:Int), .int .u64 (e.hash:Int), .int .u64 (e.chan:Int), .int .u64 (e.n:Int), .int .i64 e.state]
def Py.dec:List C→Py
 |[.int .u64 z109, .int .u64 z110, .int .u64 z111, .int .u64 z112, .int .i64 z113]=>(⟨z109.toNat,z110.toNat,z111.toNat,z112.toNat,z113⟩:Py)
 |_=>default
def pys (l:List Py):List (List C):=l.map Py.enc
def vb (l:List (List C)):List Py:=l.map Py.dec
@[simp,go_sem] theorem zc5 (l:List Py):(pys l).length=l.length:=by simp [pys]
@[go_sem] theorem yeP (l:List Py) (i:Nat):(pys l).getD i [.int .u64 0, .int .u64 0, .int .u64 0, .int .u64 0, .int .i64 0]=(l.getD i default).enc:=by
 simp only [pys,List.getD_eq_getElem?_getD,List.getElem?_map]
 cases l[i]? <;>rfl
@[go_sem] theorem jdX (l:List Py):bf 5 (pys l)=True:=by
 simp [bf,pys,Py.enc]
theorem Py.jc (e:Py):Py.dec e.enc=e:=by
 simp [Py.enc,Py.dec]
@[go_sem] theorem vbd (l:List Py):vb (pys l)=l:=by
 simp only [vb,pys,List.map_map]
 exact List.map_id'' (fun e=>Py.jc e) l
@[go_sem] theorem zeP (a b:List Py):pys a++pys b=pys (a++b):=by simp [pys]
@[go_sem] theorem ydX (l:List Py) (k:Nat):(pys l).drop k=pys (l.drop k):=by simp [pys]
@[go_sem] theorem qdX (l:List Py) (k:Nat):(pys l).take k=pys (l.take k):=by simp [pys]
@[go_sem] theorem xeP (z114:Int) (z115:Int) (z116:Int) (z117:Int) (z118:Int) (hz114:0≤z114) (hz115:0≤z115) (hz116:0≤z116) (hz117:0≤z117):[[C.int .u64 z114,C.int .u64 z115,C.int .u64 z116,C.int .u64 z117,C.int .i64 z118]]=pys [⟨z114.toNat,z115.toNat,z116.toNat,z117.toNat,z118⟩]:=by simp [pys,Py.enc,Int.toNat_of_nonneg hz114,Int.toNat_of_nonneg hz115,Int.toNat_of_nonneg hz116,Int.toNat_of_nonneg hz117]
@[go_sem] theorem qeP (l:List Py) (i:Nat) (z114:Int) (z115:Int) (z116:Int) (z117:Int) (z118:Int) (hz114:0≤z114) (hz115:0≤z115) (hz116:0≤z116) (hz117:0≤z117):(pys l).set i [C.int .u64 z114,C.int .u64 z115,C.int .u64 z116,C.int .u64 z117,C.int .i64 z118]=pys (l.set i ⟨z114.toNat,z115.toNat,z116.toNat,z117.toNat,z118⟩):=by simp [pys,List.map_set,Py.enc,Int.toNat_of_nonneg hz114,Int.toNat_of_nonneg hz115,Int.toNat_of_nonneg hz116,Int.toNat_of_nonneg hz117]
@[go_sem] theorem zdX (l:List Py) (z114:Int) (z115:Int) (z116:Int) (z117:Int) (z118:Int) (hz114:0≤z114) (hz115:0≤z115) (hz116:0≤z116) (hz117:0≤z117):[C.int .u64 z114,C.int .u64 z115,C.int .u64 z116,C.int .u64 z117,C.int .i64 z118]::pys l=pys (⟨z114.toNat,z115.toNat,z116.toNat,z117.toNat,z118⟩::l):=by simp [pys,Py.enc,Int.toNat_of_nonneg hz114,Int.toNat_of_nonneg hz115,Int.toNat_of_nonneg hz116,Int.toNat_of_nonneg hz117]
@[go_sem] theorem xdX (l:List Py):bZ (pys l)=True:=eq_true fun x hx c hc=>by
 obtain⟨e,_,rfl⟩:=List.mem_map.1 hx
 simp only [Py.enc,List.mem_cons,List.not_mem_nil,or_false]at hc
 rcases hc with rfl|rfl|rfl|rfl|rfl<;>rfl
@[go_sem] theorem Py.eta {e:Py}:(⟨e.id,e.hash,e.chan,e.n,e.state⟩:Py)=e:=rfl
@[go_sem] theorem Py.eqD {a b:Py}:eqD Tryz.prog 192 [D.c (.int .u64 (a.id:Int)),D.c (.int .u64 (a.hash:Int)),D.c (.int .u64 (a.chan:Int)),D.c (.int .u64 (a.n:Int)),D.c (.int .i64 a.state)] [D.c (.int .u64 (b.id:Int)),D.c (.int .u64 (b.hash:Int)),D.c (.int .u64 (b.chan:Int)),D.c (.int .u64 (b.n:Int)),D.c (.int .i64 b.state)]=some (decide (a=b)):=by
 cases a;cases b
 simp only [Dm.eqD,xb2,vm,eqC,List.getElem?_cons_zero,List.getElem?_cons_succ,if_true,Option.some.injEq,Py.mk.injEq]
 rw [Bool.eq_iff_iff]
 simp [Int.ofNat_inj]
def zP (x:Py):Prop:=(x.n≠0∧x.n≤MM)∧1≤x.state∧x.state≤3
instance (x:Py):Decidable (zP x):=by unfold zP;infer_instance
def uaN (l:List Py):Prop:=l.length≤256∧(∀x∈l,zP x)∧Srt.Chn Py.id ltN l
instance (l:List Py):Decidable (Srt.Chn Py.id ltN l):=by unfold Srt.Chn;infer_instance
instance (l:List Py):Decidable (uaN l):=by unfold uaN;infer_instance
def bbc (l:List Py):Int:=if uaN l then 0 else 1
@[go_sem] def vbh (x:Py) (id:Nat):D:= .int .i64 (vai x.id id)
@[go_sem] abbrev qdR:FuncId:=252
@[go_sem] def ub9:Tab:=[(225,gP)]
theorem qa2:za Tryz.prog ub9:=(za.cons wu za.nil)
theorem xbM (x:Py) (id:Nat):ja Tryz.prog 252 [.agg [.c (.int .u64 (x.id:Int)), .c (.int .u64 (x.hash:Int)), .c (.int .u64 (x.chan:Int)), .c (.int .u64 (x.n:Int)), .c (.int .i64 x.state)], .c (.int .u64 (id:Int))] (vbh x id):=by
 refine .of (xem qa2 (Nat.le_of_ble_eq_true rfl) ?_)
 simp -implicitDefEqProofs only [cdA,go_sem,Go.Proofs.Tryz.f252,simprocAttr, -Int.reduceEq,List.cons.injEq,cdB]
def gV:List D→Option (Prop×D×Fr)
 |[.agg [.c (.int .u64 z120), .c (.int .u64 z121), .c (.int .u64 z122), .c (.int .u64 z123), .c (.int .i64 z124)], .c (.int .u64 z125)]=>some (z120=(z120.toNat:Int)∧z121=(z121.toNat:Int)∧z122=(z122.toNat:Int)∧z123=(z123.toNat:Int)∧z125=(z125.toNat:Int),vbh (⟨z120.toNat,z121.toNat,z122.toNat,z123.toNat,z124⟩:Py) z125.toNat,[])
 |_=>none
attribute [go_sem] gV
theorem kaU:ga 252 gV:=by
 intro rs p r fr h hp
 unfold gV at h
 split at h<;>cases h
 obtain⟨hc0,hc1,hc2,hc3,hc4⟩:=hp
 rename_i z120 z121 z122 z123 z124 z125
 have:=xbM ⟨z120.toNat,z121.toNat,z122.toNat,z123.toNat,z124⟩ z125.toNat
 rw [←hc0,←hc1,←hc2,←hc3,←hc4]at this
 exact this
@[go_sem] def zcn (p:Py):D:= .bool (decide (zP p))
@[go_sem] abbrev bfc:FuncId:=251
@[go_sem] def qds:Tab:=[(122,yf)]
theorem ybM:za Tryz.prog qds:=(za.cons we za.nil)
theorem xcH (p:Py):ja Tryz.prog 251 [.agg [.c (.int .u64 (p.id:Int)), .c (.int .u64 (p.hash:Int)), .c (.int .u64 (p.chan:Int)), .c (.int .u64 (p.n:Int)), .c (.int .i64 p.state)]] (zcn p):=by
 refine .of (yem ybM (Nat.le_of_ble_eq_true rfl) ?_)
 simp -implicitDefEqProofs only [cdA,go_sem,Go.Proofs.Tryz.f251,simprocAttr, -Int.reduceEq,List.cons.injEq,cdB]
 have hm:bO [p.n]=0↔p.n≤MM:=gG
 rw [hm]
 have ho:zP p↔(p.n≠0∧p.n≤MM)∧1≤p.state∧p.state≤3:= .rfl
 rw [show decide (zP p)=decide ((p.n≠0∧p.n≤MM)∧1≤p.state∧p.state≤3)from decide_eq_decide.2 ho]
 refine⟨fun h=>⟨fun h2=>⟨fun h3=> ?_,fun h3=> ?_⟩,fun h2=> ?_⟩,fun h=> ?_⟩
 ·rw [decide_eq_decide];exact⟨fun h4=>⟨⟨by omega,h2⟩,h3,h4⟩,fun h4=>h4.2.2⟩
 ·exact(decide_eq_false fun h4=>h3 h4.2.1).symm
 ·exact(decide_eq_false fun h4=>h2 h4.1.2).symm
 ·exact(decide_eq_false fun h4=>h4.1.1 (by omega)).symm
def gaE:List D→Option (Prop×D×Fr)
 |[.agg [.c (.int .u64 z127), .c (.int .u64 z128), .c (.int .u64 z129), .c (.int .u64 z130), .c (.int .i64 z131)]]=>some (z127=(z127.toNat:Int)∧z128=(z128.toNat:Int)∧z129=(z129.toNat:Int)∧z130=(z130.toNat:Int),zcn (⟨z127.toNat,z128.toNat,z129.toNat,z130.toNat,z131⟩:Py),[])
 |_=>none
attribute [go_sem] gaE
theorem xby:ga 251 gaE:=by
 intro rs p r fr h hp
 unfold gaE at h
 split at h<;>cases h
 obtain⟨hc0,hc1,hc2,hc3⟩:=hp
 rename_i z127 z128 z129 z130 z131
 have:=xcH ⟨z127.toNat,z128.toNat,z129.toNat,z130.toNat,z131⟩
 rw [←hc0,←hc1,←hc2,←hc3]at this
 exact this
@[go_sem] def jbh (l:List Py):D:= .int .i64 (bbc l)
@[go_sem] abbrev xdR:FuncId:=224
@[go_sem] def kb9:Tab:=[(251,gaE),(252,gV)]
theorem vQ:za Tryz.prog kb9:=(za.cons xby (za.cons kaU za.nil))
theorem ubL (l:List Py):ja Tryz.prog 224 [.sl (pys l)] (jbh l):=by
 refine .of (gej vQ (Nat.le_of_ble_eq_true rfl) ?_)
 simp -implicitDefEqProofs only [cdA,go_sem,Go.Proofs.Tryz.f224,simprocAttr, -Int.reduceEq,List.cons.injEq,cdB]
 have hbad:¬uaN l→1=bbc l:=fun h=>by rw [bbc,if_neg h]
 refine fun _=>⟨fun h=>hbad fun ho=> ?_,fun h _=> ?_⟩
 ·have:=ho.1;omega
 refine SWp.loop (ι:={i:Nat // i≤l.length∧(∀j,j<i→zP (l.getD j default)∧(0<j→(l.getD (j - 1) default).id<(l.getD j default).id))}) (fun i=>⟨[(0, .sl (pys l)),(8, .sl (pys l)),(9, .int .i64 l.length),(10, .int .i64 i.1)],[],0⟩) (fun i=>l.length - i.1) ⟨0,by simp⟩ ?_ ?_
 ·simp [go_sem]
 ·rintro⟨i,hi,hall⟩
  refine ya vQ.toS bdj _ _ _ rfl ?_
  simp -implicitDefEqProofs only [cdA,go_sem,simprocAttr, -Int.reduceEq,List.cons.injEq,cdB]
  refine⟨fun h1=>⟨by omega, ?_⟩,fun h1=> ?_⟩
  ·refine xb.run jcO vQ qa (by kernel_rfl) (by kernel_rfl) ?_
   simp -implicitDefEqProofs only [cdA,go_sem,simprocAttr, -Int.reduceEq,List.cons.injEq,cdB]
   have hi':i<l.length:=by omega
   have hm:uaN l→zP (l.getD i default):=fun h=>h.2.1 _ (va.2 ⟨i,hi',rfl⟩)
   refine⟨fun h2=> ?_,fun h2=>hbad fun h=>h2 (hm h)⟩
   have hnext:(0<i→(l.getD (i - 1) default).id<(l.getD i default).id)→∃i_1:{i:Nat // i≤l.length∧(∀j,j<i→zP (l.getD j default)∧(0<j→(l.getD (j - 1) default).id<(l.getD j default).id))},l.length - i_1.val<l.length - i∧IntKind.i64.wrap ((i:Int)+1)=i_1.val:=fun ho=>by
    refine⟨⟨i+1,hi',fun j hj=> ?_⟩,by dsimp only;omega,i64_in _ (by omega)⟩
    by_cases hji:j=i
    ·subst hji;exact⟨h2,ho⟩
    ·exact hall j (by omega)
   refine⟨fun h3=> ?_,fun h3=>hnext fun h=>absurd h (by omega)⟩
   rw [i64_in _ (by omega),show((i:Int) - 1).toNat=i - 1 by omega]
   have hc:∀a b:Nat,0≤vai a b↔¬a<b:=fun a b=>by
    have:=yw (x:=a) (y:=b);omega
   rw [hc]
   exact⟨by omega,fun h4=>hbad fun h=>h4 (h.2.2 i hi' (by omega)),fun h4=>hnext fun _=>by omega⟩
  ·have hi':i=l.length:=by omega
   subst hi'
   rw [bbc,if_pos]
   exact⟨by omega,fun x hx=>by obtain⟨j,hj,rfl⟩:=va.1 hx;exact(hall j hj).1,fun j hj h0=>(hall j hj).2 h0⟩
def uV:List D→Option (Prop×D×Fr)
 |[.c (.sl z132)]=>some (z132=pys (vb z132),jbh (vb z132),[])
 |_=>none
attribute [go_sem] uV
theorem jaU:ga 224 uV:=by
 intro rs p r fr h hp
 unfold uV at h
 split at h<;>cases h
 have hc0:=hp
 rename_i z132
 have:=ubL (vb z132)
 rw [←hc0]at this
 exact this
end Dm
namespace Dm
open Go Go.Proofs Go.IntWalk
def hlC (c:Ch):List K3:=c.holds.map fun h=>(c.id,h.id,h.n)
def hlL (cs:List Ch):List K3:=cs.flatMap hlC
def wQ (l:List Py):List Py:=l.filter fun p=>decide (p.state=1)
def kac (l:List Py) (cs:List Ch):Bool×Int:=if uaN l∧cs.length≤32∧(cs.map Ch.id).Nodup then(decide ((∀p∈wQ l,(p.chan,p.id,p.n)∈hlL cs)∧(hlL cs).length=(wQ l).length),0)else(false,1)
theorem vbe:∀{cs:List Ch} {n:Nat},(∀c∈cs,c.holds.length≤1000000)→cs.length≤n→(hlL cs).length≤n*1000000
 |[],n,_,_=>by simp [hlL]
 |c::cs,n,h,hn=>by
  have h1:hlL (c::cs)=hlC c++hlL cs:=rfl
  rw [h1,List.length_append]
  have h2:(hlC c).length≤1000000:=by unfold hlC;rw [List.length_map];exact h c (.head _)
  have h3:=vbe (cs:=cs) (n:=cs.length) (fun d hd=>h d (.tail _ hd)) (Nat.le_refl _)
  simp only [List.length_cons]at hn
  omega
@[go_sem] def xbh (l:List Py) (cs:List Ch):D:= .tup [.bool (kac l cs).1, .int .i64 (kac l cs).2]
@[go_sem] abbrev ydR:FuncId:=162
@[go_sem] def qb9:Tab:=[(224,uV)]
theorem vu:za Tryz.prog qb9:=(za.cons jaU za.nil)
theorem wbL (l:List Py) (cs:List Ch) (hs:∀c∈cs,c.holds.length≤1000000):ja Tryz.prog 162 [.sl (pys l), .sl (chs cs)] (xbh l cs):=by
 refine .of (gee vu (Nat.le_of_ble_eq_true rfl) ?_)
 simp -implicitDefEqProofs only [cdA,go_sem,Go.Proofs.Tryz.f162,simprocAttr, -Int.reduceEq,List.cons.injEq,cdB]
 have hbad:¬(uaN l∧cs.length≤32∧(cs.map Ch.id).Nodup)→false=(kac l cs).1∧1=(kac l cs).2:=fun h=>by rw [kac,if_neg h];exact⟨rfl,rfl⟩
 have hcz:bbc l=0↔uaN l:=by unfold bbc;split<;>rename_i h<;>simp only [h]<;>decide
 refine⟨fun h0 hl=>⟨fun h=>hbad fun ho=> ?_,fun hle _=> ?_⟩,fun h0=>hbad fun h=>h0 (hcz.2 h.1)⟩
 ·have:=ho.2.1;omega
 have hok:=hcz.1 h0
 refine SWp.loop (ι:={x:Nat×List (K3×Int)×List (Nat×Int) // x.1≤cs.length∧((cs.take x.1).map Ch.id).Nodup∧(∀k,(alk k x.2.1).getD 0=(List.count k (hlL (cs.take x.1)):Nat))∧(∀k,(nlk k x.2.2).getD 0=(List.count k ((cs.take x.1).map Ch.id):Nat))})
  (fun x=>⟨[(0, .sl (pys l)),(6, .mp 0),(7, .mp 1),(8, .int .i64 (hlL (cs.take x.1.1)).length),(25, .sl (chs cs)),(26, .int .i64 cs.length),(27, .int .i64 x.1.1)],[(1, .map [.int .u64] (kvN .u64 .i64 x.1.2.2)),(0, .map [.int .u64, .int .u64, .int .u64] (kv3 x.1.2.1))],2⟩) (fun x=>cs.length - x.1.1)
  ⟨(0,[],[]),by simp,by simp,fun k=>by simp [alk,hlL],fun k=>by simp [nlk]⟩ ?_ ?_
 ·simp [go_sem,kvN,kv3,hlL]
 ·rintro⟨⟨i,m,ids⟩,hi,hnd,hm,hids⟩
  dsimp only at hi hnd hm hids
  refine ya vu.toS wb7 _ _ _ rfl ?_
  simp -implicitDefEqProofs only [cdA,go_sem,gb8,simprocAttr, -Int.reduceEq,List.cons.injEq,cdB]
  have hlen:(hlL (cs.take i)).length≤i*1000000:=vbe (fun c hc=>hs c (List.mem_of_mem_take hc)) (by rw [List.length_take];omega)
  refine⟨fun h1=>⟨by omega, ?_⟩,fun h1 _=> ?_⟩
  ·have hi':i<cs.length:=by omega
   have hcm:cs.getD i default∈cs:=va.2 ⟨i,hi',rfl⟩
   have htk:cs.take (i+1)=cs.take i++[cs.getD i default]:=take_succ hi'
   generalize cs.getD i default=c at*
   have hcl:=hs c hcm
   have hcle:List.count c.id ((cs.take i).map Ch.id)≤32:=Nat.le_trans List.count_le_length (by simp;omega)
   rw [hids,i64_in _ (by omega),uw,if_pos rfl]
   generalize hids':qaN c.id ((List.count c.id ((cs.take i).map Ch.id):Nat)+1:Int) ids=ids'
   have hid2:∀k,(nlk k ids').getD 0=(List.count k ((cs.take (i+1)).map Ch.id):Nat):=fun k=>by
    rw [←hids',uw,htk,List.map_append,List.count_append]
    split
    ·rename_i h;subst h;simp
    ·rename_i h
     rw [hids];simp [List.count_cons,Ne.symm h]
   refine⟨fun h2=>hbad fun ho=> ?_,fun h2 _=> ?_⟩
   ·have h3:(cs.take (i+1)).map Ch.id<+:cs.map Ch.id:=(List.take_prefix _ _).map _
    have h4:=h3.sublist.nodup ho.2.2
    rw [htk,List.map_append,List.nodup_append]at h4
    have h5:0<List.count c.id ((cs.take i).map Ch.id):=by
     simp only [Option.getD_some]at h2;omega
    exact h4.2.2 _ (List.count_pos_iff.1 h5) c.id (by simp) rfl
   ·have hnd':((cs.take (i+1)).map Ch.id).Nodup:=by
     rw [htk,List.map_append,List.nodup_append]
     refine⟨hnd,by simp,fun x hx y hy=> ?_⟩
     simp at hy
     rintro rfl
     subst hy
     have:=List.count_pos_iff.2 hx
     simp only [Option.getD_some]at h2;omega
    refine SWp.loop (ι:={x:Nat×List (K3×Int) // x.1≤c.holds.length∧∀k,(alk k x.2).getD 0=(List.count k (hlL (cs.take i)++(hlC c).take x.1):Nat)})
     (fun x=>⟨[(0, .sl (pys l)),(6, .mp 0),(7, .mp 1),(8, .int .i64 ((hlL (cs.take i)).length+x.1.1:Nat)),(10, .ref 2 0),(25, .sl (chs cs)),(26, .int .i64 cs.length),(27, .int .i64 i),(42, .c (.sl (hds c.holds))),(43, .int .i64 c.holds.length),(44, .int .i64 x.1.1)],
      [(2, .box [.c (.int .u64 c.id), .c (.int .u64 c.loc), .c (.int .u64 c.rem), .c (.int .u64 c.res), .c (.int .u64 c.most), .c (.sl (hds c.holds)), .c (.bool c.op)]),(1, .map [.int .u64] (kvN .u64 .i64 ids')),(0, .map [.int .u64, .int .u64, .int .u64] (kv3 x.1.2))],3⟩) (fun x=>c.holds.length - x.1.1)
     ⟨(0,m),by simp,fun k=>by simp [hm]⟩ ?_ ?_
    ·simp [go_sem]
    ·rintro⟨⟨k,m⟩,hk,hm⟩
     dsimp only at hk hm
     refine ya vu.toS wb7 _ _ _ rfl ?_
     simp -implicitDefEqProofs only [cdA,go_sem,gb8,simprocAttr, -Int.reduceEq,List.cons.injEq,cdB]
     refine⟨fun h3=>⟨by omega, ?_⟩,fun h3=> ?_⟩
     ·refine xb.veQ qch [0,0,2,0,14,31,63,63,159,511] vu qa (by kernel_rfl) (by kernel_rfl) (by kernel_rfl) ?_
      simp -implicitDefEqProofs only [cdA,go_sem,gb8,simprocAttr, -Int.reduceEq,List.cons.injEq,cdB]
      have hk':k<c.holds.length:=by omega
      have hcl':(hlC c).length=c.holds.length:=by unfold hlC;rw [List.length_map]
      have hct:List.count (c.id,(c.holds.getD k default).id,(c.holds.getD k default).n) (hlL (cs.take i)++(hlC c).take k)≤i*1000000+1000000:=
       Nat.le_trans List.count_le_length (by rw [List.length_append,List.length_take];omega)
      have hstep:(hlC c).take (k+1)=(hlC c).take k++[(c.id,(c.holds.getD k default).id,(c.holds.getD k default).n)]:=by
       rw [take_succ (by rw [hcl'];exact hk')]
       congr 2
       unfold hlC
       rw [xe (by rw [List.length_map];exact hk'),xe hk',List.getElem_map]
      refine⟨⟨(k+1,_),hk',fun q=> ?_⟩,by dsimp only;omega,⟨by rw [i64_in _ (by omega)];dsimp only;omega,i64_in _ (by omega)⟩,rfl⟩
      dsimp only
      rw [hm,i64_in _ (by omega),xbc,hstep,←List.append_assoc]
      generalize hlL (cs.take i)++(hlC c).take k=A at*
      generalize (c.id,(c.holds.getD k default).id,(c.holds.getD k default).n)=t at*
      rw [List.count_append,List.count_singleton]
      split
      ·rename_i h;subst h
       rw [if_pos (by simp),Option.getD_some];omega
      ·rename_i h
       rw [hm,if_neg (by simpa using Ne.symm h)];omega
     ·have hk':k=c.holds.length:=by omega
      subst hk'
      have hcl':(hlC c).length=c.holds.length:=by unfold hlC;rw [List.length_map]
      have hl1:hlL (cs.take (i+1))=hlL (cs.take i)++hlC c:=by rw [htk];simp [hlL]
      refine⟨⟨(i+1,m,ids'),hi',hnd',fun q=> ?_,hid2⟩,by dsimp only;omega,⟨by dsimp only;rw [hl1,List.length_append,hcl'];omega,i64_in _ (by omega)⟩,rfl,rfl⟩
      dsimp only
      rw [hm,hl1,←hcl',List.take_length]
  ·have hi':i=cs.length:=by omega
   subst hi'
   rw [List.take_length]at hnd hm hids hlen⊢
   have hA:uaN l∧cs.length≤32∧(cs.map Ch.id).Nodup:=⟨hok,by omega,hnd⟩
   have hl256:=hok.1
   have hpl:∀j,(wQ (l.take j)).length≤256:=fun j=>Nat.le_trans (List.length_filter_le _ _) (by rw [List.length_take];omega)
   refine SWp.loop (ι:={j:Nat // j≤l.length∧∀p∈wQ (l.take j),(p.chan,p.id,p.n)∈hlL cs}) (fun j=>⟨[(6, .mp 0),(8, .int .i64 ((hlL cs).length - (wQ (l.take j.1)).length:Int)),(61, .sl (pys l)),(62, .int .i64 l.length),(63, .int .i64 j.1)],[(1, .map [.int .u64] (kvN .u64 .i64 ids)),(0, .map [.int .u64, .int .u64, .int .u64] (kv3 m))],2⟩) (fun j=>l.length - j.1) ⟨0,by simp [wQ]⟩ ?_ ?_
   ·simp [go_sem,wQ]
   ·rintro⟨j,hj,hin⟩
    have hpj:=hpl j
    refine ya vu.toS wb7 _ _ _ rfl ?_
    simp -implicitDefEqProofs only [cdA,go_sem,gb8,simprocAttr, -Int.reduceEq,List.cons.injEq,cdB]
    refine⟨fun h1=>⟨by omega,fun h2=> ?_,fun h2=> ?_⟩,fun h1=> ?_⟩
    ·have hj':j<l.length:=by omega
     have hst:wQ (l.take (j+1))=wQ (l.take j)++[l.getD j default]:=by
      unfold wQ
      rw [take_succ hj',List.filter_append]
      simp only [List.filter_cons,decide_eq_true h2,if_true,List.filter_nil]
     rw [hm]
     refine⟨fun h3=> ?_,fun h3=> ?_⟩
     ·rw [kac,if_pos hA]
      refine⟨(decide_eq_false fun h4=> ?_).symm,rfl⟩
      have h5:=h4.1 (l.getD j default) (List.mem_filter.2 ⟨va.2 ⟨j,hj',rfl⟩,decide_eq_true h2⟩)
      have:=List.count_pos_iff.2 h5
      omega
     ·refine⟨⟨j+1,hj',fun p hp=> ?_⟩,by dsimp only;omega, ?_,i64_in _ (by omega)⟩
      ·rw [hst]at hp
       rcases List.mem_append.1 hp with hp|hp
       ·exact hin p hp
       ·rw [List.mem_singleton]at hp
        rw [hp]
        exact List.count_pos_iff.1 (by omega)
      ·rw [i64_in _ (by omega)]
       dsimp only
       rw [hst,List.length_append,List.length_singleton];omega
    ·have hj':j<l.length:=by omega
     have hst:wQ (l.take (j+1))=wQ (l.take j):=by
      unfold wQ
      rw [take_succ hj',List.filter_append]
      simp only [List.filter_cons,decide_eq_false h2,List.filter_nil,List.append_nil,Bool.false_eq_true,if_false]
     exact⟨⟨j+1,hj',fun p hp=>hin p (by rwa [hst]at hp)⟩,by dsimp only;omega,by dsimp only;rw [hst],i64_in _ (by omega)⟩
    ·have hj':j=l.length:=by omega
     subst hj'
     rw [List.take_length]at hin hpj⊢
     rw [kac,if_pos hA]
     refine⟨?_,rfl⟩
     rw [decide_eq_decide]
     exact⟨fun h=>⟨hin,by omega⟩,fun h=>by omega⟩
@[go_sem] def jb9 (l:List Py) (cs:List Ch):Prop:=(∀c∈cs,c.holds.length≤1000000)
def wV:List D→Option (Prop×D×Fr)
 |[.c (.sl z133), .c (.sl z134)]=>some (z133=pys (vb z133)∧z134=chs (yb z134)∧jb9 (vb z133) (yb z134),xbh (vb z133) (yb z134),[])
 |_=>none
attribute [go_sem] wV
theorem qaU:ga 162 wV:=by
 intro rs p r fr h hp
 unfold wV at h
 split at h<;>cases h
 obtain⟨hc0,hc1,hp⟩:=hp
 rename_i z133 z134
 have:=wbL (vb z133) (yb z134) hp
 rw [←hc0,←hc1]at this
 exact this
end Dm
namespace Dm
open Go Go.Proofs Go.IntWalk
structure Iv where
 hash:Nat
 n:Nat
 till:Nat
 state:Int
deriving DecidableEq,Inhabited
@[go_sem] def Iv.enc (e:Iv):List C:=[.int .u64 (e.hash:Int), .int .u64 (e.n:Int), .int .u64 (e.till:Int), .int .i64 e.state]
def Iv.dec:List C→Iv
 |[.int .u64 z92, .int .u64 z93, .int .u64 z94, .int .i64 z95]=>(⟨z92.toNat,z93.toNat,z94.toNat,z95⟩:Iv)
 |_=>default
def ivs (l:List Iv):List (List C):=l.map Iv.enc
def qc (l:List (List C)):List Iv:=l.map Iv.dec
@[simp,go_sem] theorem uat (l:List Iv):(ivs l).length=l.length:=by simp [ivs]
@[go_sem] theorem uex (l:List Iv) (i:Nat):(ivs l).getD i [.int .u64 0, .int .u64 0, .int .u64 0, .int .i64 0]=(l.getD i default).enc:=by
 simp only [ivs,List.getD_eq_getElem?_getD,List.getElem?_map]
 cases l[i]? <;>rfl
@[go_sem] theorem ydN (l:List Iv):bf 4 (ivs l)=True:=by
 simp [bf,ivs,Iv.enc]
theorem Iv.jc (e:Iv):Iv.dec e.enc=e:=by
 simp [Iv.enc,Iv.dec]
@[go_sem] theorem jbd (l:List Iv):qc (ivs l)=l:=by
 simp only [qc,ivs,List.map_map]
 exact List.map_id'' (fun e=>Iv.jc e) l
@[go_sem] theorem wex (a b:List Iv):ivs a++ivs b=ivs (a++b):=by simp [ivs]
@[go_sem] theorem gdM (l:List Iv) (k:Nat):(ivs l).drop k=ivs (l.drop k):=by simp [ivs]
@[go_sem] theorem zdN (l:List Iv) (k:Nat):(ivs l).take k=ivs (l.take k):=by simp [ivs]
@[go_sem] theorem gex (z96:Int) (z97:Int) (z98:Int) (z99:Int) (hz96:0≤z96) (hz97:0≤z97) (hz98:0≤z98):[[C.int .u64 z96,C.int .u64 z97,C.int .u64 z98,C.int .i64 z99]]=ivs [⟨z96.toNat,z97.toNat,z98.toNat,z99⟩]:=by simp [ivs,Iv.enc,Int.toNat_of_nonneg hz96,Int.toNat_of_nonneg hz97,Int.toNat_of_nonneg hz98]
@[go_sem] theorem bex (l:List Iv) (i:Nat) (z96:Int) (z97:Int) (z98:Int) (z99:Int) (hz96:0≤z96) (hz97:0≤z97) (hz98:0≤z98):(ivs l).set i [C.int .u64 z96,C.int .u64 z97,C.int .u64 z98,C.int .i64 z99]=ivs (l.set i ⟨z96.toNat,z97.toNat,z98.toNat,z99⟩):=by simp [ivs,List.map_set,Iv.enc,Int.toNat_of_nonneg hz96,Int.toNat_of_nonneg hz97,Int.toNat_of_nonneg hz98]
@[go_sem] theorem udM (l:List Iv) (z96:Int) (z97:Int) (z98:Int) (z99:Int) (hz96:0≤z96) (hz97:0≤z97) (hz98:0≤z98):[C.int .u64 z96,C.int .u64 z97,C.int .u64 z98,C.int .i64 z99]::ivs l=ivs (⟨z96.toNat,z97.toNat,z98.toNat,z99⟩::l):=by simp [ivs,Iv.enc,Int.toNat_of_nonneg hz96,Int.toNat_of_nonneg hz97,Int.toNat_of_nonneg hz98]
@[go_sem] theorem bdM (l:List Iv):bZ (ivs l)=True:=eq_true fun x hx c hc=>by
 obtain⟨e,_,rfl⟩:=List.mem_map.1 hx
 simp only [Iv.enc,List.mem_cons,List.not_mem_nil,or_false]at hc
 rcases hc with rfl|rfl|rfl|rfl<;>rfl
@[go_sem] theorem Iv.eta {e:Iv}:(⟨e.hash,e.n,e.till,e.state⟩:Iv)=e:=rfl
@[go_sem] theorem Iv.eqD {a b:Iv}:eqD Tryz.prog 189 [D.c (.int .u64 (a.hash:Int)),D.c (.int .u64 (a.n:Int)),D.c (.int .u64 (a.till:Int)),D.c (.int .i64 a.state)] [D.c (.int .u64 (b.hash:Int)),D.c (.int .u64 (b.n:Int)),D.c (.int .u64 (b.till:Int)),D.c (.int .i64 b.state)]=some (decide (a=b)):=by
 cases a;cases b
 simp only [Dm.eqD,yb2,vm,eqC,List.getElem?_cons_zero,List.getElem?_cons_succ,if_true,Option.some.injEq,Iv.mk.injEq]
 rw [Bool.eq_iff_iff]
 simp [Int.ofNat_inj]
def uaC (x:Iv):Prop:=(x.n≠0∧x.n≤MM)∧1≤x.state∧x.state≤3
instance (x:Iv):Decidable (uaC x):=by unfold uaC;infer_instance
def ya2 (l:List Iv):Prop:=l.length≤256∧(∀x∈l,uaC x)∧Srt.Chn Iv.hash ltN l
instance (l:List Iv):Decidable (Srt.Chn Iv.hash ltN l):=by unfold Srt.Chn;infer_instance
instance (l:List Iv):Decidable (ya2 l):=by unfold ya2;infer_instance
def wao (l:List Iv):Int:=if ya2 l then 0 else 1
@[go_sem] def zbf (x:Iv) (id:Nat):D:= .int .i64 (vai x.hash id)
@[go_sem] abbrev vdQ:FuncId:=220
@[go_sem] def gb5:Tab:=[(225,gP)]
theorem wa0:za Tryz.prog gb5:=(za.cons wu za.nil)
theorem ubH (x:Iv) (id:Nat):ja Tryz.prog 220 [.agg [.c (.int .u64 (x.hash:Int)), .c (.int .u64 (x.n:Int)), .c (.int .u64 (x.till:Int)), .c (.int .i64 x.state)], .c (.int .u64 (id:Int))] (zbf x id):=by
 refine .of (kej wa0 (Nat.le_of_ble_eq_true rfl) ?_)
 simp -implicitDefEqProofs only [cdA,go_sem,Go.Proofs.Tryz.f220,simprocAttr, -Int.reduceEq,List.cons.injEq,cdB]
def zV:List D→Option (Prop×D×Fr)
 |[.agg [.c (.int .u64 z101), .c (.int .u64 z102), .c (.int .u64 z103), .c (.int .i64 z104)], .c (.int .u64 z105)]=>some (z101=(z101.toNat:Int)∧z102=(z102.toNat:Int)∧z103=(z103.toNat:Int)∧z105=(z105.toNat:Int),zbf (⟨z101.toNat,z102.toNat,z103.toNat,z104⟩:Iv) z105.toNat,[])
 |_=>none
attribute [go_sem] zV
theorem gaT:ga 220 zV:=by
 intro rs p r fr h hp
 unfold zV at h
 split at h<;>cases h
 obtain⟨hc0,hc1,hc2,hc3⟩:=hp
 rename_i z101 z102 z103 z104 z105
 have:=ubH ⟨z101.toNat,z102.toNat,z103.toNat,z104⟩ z105.toNat
 rw [←hc0,←hc1,←hc2,←hc3]at this
 exact this
@[go_sem] def bbG (n:Nat):D:= .bool (decide (n≠0∧n≤MM))
@[go_sem] abbrev xeL:FuncId:=221
@[go_sem] def ucz:Tab:=[(122,yf)]
theorem vbo:za Tryz.prog ucz:=(za.cons we za.nil)
theorem wb5 (n:Nat):ja Tryz.prog 221 [.c (.int .u64 (n:Int))] (bbG n):=by
 refine .of (vej vbo (Nat.le_of_ble_eq_true rfl) ?_)
 simp -implicitDefEqProofs only [cdA,go_sem,Go.Proofs.Tryz.f221,simprocAttr, -Int.reduceEq,List.cons.injEq,cdB]
 have hm:bO [n]=0↔n≤MM:=gG
 refine⟨fun h=> ?_,fun h=> ?_⟩
 ·rw [decide_eq_decide,hm];exact⟨fun h2=>⟨by omega,h2⟩,fun h2=>h2.2⟩
 ·exact(decide_eq_false fun h2=>h2.1 (by omega)).symm
def vaf:List D→Option (Prop×D×Fr)
 |[.c (.int .u64 z106)]=>some (z106=(z106.toNat:Int),bbG z106.toNat,[])
 |_=>none
attribute [go_sem] vaf
theorem ja9:ga 221 vaf:=by
 intro rs p r fr h hp
 unfold vaf at h
 split at h<;>cases h
 have hc0:=hp
 rename_i z106
 have:=wb5 z106.toNat
 rw [←hc0]at this
 exact this
@[go_sem] def gbe (l:List Iv):D:= .int .i64 (wao l)
@[go_sem] abbrev kdQ:FuncId:=160
@[go_sem] def ub5:Tab:=[(221,vaf),(220,zV)]
theorem kQ:za Tryz.prog ub5:=(za.cons ja9 (za.cons gaT za.nil))
theorem zbH (l:List Iv):ja Tryz.prog 160 [.sl (ivs l)] (gbe l):=by
 refine .of (uee kQ (Nat.le_of_ble_eq_true rfl) ?_)
 simp -implicitDefEqProofs only [cdA,go_sem,Go.Proofs.Tryz.f160,simprocAttr, -Int.reduceEq,List.cons.injEq,cdB]
 have hbad:¬ya2 l→1=wao l:=fun h=>by rw [wao,if_neg h]
 refine fun _=>⟨fun h=>hbad fun ho=> ?_,fun h _=> ?_⟩
 ·have:=ho.1;omega
 refine SWp.loop (ι:={i:Nat // i≤l.length∧(∀j,j<i→uaC (l.getD j default)∧(0<j→(l.getD (j - 1) default).hash<(l.getD j default).hash))}) (fun i=>⟨[(0, .sl (ivs l)),(8, .sl (ivs l)),(9, .int .i64 l.length),(10, .int .i64 i.1)],[],0⟩) (fun i=>l.length - i.1) ⟨0,by simp⟩ ?_ ?_
 ·simp [go_sem]
 ·rintro⟨i,hi,hall⟩
  refine ya kQ.toS ydi _ _ _ rfl ?_
  simp -implicitDefEqProofs only [cdA,go_sem,simprocAttr, -Int.reduceEq,List.cons.injEq,cdB]
  refine⟨fun h1=>⟨by omega, ?_⟩,fun h1=> ?_⟩
  ·refine xb.run ycN kQ qa (by kernel_rfl) (by kernel_rfl) ?_
   simp -implicitDefEqProofs only [cdA,go_sem,simprocAttr, -Int.reduceEq,List.cons.injEq,cdB]
   have hi':i<l.length:=by omega
   have hnext:(0<i→(l.getD (i - 1) default).hash<(l.getD i default).hash)→
    (¬(l.getD i default).n=0∧(l.getD i default).n≤MM→(¬(l.getD i default).state<1→(3<(l.getD i default).state→1=wao l)∧(¬3<(l.getD i default).state→
     ∃i_1:{i:Nat // i≤l.length∧(∀j,j<i→uaC (l.getD j default)∧(0<j→(l.getD (j - 1) default).hash<(l.getD j default).hash))},l.length - i_1.val<l.length - i∧IntKind.i64.wrap ((i:Int)+1)=i_1.val))∧((l.getD i default).state<1→1=wao l))∧
    (¬(¬(l.getD i default).n=0∧(l.getD i default).n≤MM)→1=wao l):=fun ho=>by
    have hm:ya2 l→uaC (l.getD i default):=fun h=>h.2.1 _ (va.2 ⟨i,hi',rfl⟩)
    refine⟨fun h2=>⟨fun h3=>⟨fun h4=>hbad fun h=> ?_,fun h4=>⟨⟨i+1,hi',fun j hj=> ?_⟩,by dsimp only;omega,i64_in _ (by omega)⟩⟩,fun h3=>hbad fun h=> ?_⟩,fun h2=>hbad fun h=>h2 (hm h).1⟩
    ·have:=(hm h).2.2;omega
    ·by_cases hji:j=i
     ·subst hji;exact⟨⟨h2,by omega,by omega⟩,ho⟩
     ·exact hall j (by omega)
    ·have:=(hm h).2.1;omega
   refine⟨fun h2=> ?_,fun h2=>hnext fun h=>absurd h (by omega)⟩
   rw [i64_in _ (by omega),show((i:Int) - 1).toNat=i - 1 by omega]
   have hc:∀a b:Nat,0≤vai a b↔¬a<b:=fun a b=>by
    have:=yw (x:=a) (y:=b);omega
   rw [hc]
   exact⟨by omega,fun h3=>hnext fun _=>by omega,fun h3=>hbad fun h=>h3 (h.2.2 i hi' (by omega))⟩
  ·have hi':i=l.length:=by omega
   subst hi'
   rw [wao,if_pos]
   exact⟨by omega,fun x hx=>by obtain⟨j,hj,rfl⟩:=va.1 hx;exact(hall j hj).1,fun j hj h0=>(hall j hj).2 h0⟩
def vJ:List D→Option (Prop×D×Fr)
 |[.c (.sl z107)]=>some (z107=ivs (qc z107),gbe (qc z107),[])
 |_=>none
attribute [go_sem] vJ
theorem zab:ga 160 vJ:=by
 intro rs p r fr h hp
 unfold vJ at h
 split at h<;>cases h
 have hc0:=hp
 rename_i z107
 have:=zbH (qc z107)
 rw [←hc0]at this
 exact this
end Dm
namespace Dm
open Go Go.Proofs Go.IntWalk
structure Ev where
 seq:Nat
 kind:Int
 a:Nat
 n:Nat
deriving DecidableEq,Inhabited
@[go_sem] def Ev.enc (e:Ev):List C:=[.int .u64 (e.seq:Int), .int .i64 e.kind, .int .u64 (e.a:Int), .int .u64 (e.n:Int)]
def Ev.dec:List C→Ev
 |[.int .u64 z136, .int .i64 z137, .int .u64 z138, .int .u64 z139]=>(⟨z136.toNat,z137,z138.toNat,z139.toNat⟩:Ev)
 |_=>default
def evs (l:List Ev):List (List C):=l.map Ev.enc
def jb (l:List (List C)):List Ev:=l.map Ev.dec
@[simp,go_sem] theorem zcT (l:List Ev):(evs l).length=l.length:=by simp [evs]
@[go_sem] theorem yeu (l:List Ev) (i:Nat):(evs l).getD i [.int .u64 0, .int .i64 0, .int .u64 0, .int .u64 0]=(l.getD i default).enc:=by
 simp only [evs,List.getD_eq_getElem?_getD,List.getElem?_map]
 cases l[i]? <;>rfl
@[go_sem] theorem kdJ (l:List Ev):bf 4 (evs l)=True:=by
 simp [bf,evs,Ev.enc]
theorem Ev.jc (e:Ev):Ev.dec e.enc=e:=by
 simp [Ev.enc,Ev.dec]
@[go_sem] theorem kL (l:List Ev):jb (evs l)=l:=by
 simp only [jb,evs,List.map_map]
 exact List.map_id'' (fun e=>Ev.jc e) l
@[go_sem] theorem zeu (a b:List Ev):evs a++evs b=evs (a++b):=by simp [evs]
@[go_sem] theorem xdJ (l:List Ev) (k:Nat):(evs l).drop k=evs (l.drop k):=by simp [evs]
@[go_sem] theorem jdJ (l:List Ev) (k:Nat):(evs l).take k=evs (l.take k):=by simp [evs]
@[go_sem] theorem xeu (z140:Int) (z141:Int) (z142:Int) (z143:Int) (hz140:0≤z140) (hz142:0≤z142) (hz143:0≤z143):[[C.int .u64 z140,C.int .i64 z141,C.int .u64 z142,C.int .u64 z143]]=evs [⟨z140.toNat,z141,z142.toNat,z143.toNat⟩]:=by simp [evs,Ev.enc,Int.toNat_of_nonneg hz140,Int.toNat_of_nonneg hz142,Int.toNat_of_nonneg hz143]
@[go_sem] theorem qeu (l:List Ev) (i:Nat) (z140:Int) (z141:Int) (z142:Int) (z143:Int) (hz140:0≤z140) (hz142:0≤z142) (hz143:0≤z143):(evs l).set i [C.int .u64 z140,C.int .i64 z141,C.int .u64 z142,C.int .u64 z143]=evs (l.set i ⟨z140.toNat,z141,z142.toNat,z143.toNat⟩):=by simp [evs,List.map_set,Ev.enc,Int.toNat_of_nonneg hz140,Int.toNat_of_nonneg hz142,Int.toNat_of_nonneg hz143]
@[go_sem] theorem ydJ (l:List Ev) (z140:Int) (z141:Int) (z142:Int) (z143:Int) (hz140:0≤z140) (hz142:0≤z142) (hz143:0≤z143):[C.int .u64 z140,C.int .i64 z141,C.int .u64 z142,C.int .u64 z143]::evs l=evs (⟨z140.toNat,z141,z142.toNat,z143.toNat⟩::l):=by simp [evs,Ev.enc,Int.toNat_of_nonneg hz140,Int.toNat_of_nonneg hz142,Int.toNat_of_nonneg hz143]
@[go_sem] theorem qdJ (l:List Ev):bZ (evs l)=True:=eq_true fun x hx c hc=>by
 obtain⟨e,_,rfl⟩:=List.mem_map.1 hx
 simp only [Ev.enc,List.mem_cons,List.not_mem_nil,or_false]at hc
 rcases hc with rfl|rfl|rfl|rfl<;>rfl
@[go_sem] theorem Ev.eta {e:Ev}:(⟨e.seq,e.kind,e.a,e.n⟩:Ev)=e:=rfl
@[go_sem] theorem Ev.eqD {a b:Ev}:eqD Tryz.prog 195 [D.c (.int .u64 (a.seq:Int)),D.c (.int .i64 a.kind),D.c (.int .u64 (a.a:Int)),D.c (.int .u64 (a.n:Int))] [D.c (.int .u64 (b.seq:Int)),D.c (.int .i64 b.kind),D.c (.int .u64 (b.a:Int)),D.c (.int .u64 (b.n:Int))]=some (decide (a=b)):=by
 cases a;cases b
 simp only [Dm.eqD,qb2,vm,eqC,List.getElem?_cons_zero,List.getElem?_cons_succ,if_true,Option.some.injEq,Ev.mk.injEq]
 rw [Bool.eq_iff_iff]
 simp [Int.ofNat_inj]
structure Fd where
 next:Nat
 l:List Ev
deriving DecidableEq,Inhabited
@[go_sem] def Fd.enc (e:Fd):List C:=[.int .u64 (e.next:Int), .sl (evs e.l)]
def Fd.dec:List C→Fd
 |[.int .u64 z145, .sl z146]=>(⟨z145.toNat,(jb z146)⟩:Fd)
 |_=>default
def fds (l:List Fd):List (List C):=l.map Fd.enc
def ve5 (l:List (List C)):List Fd:=l.map Fd.dec
@[simp,go_sem] theorem ycT (l:List Fd):(fds l).length=l.length:=by simp [fds]
@[go_sem] theorem wev (l:List Fd) (i:Nat):(fds l).getD i [.int .u64 0, .sl []]=(l.getD i default).enc:=by
 simp only [fds,List.getD_eq_getElem?_getD,List.getElem?_map]
 cases l[i]? <;>rfl
@[go_sem] theorem kdK (l:List Fd):bf 2 (fds l)=True:=by
 simp [bf,fds,Fd.enc]
theorem Fd.jc (e:Fd):Fd.dec e.enc=e:=by
 simp [Fd.enc,Fd.dec,kL]
@[go_sem] theorem wdH (l:List Fd):ve5 (fds l)=l:=by
 simp only [ve5,fds,List.map_map]
 exact List.map_id'' (fun e=>Fd.jc e) l
@[go_sem] theorem vev (a b:List Fd):fds a++fds b=fds (a++b):=by simp [fds]
@[go_sem] theorem qdK (l:List Fd) (k:Nat):(fds l).drop k=fds (l.drop k):=by simp [fds]
@[go_sem] theorem jdK (l:List Fd) (k:Nat):(fds l).take k=fds (l.take k):=by simp [fds]
@[go_sem] theorem uev (z147:Int) (z148:List Ev) (hz147:0≤z147):[[C.int .u64 z147,C.sl (evs z148)]]=fds [⟨z147.toNat,z148⟩]:=by simp [fds,Fd.enc,Int.toNat_of_nonneg hz147]
@[go_sem] theorem gev (l:List Fd) (i:Nat) (z147:Int) (z148:List Ev) (hz147:0≤z147):(fds l).set i [C.int .u64 z147,C.sl (evs z148)]=fds (l.set i ⟨z147.toNat,z148⟩):=by simp [fds,List.map_set,Fd.enc,Int.toNat_of_nonneg hz147]
@[go_sem] theorem xdK (l:List Fd) (z147:Int) (z148:List Ev) (hz147:0≤z147):[C.int .u64 z147,C.sl (evs z148)]::fds l=fds (⟨z147.toNat,z148⟩::l):=by simp [fds,Fd.enc,Int.toNat_of_nonneg hz147]
@[go_sem] theorem Fd.eta {e:Fd}:(⟨e.next,e.l⟩:Fd)=e:=rfl
def gaB (k:Int):Bool:=decide (0≤k∧k<16)
@[go_sem] def gbE (k:Int):D:= .bool (gaB k)
@[go_sem] abbrev jeK:FuncId:=223
@[go_sem] def bcu:Tab:=[]
theorem zbo:za Tryz.prog bcu:=za.nil
theorem ub3 (k:Int):ja Tryz.prog 223 [.c (.int .i64 k)] (gbE k):=by
 refine .of (uej zbo (Nat.le_of_ble_eq_true rfl) ?_)
 simp -implicitDefEqProofs only [cdA,go_sem,Go.Proofs.Tryz.f223,simprocAttr, -Int.reduceEq,List.cons.injEq,cdB]
 have e:gaB k=decide (0≤k∧k<16):=rfl
 rw [e]
 exact⟨fun h=>by rw [decide_eq_decide];exact⟨fun h2=>⟨h,h2⟩,fun h2=>h2.2⟩,fun h=>(decide_eq_false fun h2=>h h2.1).symm⟩
def gae:List D→Option (Prop×D×Fr)
 |[.c (.int .i64 z149)]=>some (True,gbE z149,[])
 |_=>none
attribute [go_sem] gae
theorem va8:∀rs p r fr,gae rs=some (p,r,fr)→p→gaH Tryz.prog 223 rs r fr:=by
 intro rs p r fr h hp
 unfold gae at h
 split at h<;>cases h
 rename_i z149
 exact ub3 z149
@[go_sem] def wck:D:= .agg [.int .u64 1, .sl (evs [])]
@[go_sem] abbrev qfc:FuncId:=102
@[go_sem] def qde:Tab:=[]
theorem ybF:za Tryz.prog qde:=za.nil
theorem wcx:ja Tryz.prog 102 [] (wck):=by
 refine .of (bd9 ybF (Nat.le_of_ble_eq_true rfl) ?_)
 simp -implicitDefEqProofs only [cdA,go_sem,Go.Proofs.Tryz.f102,simprocAttr, -Int.reduceEq,List.cons.injEq,cdB]
 rfl
def zaE:List D→Option (Prop×D×Fr)
 |[]=>some (True,wck,[])
 |_=>none
attribute [go_sem] zaE
theorem wbx:∀rs p r fr,zaE rs=some (p,r,fr)→p→gaH Tryz.prog 102 rs r fr:=by
 intro rs p r fr h hp
 unfold zaE at h
 split at h<;>cases h
 exact wcx
theorem ubj {n k:Nat} (h:k<n):(List.finRange n).reverse.take k++[⟨n - 1 - k,by omega⟩]=(List.finRange n).reverse.take (k+1):=by
 have hl:k<(List.finRange n).reverse.length:=by simpa using h
 rw [List.take_add_one,List.getElem?_eq_getElem hl]
 simp
theorem ubB (l:List Ev) (hl:l.length≤1000000):zaI Tryz.prog 250 [.rp [.sl (evs l)]] (m:=l.length) (fun x=>[.int .i64 x.1, .agg ((l.getD x.1 default).enc.map .c)]) (List.finRange l.length).reverse:=by
 refine zaI.of (n:=19) (fn:=Tryz.f250) (by kernel_rfl) rfl rfl rfl (Nat.le_of_ble_eq_true rfl) rfl ?_
 intro y I J Jx hY
 refine SY.seq (SY.region .nil hY rfl ?_)
 simp -implicitDefEqProofs only [cdA,go_sem,gaz,bbb,St.kbA,vaC,List.contains_cons,List.contains_nil,Nat.reduceBEq,Bool.or_self,simprocAttr, -Int.reduceEq,List.cons.injEq,cdB]
 refine fun _=>SY.block (SY.loop l.length (fun k=>⟨[(0, .fn (.yield y) [] []),(1, .rp [.sl (evs l)]),(3, .int .i64 ((l.length:Int) - 1 - k))],[],0⟩) (fun k=>((List.finRange l.length).reverse.take k,true)) 0 ?_ (Nat.zero_le _) ?_)
 ·intro a w h
  rw [i64_in _ (by omega)]at h
  have h:=h.sub (s':=⟨[(0, .fn (.yield y) [] []),(1, .rp [.sl (evs l)]),(3, .int .i64 ((l.length:Int) - 1 - (0:Nat)))],[],0⟩) ⟨rfl,rfl,by simp [go_sem]⟩
  simpa using h
 ·intro k hk
  refine SY.seq (SY.seq (SY.region .nil hY rfl ?_))
  simp -implicitDefEqProofs only [cdA,go_sem,gaz,bbb,St.kbA,vaC,List.contains_cons,List.contains_nil,Nat.reduceBEq,Bool.or_self,simprocAttr, -Int.reduceEq,List.cons.injEq,cdB]
  refine SY.cond rfl (fun hc=>SY.skip ?_) (fun hc=>SY.exit ?_)
  ·have hk':k<l.length:=by simp at hc;omega
   refine SY.seq (SY.block (SY.seq (SY.region .nil hY rfl ?_)))
   simp -implicitDefEqProofs only [cdA,go_sem,gaz,bbb,St.kbA,vaC,List.contains_cons,List.contains_nil,Nat.reduceBEq,Bool.or_self,simprocAttr, -Int.reduceEq,List.cons.injEq,cdB]
   refine⟨by omega,by simp;omega,⟨l.length - 1 - k,by omega⟩, ?_, ?_, ?_⟩
   ·have e1:((l.length:Int) - 1 - k).toNat=l.length - 1 - k:=by omega
    have e2:((l.length:Int) - 1 - k)=((l.length - 1 - k:Nat):Int):=by omega
    rw [e1,e2];exact⟨rfl,rfl⟩
   ·refine SY.cond (b:=false) rfl (fun h=>by cases h) (fun _=>SY.skip (SY.region .nil hY rfl ?_))
    simp -implicitDefEqProofs only [cdA,go_sem,gaz,bbb,simprocAttr, -Int.reduceEq,List.cons.injEq,cdB]
    rw [i64_in _ (by omega)]
    exact⟨hk',by rw [ubj hk'],by omega⟩
   ·refine SY.cond (b:=true) rfl (fun _=>SY.ret ?_) (fun h=>by cases h)
    refine⟨.inr rfl, .inr ⟨rfl, ?_⟩⟩
    rw [ubj hk']
    exact List.take_prefix _ _
  ·have hk':k=l.length:=by simp at hc;omega
   have:List.take l.length (List.finRange l.length).reverse=(List.finRange l.length).reverse:=List.take_of_length_le (by simp)
   simp [hk',this]
@[go_sem] def ybE (l:List Ev):D:= .fn (.func 250) [] [.rp [.sl (evs l)]]
@[go_sem] abbrev geJ:FuncId:=222
@[go_sem] def qcu:Tab:=[]
theorem xbn:za Tryz.prog qcu:=za.nil
theorem ub2 (l:List Ev):ja Tryz.prog 222 [.sl (evs l)] (ybE l):=by
 refine .of (wej xbn (Nat.le_of_ble_eq_true rfl) ?_)
 simp -implicitDefEqProofs only [cdA,go_sem,Go.Proofs.Tryz.f222,simprocAttr, -Int.reduceEq,List.cons.injEq,cdB]
 exact⟨_,rfl,rfl⟩
def qae:List D→Option (Prop×D×Fr)
 |[.c (.sl z150)]=>some (z150=evs (jb z150),ybE (jb z150),[])
 |_=>none
attribute [go_sem] qae
theorem za8:ga 222 qae:=by
 intro rs p r fr h hp
 unfold qae at h
 split at h<;>cases h
 have hc0:=hp
 rename_i z150
 have:=ub2 (jb z150)
 rw [←hc0]at this
 exact this
def yc2 (n:Int):List Ev→Bool
 |[]=>true
 |e::r=>decide ((e.seq:Int)=n - (r.length+1))&&gaB e.kind&&yc2 n r
def ub8 (f:Fd):Prop:=1≤f.next∧f.next≤MM∧f.l.length=min (f.next - 1) 64∧yc2 f.next f.l=true
instance (f:Fd):Decidable (ub8 f):=by unfold ub8;infer_instance
def qbA (f:Fd):Int:=if ub8 f then 0 else 1
theorem wS (n:Int):∀(l:List Ev),yc2 n l=true↔∀i:Nat,i<l.length→((l.getD i default).seq:Int)=n - (l.length - i:Int)∧gaB (l.getD i default).kind=true
 |[]=>by simp [yc2]
 |e::r=>by
  rw [yc2,Bool.and_eq_true,Bool.and_eq_true,wS n r,decide_eq_true_eq]
  constructor
  ·rintro⟨⟨h1,h2⟩,h3⟩ i hi
   cases i with
   |zero=>simp [h1,h2]
   |succ i=>
    have:=h3 i (by simpa using hi)
    simp only [List.getD_cons_succ,List.length_cons]
    refine⟨?_,this.2⟩
    rw [this.1]
    omega
  ·intro h
   refine⟨?_,fun i hi=> ?_⟩
   ·have:=h 0 (by simp)
    simp at this
    exact⟨by rw [this.1],this.2⟩
   ·have:=h (i+1) (by simpa using hi)
    simp only [List.getD_cons_succ,List.length_cons]at this
    refine⟨?_,this.2⟩
    rw [this.1]
    omega
theorem qaJ {f:Fd} {pre:List (Fin f.l.length)} {x:Fin f.l.length} (h:pre++[x]<+:(List.finRange f.l.length).reverse)
 (hb:¬(((f.l.getD x.1 default).seq:Int)=f.next - (pre.length+1:Int)∧gaB (f.l.getD x.1 default).kind=true)):qbA f=1:=by
 unfold qbA
 rw [if_neg]
 rintro⟨_,_,_,h4⟩
 obtain⟨t,ht⟩:=h
 have h5:(List.finRange f.l.length).reverse[pre.length]? =some x:=by rw [←ht];simp
 have h6:=(wS f.next f.l).1 h4 x.1 x.2
 have hlt:pre.length<f.l.length:=by
  have:=(List.getElem?_eq_some_iff.1 h5).1
  simpa using this
 have h7:x.1=f.l.length - 1 - pre.length:=by
  rw [List.getElem?_eq_getElem (by simpa using hlt)]at h5
  simp at h5
  rw [←h5]
 refine hb ⟨?_,h6.2⟩
 rw [h6.1,h7]
 omega
attribute [go_sem] xa7 asg rfp
@[go_sem] def gbd (f:Fd):D:= .int .i64 (qbA f)
@[go_sem] abbrev zdQ:FuncId:=161
@[go_sem] def gb2:Tab:=[(223,gae),(222,qae)]
theorem wm:za Tryz.prog gb2:=(za.cons va8 (za.cons za8 za.nil))
theorem xbE (f:Fd) (h:f.next≤18446744073709551615):ja Tryz.prog 161 [.agg [.c (.int .u64 (f.next:Int)), .sl (evs f.l)]] (gbd f):=by
 refine .of (x9 (n:=44) (fn:=Tryz.f161) (by kernel_rfl) rfl rfl rfl (Nat.le_of_ble_eq_true rfl) (rs:=[.cell 2 50]) rfl ?_)
 refine SWm.seq (SWm.awp wm.toS ja1 rfl ?_)
 simp -implicitDefEqProofs only [cdA,go_sem,simprocAttr, -Int.reduceEq,List.cons.injEq,cdB]
 refine SWm.seq (SWm.awp wm.toS ja1 rfl ?_)
 simp -implicitDefEqProofs only [cdA,go_sem,simprocAttr, -Int.reduceEq,List.cons.injEq,cdB]
 have hbad:¬ub8 f→1=qbA f:=fun h=>by rw [qbA,if_neg h]
 refine⟨fun h1=>⟨fun h2 h3=>⟨fun h4=> ?_,fun h4=>hbad fun ho=>h4 ?_⟩,fun h2=>hbad fun ho=> ?_⟩,fun h1=>hbad fun ho=> ?_⟩
 rotate_left 1
 ·have:=ho.2.2.1
  rw [u64_in f.l.length (by omega),u64_in ((f.next:Int) - 1) (by omega)];omega
 ·have:=ho.2.1;unfold MM at this;omega
 ·have:=ho.1;omega
 ·refine SWm.seq (SWm.awp wm.toS ja1 rfl ?_)
  simp -implicitDefEqProofs only [cdA,go_sem,simprocAttr, -Int.reduceEq,List.cons.injEq,cdB]
  refine SWm.seq (SWm.seq (SWm.awp wm.toS ja1 rfl ?_))
  simp -implicitDefEqProofs only [cdA,go_sem,simprocAttr, -Int.reduceEq,List.cons.injEq,cdB]
  have hle:(f.l.length:Int)≤64∧(f.l.length:Int)≤f.next - 1:=by
   rw [u64_in f.l.length (by omega),u64_in ((f.next:Int) - 1) (by omega)]at h4
   omega
  have hlen:f.l.length≤1000000:=by omega
  refine SWm.block (SWm.rangeFunc wm.toS ja1 (caps:=[.rp [.sl (evs f.l)]]) rfl (by simp [D.qap]) (ubB f.l hlen)
   (fun pre=>[(2, .box [.int .u64 ((f.next:Int) - pre.length)]),(1, .box [.int .i64 0]),(0, .box [.int .u64 f.next, .sl (evs f.l)])])
   (fun pre=>∀(j:Nat) (x:Fin f.l.length),pre[j]? =some x→((f.l.getD x.1 default).seq:Int)=f.next - (j+1)∧gaB (f.l.getD x.1 default).kind=true)
   (fun x=>rfl) (by decide) (Nat.zero_le _) rfl rfl rfl rfl ?_ ?_ ?_)
  ·simp [go_sem]
  ·intro pre x hok hpre
   simp -implicitDefEqProofs only [cdA,go_sem,simprocAttr, -Int.reduceEq,List.cons.injEq,cdB]
   rw [u64_in ((f.next:Int) - _ - 1) (by omega)]
   refine⟨fun h5=>⟨fun h6=>⟨fun j y hj=> ?_,by omega⟩,fun h6 hp=> ?_⟩,fun h5 hp=> ?_⟩
   ·rw [List.getElem?_append]at hj
    split at hj
    ·exact hok j y hj
    ·rename_i hge
     have:j=pre.length:=by
      have:=(List.getElem?_eq_some_iff.1 hj).1
      simp at this
      omega
     subst this
     simp at hj
     subst hj
     exact⟨by omega,h6⟩
   ·exact(qaJ hp fun h=>by rw [h6]at h;cases h.2).symm
   ·exact(qaJ hp fun h=>h5 (by omega)).symm
  ·intro hok
   refine SWm.awp wm.toS ja1 rfl ?_
   simp -implicitDefEqProofs only [cdA,go_sem,simprocAttr, -Int.reduceEq,List.cons.injEq,cdB]
   rw [u64_in f.l.length (by omega),u64_in ((f.next:Int) - 1) (by omega)]at h4
   have hE:yc2 f.next f.l=true:=by
    rw [wS]
    intro i hi
    have h5:(List.finRange f.l.length).reverse[f.l.length - 1 - i]? =some ⟨i,hi⟩:=by
     rw [List.getElem?_eq_getElem (by simp;omega)]
     simp
     try omega
    obtain⟨h6,h7⟩:=hok _ _ h5
    refine⟨?_,h7⟩
    rw [h6]
    omega
   rw [qbA,if_pos (show ub8 f from⟨by omega,by unfold MM;omega,by omega,hE⟩)]
@[go_sem] def bb2 (f:Fd):Prop:=(f.next≤18446744073709551615)
def wU:List D→Option (Prop×D×Fr)
 |[.agg [.c (.int .u64 z152), .c (.sl z153)]]=>some (z152=(z152.toNat:Int)∧z153=evs (jb z153)∧bb2 (⟨z152.toNat,(jb z153)⟩:Fd),gbd (⟨z152.toNat,(jb z153)⟩:Fd),[])
 |_=>none
attribute [go_sem] wU
theorem vaT:ga 161 wU:=by
 intro rs p r fr h hp
 unfold wU at h
 split at h<;>cases h
 obtain⟨hc0,hc1,hp⟩:=hp
 rename_i z152 z153
 have:=xbE ⟨z152.toNat,(jb z153)⟩ hp
 rw [←hc0,←hc1]at this
 exact this
theorem gbc {f:Fd}:qbA f=0↔ub8 f:=by unfold qbA;split<;>rename_i h<;>simp only [h]<;>decide
end Dm
namespace Dm
open Go Go.Proofs Go.IntWalk
structure Wt where
 id:Nat
 w:Option Nat
deriving DecidableEq
instance:Inhabited Wt:=⟨⟨default,some 0⟩⟩
@[go_sem] def Wt.enc (e:Wt):List C:=[.int .u64 (e.id:Int), .flt .f64 e.w]
def Wt.dec:List C→Wt
 |[.int .u64 z2, .flt .f64 z3]=>(⟨z2.toNat,z3⟩:Wt)
 |_=>default
def wts (l:List Wt):List (List C):=l.map Wt.enc
def jd (l:List (List C)):List Wt:=l.map Wt.dec
@[simp,go_sem] theorem kc6 (l:List Wt):(wts l).length=l.length:=by simp [wts]
@[go_sem] theorem xeY (l:List Wt) (i:Nat):(wts l).getD i [.int .u64 0, .flt .f64 (some 0)]=(l.getD i default).enc:=by
 simp only [wts,List.getD_eq_getElem?_getD,List.getElem?_map]
 cases l[i]? <;>rfl
@[go_sem] theorem vd4 (l:List Wt):bf 2 (wts l)=True:=by
 simp [bf,wts,Wt.enc]
theorem Wt.jc (e:Wt):Wt.dec e.enc=e:=by
 simp [Wt.enc,Wt.dec]
@[go_sem] theorem wbd (l:List Wt):jd (wts l)=l:=by
 simp only [jd,wts,List.map_map]
 exact List.map_id'' (fun e=>Wt.jc e) l
@[go_sem] theorem yeY (a b:List Wt):wts a++wts b=wts (a++b):=by simp [wts]
@[go_sem] theorem qd4 (l:List Wt) (k:Nat):(wts l).drop k=wts (l.drop k):=by simp [wts]
@[go_sem] theorem kd4 (l:List Wt) (k:Nat):(wts l).take k=wts (l.take k):=by simp [wts]
@[go_sem] theorem qeY (z4:Int) (z5:Option Nat) (hz4:0≤z4):[[C.int .u64 z4,C.flt .f64 z5]]=wts [⟨z4.toNat,z5⟩]:=by simp [wts,Wt.enc,Int.toNat_of_nonneg hz4]
@[go_sem] theorem jeY (l:List Wt) (i:Nat) (z4:Int) (z5:Option Nat) (hz4:0≤z4):(wts l).set i [C.int .u64 z4,C.flt .f64 z5]=wts (l.set i ⟨z4.toNat,z5⟩):=by simp [wts,List.map_set,Wt.enc,Int.toNat_of_nonneg hz4]
@[go_sem] theorem xd4 (l:List Wt) (z4:Int) (z5:Option Nat) (hz4:0≤z4):[C.int .u64 z4,C.flt .f64 z5]::wts l=wts (⟨z4.toNat,z5⟩::l):=by simp [wts,Wt.enc,Int.toNat_of_nonneg hz4]
@[go_sem] theorem jd4 (l:List Wt):bZ (wts l)=True:=eq_true fun x hx c hc=>by
 obtain⟨e,_,rfl⟩:=List.mem_map.1 hx
 simp only [Wt.enc,List.mem_cons,List.not_mem_nil,or_false]at hc
 rcases hc with rfl|rfl<;>rfl
@[go_sem] theorem Wt.eta {e:Wt}:(⟨e.id,e.w⟩:Wt)=e:=rfl
end Dm
namespace Dm
open Go Go.Proofs Go.IntWalk
structure Wl where
 c:List Ch
 w:List Wt
 i:List Iv
 p:List Py
 f:Fd
 next:Nat
 tick:Nat
deriving DecidableEq,Inhabited
@[go_sem] def Wl.enc (e:Wl):List C:=[.sl (chs e.c), .sl (wts e.w), .sl (ivs e.i), .sl (pys e.p), .int .u64 (e.f.next:Int), .sl (evs e.f.l), .int .u64 (e.next:Int), .int .u64 (e.tick:Int)]
def Wl.dec:List C→Wl
 |[.sl z7, .sl z8, .sl z9, .sl z10, .int .u64 z12, .sl z13, .int .u64 z14, .int .u64 z15]=>(⟨(yb z7),(jd z8),(qc z9),(vb z10),(⟨z12.toNat,(jb z13)⟩:Fd),z14.toNat,z15.toNat⟩:Wl)
 |_=>default
def wls (l:List Wl):List (List C):=l.map Wl.enc
def ye6 (l:List (List C)):List Wl:=l.map Wl.dec
@[simp,go_sem] theorem jc6 (l:List Wl):(wls l).length=l.length:=by simp [wls]
@[go_sem] theorem geX (l:List Wl) (i:Nat):(wls l).getD i [.sl [], .sl [], .sl [], .sl [], .int .u64 0, .sl [], .int .u64 0, .int .u64 0]=(l.getD i default).enc:=by
 simp only [wls,List.getD_eq_getElem?_getD,List.getElem?_map]
 cases l[i]? <;>rfl
@[go_sem] theorem yd4 (l:List Wl):bf 8 (wls l)=True:=by
 simp [bf,wls,Wl.enc]
theorem Wl.jc (e:Wl):Wl.dec e.enc=e:=by
 simp [Wl.enc,Wl.dec,qbd,kL,jbd,vbd,wbd]
@[go_sem] theorem xdI (l:List Wl):ye6 (wls l)=l:=by
 simp only [ye6,wls,List.map_map]
 exact List.map_id'' (fun e=>Wl.jc e) l
@[go_sem] theorem ueX (a b:List Wl):wls a++wls b=wls (a++b):=by simp [wls]
@[go_sem] theorem bd3 (l:List Wl) (k:Nat):(wls l).drop k=wls (l.drop k):=by simp [wls]
@[go_sem] theorem zd4 (l:List Wl) (k:Nat):(wls l).take k=wls (l.take k):=by simp [wls]
@[go_sem] theorem beX (z16:List Ch) (z17:List Wt) (z18:List Iv) (z19:List Py) (z20:Int) (z21:List Ev) (z22:Int) (z23:Int) (hz20:0≤z20) (hz22:0≤z22) (hz23:0≤z23):[[C.sl (chs z16),C.sl (wts z17),C.sl (ivs z18),C.sl (pys z19),C.int .u64 z20,C.sl (evs z21),C.int .u64 z22,C.int .u64 z23]]=wls [⟨z16,z17,z18,z19,⟨z20.toNat,z21⟩,z22.toNat,z23.toNat⟩]:=by simp [wls,Wl.enc,Int.toNat_of_nonneg hz20,Int.toNat_of_nonneg hz22,Int.toNat_of_nonneg hz23]
@[go_sem] theorem zeY (l:List Wl) (i:Nat) (z16:List Ch) (z17:List Wt) (z18:List Iv) (z19:List Py) (z20:Int) (z21:List Ev) (z22:Int) (z23:Int) (hz20:0≤z20) (hz22:0≤z22) (hz23:0≤z23):(wls l).set i [C.sl (chs z16),C.sl (wts z17),C.sl (ivs z18),C.sl (pys z19),C.int .u64 z20,C.sl (evs z21),C.int .u64 z22,C.int .u64 z23]=wls (l.set i ⟨z16,z17,z18,z19,⟨z20.toNat,z21⟩,z22.toNat,z23.toNat⟩):=by simp [wls,List.map_set,Wl.enc,Int.toNat_of_nonneg hz20,Int.toNat_of_nonneg hz22,Int.toNat_of_nonneg hz23]
@[go_sem] theorem gd3 (l:List Wl) (z16:List Ch) (z17:List Wt) (z18:List Iv) (z19:List Py) (z20:Int) (z21:List Ev) (z22:Int) (z23:Int) (hz20:0≤z20) (hz22:0≤z22) (hz23:0≤z23):[C.sl (chs z16),C.sl (wts z17),C.sl (ivs z18),C.sl (pys z19),C.int .u64 z20,C.sl (evs z21),C.int .u64 z22,C.int .u64 z23]::wls l=wls (⟨z16,z17,z18,z19,⟨z20.toNat,z21⟩,z22.toNat,z23.toNat⟩::l):=by simp [wls,Wl.enc,Int.toNat_of_nonneg hz20,Int.toNat_of_nonneg hz22,Int.toNat_of_nonneg hz23]
@[go_sem] theorem Wl.eta {e:Wl}:(⟨e.c,e.w,e.i,e.p,e.f,e.next,e.tick⟩:Wl)=e:=rfl
def okW (w:Wl):Prop:=kbY w.c∧ya2 w.i∧ub8 w.f∧w.w.length≤32∧w.next≠0∧w.next≤MM∧(0<w.p.length→(w.p.getD (w.p.length - 1) default).id<w.next)∧kac w.p w.c=(true,0)
instance (w:Wl):Decidable (okW w):=by unfold okW;infer_instance
def uac (w:Wl):Int:=if okW w then 0 else 1
theorem zck {w:Wl}:uac w=0↔okW w:=by unfold uac;split<;>rename_i h<;>simp only [h]<;>decide
@[go_sem] def gco:D:= .agg [.sl (chs []), .sl (wts []), .sl (ivs []), .sl (pys []), .int .u64 1, .sl (evs []), .int .u64 1, .int .u64 0]
@[go_sem] abbrev vfd:FuncId:=35
@[go_sem] def gdz:Tab:=[(102,zaE)]
theorem wbX:za Tryz.prog gdz:=(za.cons wbx za.nil)
theorem zcQ:ja Tryz.prog 35 [] (gco):=by
 refine .of (qfl wbX (Nat.le_of_ble_eq_true rfl) ?_)
 simp -implicitDefEqProofs only [cdA,go_sem,Go.Proofs.Tryz.f35,simprocAttr, -Int.reduceEq,List.cons.injEq,cdB]
 exact⟨rfl,rfl,rfl,rfl⟩
def waG:List D→Option (Prop×D×Fr)
 |[]=>some (True,gco,[])
 |_=>none
attribute [go_sem] waG
theorem bby:∀rs p r fr,waG rs=some (p,r,fr)→p→gaH Tryz.prog 35 rs r fr:=by
 intro rs p r fr h hp
 unfold waG at h
 split at h<;>cases h
 exact zcQ
@[go_sem] def ubl (w:Wl):D:= .int .i64 (uac w)
@[go_sem] abbrev xdU:FuncId:=82
@[go_sem] def wch:Tab:=[(159,kV),(160,vJ),(161,wU),(162,wV)]
theorem qao:za Tryz.prog wch:=(za.cons yaU (za.cons zab (za.cons vaT (za.cons qaU za.nil))))
theorem ybX (w:Wl) (h:w.f.next≤18446744073709551615):ja Tryz.prog 82 [.agg [.sl (chs w.c), .sl (wts w.w), .sl (ivs w.i), .sl (pys w.p), .c (.int .u64 (w.f.next:Int)), .sl (evs w.f.l), .c (.int .u64 (w.next:Int)), .c (.int .u64 (w.tick:Int))]] (ubl w):=by
 refine .of (xfp qao (Nat.le_of_ble_eq_true rfl) ?_)
 simp -implicitDefEqProofs only [cdA,go_sem,Go.Proofs.Tryz.f82,simprocAttr, -Int.reduceEq,List.cons.injEq,cdB]
 have hbad:¬okW w→1=uac w:=fun h=>by rw [uac,if_neg h]
 have hl0:xbY w.c=0↔kbY w.c:=by unfold xbY;split<;>rename_i h<;>simp only [h]<;>decide
 have hi0:wao w.i=0↔ya2 w.i:=by unfold wao;split<;>rename_i h<;>simp only [h]<;>decide
 refine⟨fun h1=>⟨fun h2=>⟨h,fun h3 _=>⟨fun h4=>⟨fun h5=>⟨fun h6=>hbad fun ho=> ?_,fun h6 _=> ?_⟩,fun h5=>hbad fun ho=> ?_⟩,fun h4=>hbad fun ho=> ?_⟩,fun h3=>hbad fun ho=>h3 (gbc.2 ho.2.2.1)⟩,fun h2=>hbad fun ho=>h2 (hi0.2 ho.2.1)⟩,fun h1=>hbad fun ho=>h1 (hl0.2 ho.1)⟩
 rotate_left 1
 ·refine xb.run qdy qao qa (by kernel_rfl) (by kernel_rfl) ?_
  simp -implicitDefEqProofs only [cdA,go_sem,simprocAttr, -Int.reduceEq,List.cons.injEq,cdB]
  have hL:=hl0.1 h1
  have hh:∀c∈w.c,c.holds.length≤1000000:=fun c hc=>by have:=(hL.2.1 c hc).2.2.1;omega
  have hfin:(0<w.p.length→(w.p.getD (w.p.length - 1) default).id<w.next)→((kac w.p w.c).2=0→((kac w.p w.c).1=true→0=uac w)∧((kac w.p w.c).1=false→1=uac w))∧(¬(kac w.p w.c).2=0→1=uac w):=fun h7=>
   ⟨fun h8=>⟨fun h9=>by
    rw [uac,if_pos (show okW w from⟨hL,hi0.1 h2,gbc.1 h3,by omega,by omega,by unfold MM;omega,h7,Prod.ext h9 h8⟩)],fun h9=>hbad fun ho=>by have:=ho.2.2.2.2.2.2.2;rw [this]at h9;cases h9⟩,
    fun h8=>hbad fun ho=>by have:=ho.2.2.2.2.2.2.2;rw [this]at h8;exact h8 rfl⟩
  refine⟨fun h7=> ?_,fun h7=>⟨hh,hfin fun h=>absurd h (by omega)⟩⟩
  rw [i64_in _ (by omega),show((w.p.length:Int) - 1).toNat=w.p.length - 1 by omega]
  refine⟨by omega,fun h8=>hbad fun ho=> ?_,fun h8=>⟨hh,hfin fun _=>by omega⟩⟩
  have:=ho.2.2.2.2.2.2.1 (by omega);omega
 ·have:=ho.2.2.2.2.1;omega
 ·have:=ho.2.2.2.1;omega
 ·have:=ho.2.2.2.2.2.1;unfold MM at this;omega
@[go_sem] def uch (w:Wl):Prop:=(w.f.next≤18446744073709551615)
def wK:List D→Option (Prop×D×Fr)
 |[.agg [.c (.sl z25), .c (.sl z26), .c (.sl z27), .c (.sl z28), .c (.int .u64 z30), .c (.sl z31), .c (.int .u64 z32), .c (.int .u64 z33)]]=>some (z25=chs (yb z25)∧z26=wts (jd z26)∧z27=ivs (qc z27)∧z28=pys (vb z28)∧z30=(z30.toNat:Int)∧z31=evs (jb z31)∧z32=(z32.toNat:Int)∧z33=(z33.toNat:Int)∧uch (⟨(yb z25),(jd z26),(qc z27),(vb z28),(⟨z30.toNat,(jb z31)⟩:Fd),z32.toNat,z33.toNat⟩:Wl),ubl (⟨(yb z25),(jd z26),(qc z27),(vb z28),(⟨z30.toNat,(jb z31)⟩:Fd),z32.toNat,z33.toNat⟩:Wl),[])
 |_=>none
attribute [go_sem] wK
theorem wab:ga 82 wK:=by
 intro rs p r fr h hp
 unfold wK at h
 split at h<;>cases h
 obtain⟨hc0,hc1,hc2,hc3,hc4,hc5,hc6,hc7,hp⟩:=hp
 rename_i z25 z26 z27 z28 z30 z31 z32 z33
 have:=ybX ⟨(yb z25),(jd z26),(qc z27),(vb z28),⟨z30.toNat,(jb z31)⟩,z32.toNat,z33.toNat⟩ hp
 rw [←hc0,←hc1,←hc2,←hc3,←hc4,←hc5,←hc6,←hc7]at this
 exact this
end Dm
namespace Dm
open Go Go.Proofs Go.IntWalk
@[go_sem] def kbe (l:List Hd):D:= .sl (hds l)
@[go_sem] abbrev qdQ:FuncId:=132
@[go_sem] def xb5:Tab:=[]
theorem qa0:za Tryz.prog xb5:=za.nil
theorem xbG (l:List Hd) (h:l.length≤1000000):ja Tryz.prog 132 [.sl (hds l)] (kbe l):=by
 refine .of (qec qa0 (Nat.le_of_ble_eq_true rfl) ?_)
 simp -implicitDefEqProofs only [cdA,go_sem,Go.Proofs.Tryz.f132,simprocAttr, -Int.reduceEq,List.cons.injEq,cdB]
 exact fun b hb=>⟨hb,fun _=>⟨by omega,_,_,_,rfl⟩⟩
@[go_sem] def qb5 (l:List Hd):Prop:=(l.length≤1000000)
def kJ:List D→Option (Prop×D×Fr)
 |[.c (.sl z183)]=>some (z183=hds (bn z183)∧qb5 (bn z183),kbe (bn z183),[])
 |_=>none
attribute [go_sem] kJ
theorem baa:ga 132 kJ:=by
 intro rs p r fr h hp
 unfold kJ at h
 split at h<;>cases h
 obtain⟨hc0,hp⟩:=hp
 rename_i z183
 have:=xbG (bn z183) hp
 rw [←hc0]at this
 exact this
end Dm
namespace Dm
open Go Go.Proofs Go.IntWalk
@[go_sem] def ubc (l:List Ch):D:= .vec 0 l.length
@[go_sem] def xaJ (l:List Ch):Fr:=[(7,86,true,chs l)]
@[go_sem] abbrev wdP:FuncId:=127
@[go_sem] def jb0:Tab:=[]
theorem kaZ:za Tryz.prog jb0:=za.nil
theorem wbC (l:List Ch) (h:l.length≤1000000):zf Tryz.prog 127 [.sl (chs l)] (ubc l) (xaJ l):=by
 refine .of (beb kaZ (Nat.le_of_ble_eq_true rfl) ?_)
 simp -implicitDefEqProofs only [cdA,go_sem,Go.Proofs.Tryz.f127,simprocAttr, -Int.reduceEq,List.cons.injEq,cdB]
 refine fun b hb=>⟨fun h=> ?_,fun h=> ?_⟩
 ·exact⟨[none],by simp [go_sem,hb h],by cases l<;>simp_all [go_sem,chs]⟩
 ·exact⟨by omega,[some 0],by simp [go_sem]⟩
@[go_sem] def kb0 (l:List Ch):Prop:=(l.length≤1000000)
def jJ:List D→Option (Prop×D×Fr)
 |[.c (.sl z184)]=>some (z184=chs (yb z184)∧kb0 (yb z184),ubc (yb z184),xaJ (yb z184))
 |_=>none
attribute [go_sem] jJ
theorem gaa:ga 127 jJ:=by
 intro rs p r fr h hp
 unfold jJ at h
 split at h<;>cases h
 obtain⟨hc0,hp⟩:=hp
 rename_i z184
 have:=wbC (yb z184) hp
 rw [←hc0]at this
 exact And.intro rfl this
end Dm
namespace Dm
open Go Go.Proofs Go.IntWalk
end Dm
namespace Dm
open Go Go.Proofs Go.IntWalk
@[go_sem] def jaY (l:List Wt):D:= .sl (wts l)
@[go_sem] abbrev gdp:FuncId:=128
@[go_sem] def gbX:Tab:=[]
theorem qaY:za Tryz.prog gbX:=za.nil
theorem bbz (l:List Wt) (h:l.length≤1000000):ja Tryz.prog 128 [.sl (wts l)] (jaY l):=by
 refine .of (zec qaY (Nat.le_of_ble_eq_true rfl) ?_)
 simp -implicitDefEqProofs only [cdA,go_sem,Go.Proofs.Tryz.f128,simprocAttr, -Int.reduceEq,List.cons.injEq,cdB]
 exact fun b hb=>⟨hb,fun _=>⟨by omega,_,_,_,rfl⟩⟩
@[go_sem] def bbX (l:List Wt):Prop:=(l.length≤1000000)
def qB:List D→Option (Prop×D×Fr)
 |[.c (.sl z34)]=>some (z34=wts (jd z34)∧bbX (jd z34),jaY (jd z34),[])
 |_=>none
attribute [go_sem] qB
theorem yZ:ga 128 qB:=by
 intro rs p r fr h hp
 unfold qB at h
 split at h<;>cases h
 obtain⟨hc0,hp⟩:=hp
 rename_i z34
 have:=bbz (jd z34) hp
 rw [←hc0]at this
 exact this
@[go_sem] def vaL (l:List Iv):D:= .sl (ivs l)
@[go_sem] abbrev udm:FuncId:=129
@[go_sem] def xbI:Tab:=[]
theorem kaL:za Tryz.prog xbI:=za.nil
theorem qbp (l:List Iv) (h:l.length≤1000000):ja Tryz.prog 129 [.sl (ivs l)] (vaL l):=by
 refine .of (gc7 kaL (Nat.le_of_ble_eq_true rfl) ?_)
 simp -implicitDefEqProofs only [cdA,go_sem,Go.Proofs.Tryz.f129,simprocAttr, -Int.reduceEq,List.cons.injEq,cdB]
 exact fun b hb=>⟨hb,fun _=>⟨by omega,_,_,_,rfl⟩⟩
@[go_sem] def qbI (l:List Iv):Prop:=(l.length≤1000000)
def uz:List D→Option (Prop×D×Fr)
 |[.c (.sl z35)]=>some (z35=ivs (qc z35)∧qbI (qc z35),vaL (qc z35),[])
 |_=>none
attribute [go_sem] uz
theorem jV:ga 129 uz:=by
 intro rs p r fr h hp
 unfold uz at h
 split at h<;>cases h
 obtain⟨hc0,hp⟩:=hp
 rename_i z35
 have:=qbp (qc z35) hp
 rw [←hc0]at this
 exact this
@[go_sem] def vaO (l:List Py):D:= .sl (pys l)
@[go_sem] abbrev bdm:FuncId:=130
@[go_sem] def zbN:Tab:=[]
theorem kaO:za Tryz.prog zbN:=za.nil
theorem qbq (l:List Py) (h:l.length≤1000000):ja Tryz.prog 130 [.sl (pys l)] (vaO l):=by
 refine .of (yec kaO (Nat.le_of_ble_eq_true rfl) ?_)
 simp -implicitDefEqProofs only [cdA,go_sem,Go.Proofs.Tryz.f130,simprocAttr, -Int.reduceEq,List.cons.injEq,cdB]
 exact fun b hb=>⟨hb,fun _=>⟨by omega,_,_,_,rfl⟩⟩
@[go_sem] def ybN (l:List Py):Prop:=(l.length≤1000000)
def gz:List D→Option (Prop×D×Fr)
 |[.c (.sl z36)]=>some (z36=pys (vb z36)∧ybN (vb z36),vaO (vb z36),[])
 |_=>none
attribute [go_sem] gz
theorem bV:ga 130 gz:=by
 intro rs p r fr h hp
 unfold gz at h
 split at h<;>cases h
 obtain⟨hc0,hp⟩:=hp
 rename_i z36
 have:=qbq (vb z36) hp
 rw [←hc0]at this
 exact this
@[go_sem] def yat (l:List Ev):D:= .sl (evs l)
@[go_sem] abbrev ycZ:FuncId:=131
@[go_sem] def zbn:Tab:=[]
theorem uaA:za Tryz.prog zbn:=za.nil
theorem ya0 (l:List Ev) (h:l.length≤1000000):ja Tryz.prog 131 [.sl (evs l)] (yat l):=by
 refine .of (xec uaA (Nat.le_of_ble_eq_true rfl) ?_)
 simp -implicitDefEqProofs only [cdA,go_sem,Go.Proofs.Tryz.f131,simprocAttr, -Int.reduceEq,List.cons.injEq,cdB]
 exact fun b hb=>⟨hb,fun _=>⟨by omega,_,_,_,rfl⟩⟩
@[go_sem] def ybn (l:List Ev):Prop:=(l.length≤1000000)
def uu:List D→Option (Prop×D×Fr)
 |[.c (.sl z37)]=>some (z37=evs (jb z37)∧ybn (jb z37),yat (jb z37),[])
 |_=>none
attribute [go_sem] uu
theorem bP:ga 131 uu:=by
 intro rs p r fr h hp
 unfold uu at h
 split at h<;>cases h
 obtain⟨hc0,hp⟩:=hp
 rename_i z37
 have:=ya0 (jb z37) hp
 rw [←hc0]at this
 exact this
def xU (w:Wl):Prop:=w.c.length≤1000000∧(∀c∈w.c,c.holds.length≤1000000)∧w.w.length≤1000000∧w.i.length≤1000000∧w.p.length≤1000000∧w.f.l.length≤1000000
@[go_sem] def bco (w:Wl):D:= .agg [.sl (chs w.c), .sl (wts w.w), .sl (ivs w.i), .sl (pys w.p), .int .u64 w.f.next, .sl (evs w.f.l), .int .u64 w.next, .int .u64 w.tick]
@[go_sem] abbrev wfd:FuncId:=189
@[go_sem] def bdz:Tab:=[(127,jJ),(132,kJ),(128,qB),(129,uz),(130,gz),(131,uu)]
theorem kZ:za Tryz.prog bdz:=(za.cons gaa (za.cons baa (za.cons yZ (za.cons jV (za.cons bV (za.cons bP za.nil))))))
theorem xcQ (w:Wl) (h:xU w):ja Tryz.prog 189 [.agg [.sl (chs w.c), .sl (wts w.w), .sl (ivs w.i), .sl (pys w.p), .c (.int .u64 (w.f.next:Int)), .sl (evs w.f.l), .c (.int .u64 (w.next:Int)), .c (.int .u64 (w.tick:Int))]] (bco w):=by
 refine .of (yeh kZ (Nat.le_of_ble_eq_true rfl) ?_)
 simp -implicitDefEqProofs only [cdA,go_sem,Go.Proofs.Tryz.f189,simprocAttr, -Int.reduceEq,List.cons.injEq,cdB]
 refine xb.run gcN kZ qa (by kernel_rfl) (by kernel_rfl) ?_
 simp -implicitDefEqProofs only [cdA,go_sem,simprocAttr, -Int.reduceEq,List.cons.injEq,cdB]
 obtain⟨h1,h2,h3,h4,h5,h6⟩:=h
 refine⟨h1,h3,h4,h5,h6,fun _=>SWp.loop (ι:={i:Nat // i≤w.c.length}) (fun i=>⟨[(1, .ref 0 0),(2, .ref 1 0),(28, .vec 2 w.c.length),(29, .int .i64 w.c.length),(30, .int .i64 i.1)],
  [(2, .vec true 7 86 (chs w.c)),(0, .box [.vec 2 w.c.length, .sl (wts w.w), .sl (ivs w.i), .sl (pys w.p), .c (.int .u64 w.f.next), .sl (evs w.f.l), .c (.int .u64 w.next), .c (.int .u64 w.tick)]),
    (1, .box [.nil, .nil, .nil, .nil, .c (.int .u64 0), .nil, .c (.int .u64 0), .c (.int .u64 0)])],3⟩) (fun i=>w.c.length - i.1) ⟨0,by omega⟩ ?_ ?_⟩
 ·simp [go_sem]
 ·rintro⟨i,hi⟩
  refine ya kZ.toS zdj _ _ _ rfl ?_
  simp -implicitDefEqProofs only [cdA,go_sem,simprocAttr, -Int.reduceEq,List.cons.injEq,cdB]
  refine⟨fun h7=>⟨by omega,by omega, ?_⟩,fun _=>⟨_,_,_,rfl⟩⟩
  have hi':i<w.c.length:=by omega
  have hself:w.c.set i (w.c.getD i default)=w.c:=by
   rw [xe hi'];exact List.set_getElem_self hi'
  have hhl:=h2 _ (va.2 ⟨i,hi',rfl⟩)
  refine xb.run bcN kZ qa (by kernel_rfl) (by kernel_rfl) ?_
  simp -implicitDefEqProofs only [cdA,go_sem,simprocAttr, -Int.reduceEq,List.cons.injEq,cdB]
  exact⟨hhl,by omega,hi',⟨i+1,hi'⟩,by dsimp only;omega,i64_in _ (by omega),by rw [hself]⟩
@[go_sem] def zdA (w:Wl):Prop:=(xU w)
def uaG:List D→Option (Prop×D×Fr)
 |[.agg [.c (.sl z39), .c (.sl z40), .c (.sl z41), .c (.sl z42), .c (.int .u64 z44), .c (.sl z45), .c (.int .u64 z46), .c (.int .u64 z47)]]=>some (z39=chs (yb z39)∧z40=wts (jd z40)∧z41=ivs (qc z41)∧z42=pys (vb z42)∧z44=(z44.toNat:Int)∧z45=evs (jb z45)∧z46=(z46.toNat:Int)∧z47=(z47.toNat:Int)∧zdA (⟨(yb z39),(jd z40),(qc z41),(vb z42),(⟨z44.toNat,(jb z45)⟩:Fd),z46.toNat,z47.toNat⟩:Wl),bco (⟨(yb z39),(jd z40),(qc z41),(vb z42),(⟨z44.toNat,(jb z45)⟩:Fd),z46.toNat,z47.toNat⟩:Wl),[])
 |_=>none
attribute [go_sem] uaG
theorem zbz:ga 189 uaG:=by
 intro rs p r fr h hp
 unfold uaG at h
 split at h<;>cases h
 obtain⟨hc0,hc1,hc2,hc3,hc4,hc5,hc6,hc7,hp⟩:=hp
 rename_i z39 z40 z41 z42 z44 z45 z46 z47
 have:=xcQ ⟨(yb z39),(jd z40),(qc z41),(vb z42),⟨z44.toNat,(jb z45)⟩,z46.toNat,z47.toNat⟩ hp
 rw [←hc0,←hc1,←hc2,←hc3,←hc4,←hc5,←hc6,←hc7]at this
 exact this
end Dm
namespace Dm
open Go Go.Proofs Go.IntWalk
structure Rk where
 id:Nat
 key:Nat
 gone:Bool
deriving DecidableEq,Inhabited
@[go_sem] def Rk.enc (e:Rk):List C:=[.int .u64 (e.id:Int), .int .u64 (e.key:Int), .bool e.gone]
def Rk.dec:List C→Rk
 |[.int .u64 z2, .int .u64 z3, .bool z4]=>(⟨z2.toNat,z3.toNat,z4⟩:Rk)
 |_=>default
def rks (l:List Rk):List (List C):=l.map Rk.enc
def gb (l:List (List C)):List Rk:=l.map Rk.dec
@[simp,go_sem] theorem vh (l:List Rk):(rks l).length=l.length:=by simp [rks]
@[go_sem] theorem weP (l:List Rk) (i:Nat):(rks l).getD i [.int .u64 0, .int .u64 0, .bool false]=(l.getD i default).enc:=by
 simp only [rks,List.getD_eq_getElem?_getD,List.getElem?_map]
 cases l[i]? <;>rfl
@[go_sem] theorem wce (l:List Rk):bf 3 (rks l)=True:=by
 simp [bf,rks,Rk.enc]
theorem Rk.jc (e:Rk):Rk.dec e.enc=e:=by
 simp [Rk.enc,Rk.dec]
@[go_sem] theorem bb1 (l:List Rk):gb (rks l)=l:=by
 simp only [gb,rks,List.map_map]
 exact List.map_id'' (fun e=>Rk.jc e) l
@[go_sem] theorem veP (a b:List Rk):rks a++rks b=rks (a++b):=by simp [rks]
@[go_sem] theorem zdY (l:List Rk) (k:Nat):(rks l).drop k=rks (l.drop k):=by simp [rks]
@[go_sem] theorem xdY (l:List Rk) (k:Nat):(rks l).take k=rks (l.take k):=by simp [rks]
@[go_sem] theorem ueP (z5:Int) (z6:Int) (z7:Bool) (hz5:0≤z5) (hz6:0≤z6):[[C.int .u64 z5,C.int .u64 z6,C.bool z7]]=rks [⟨z5.toNat,z6.toNat,z7⟩]:=by simp [rks,Rk.enc,Int.toNat_of_nonneg hz5,Int.toNat_of_nonneg hz6]
@[go_sem] theorem geP (l:List Rk) (i:Nat) (z5:Int) (z6:Int) (z7:Bool) (hz5:0≤z5) (hz6:0≤z6):(rks l).set i [C.int .u64 z5,C.int .u64 z6,C.bool z7]=rks (l.set i ⟨z5.toNat,z6.toNat,z7⟩):=by simp [rks,List.map_set,Rk.enc,Int.toNat_of_nonneg hz5,Int.toNat_of_nonneg hz6]
@[go_sem] theorem bdX (l:List Rk) (z5:Int) (z6:Int) (z7:Bool) (hz5:0≤z5) (hz6:0≤z6):[C.int .u64 z5,C.int .u64 z6,C.bool z7]::rks l=rks (⟨z5.toNat,z6.toNat,z7⟩::l):=by simp [rks,Rk.enc,Int.toNat_of_nonneg hz5,Int.toNat_of_nonneg hz6]
@[go_sem] theorem ydY (l:List Rk):bZ (rks l)=True:=eq_true fun x hx c hc=>by
 obtain⟨e,_,rfl⟩:=List.mem_map.1 hx
 simp only [Rk.enc,List.mem_cons,List.not_mem_nil,or_false]at hc
 rcases hc with rfl|rfl|rfl<;>rfl
@[go_sem] theorem Rk.eta {e:Rk}:(⟨e.id,e.key,e.gone⟩:Rk)=e:=rfl
@[go_sem] theorem Rk.eqD {a b:Rk}:eqD Tryz.prog 70 [D.c (.int .u64 (a.id:Int)),D.c (.int .u64 (a.key:Int)),D.c (.bool a.gone)] [D.c (.int .u64 (b.id:Int)),D.c (.int .u64 (b.key:Int)),D.c (.bool b.gone)]=some (decide (a=b)):=by
 cases a;cases b
 simp only [Dm.eqD,bct,vm,eqC,List.getElem?_cons_zero,List.getElem?_cons_succ,if_true,Option.some.injEq,Rk.mk.injEq]
 rw [Bool.eq_iff_iff]
 simp [Int.ofNat_inj]
@[go_sem] def yaS (r:Rk) (id:Nat):D:= .int .i64 (vai r.id id)
@[go_sem] abbrev gdo:FuncId:=163
@[go_sem] def zbT:Tab:=[(225,gP)]
theorem zaS:za Tryz.prog zbT:=(za.cons wu za.nil)
theorem kbw (r:Rk) (id:Nat):ja Tryz.prog 163 [.agg [.c (.int .u64 (r.id:Int)), .c (.int .u64 (r.key:Int)), .c (.bool r.gone)], .c (.int .u64 (id:Int))] (yaS r id):=by
 refine .of (bee zaS (Nat.le_of_ble_eq_true rfl) ?_)
 simp -implicitDefEqProofs only [cdA,go_sem,Go.Proofs.Tryz.f163,simprocAttr, -Int.reduceEq,List.cons.injEq,cdB]
def uA:List D→Option (Prop×D×Fr)
 |[.agg [.c (.int .u64 z9), .c (.int .u64 z10), .c (.bool z11)], .c (.int .u64 z12)]=>some (z9=(z9.toNat:Int)∧z10=(z10.toNat:Int)∧z12=(z12.toNat:Int),yaS (⟨z9.toNat,z10.toNat,z11⟩:Rk) z12.toNat,[])
 |_=>none
attribute [go_sem] uA
theorem yY:ga 163 uA:=by
 intro rs p r fr h hp
 unfold uA at h
 split at h<;>cases h
 obtain⟨hc0,hc1,hc2⟩:=hp
 rename_i z9 z10 z11 z12
 have:=kbw ⟨z9.toNat,z10.toNat,z11⟩ z12.toNat
 rw [←hc0,←hc1,←hc2]at this
 exact this
def qZ (l:List Rk) (key:Nat):Bool:=decide (∃r∈l,r.key=key)
@[go_sem] def qaS (l:List Rk) (key:Nat):D:= .bool (qZ l key)
@[go_sem] abbrev bdo:FuncId:=139
@[go_sem] def ybT:Tab:=[]
theorem gp:za Tryz.prog ybT:=za.nil
theorem vbw (l:List Rk) (key:Nat):ja Tryz.prog 139 [.sl (rks l), .c (.int .u64 (key:Int))] (qaS l key):=by
 refine .of (zed gp (Nat.le_of_ble_eq_true rfl) ?_)
 simp -implicitDefEqProofs only [cdA,go_sem,Go.Proofs.Tryz.f139,simprocAttr, -Int.reduceEq,List.cons.injEq,cdB]
 refine kei gp (Nat.le_of_ble_eq_true rfl) ?_
 simp -implicitDefEqProofs only [cdA,go_sem,Go.Proofs.Tryz.f207,simprocAttr, -Int.reduceEq,List.cons.injEq,cdB]
 refine wel gp (Nat.le_of_ble_eq_true rfl) ?_
 simp -implicitDefEqProofs only [cdA,go_sem,Go.Proofs.Tryz.f244,simprocAttr, -Int.reduceEq,List.cons.injEq,cdB]
 refine fun _=>SWp.loop (ι:={i:Nat // i≤l.length∧∀j,j<i→(l.getD j default).key≠key}) (fun i=>⟨[(0, .sl (rks l)),(1, .fn (.func 208) [] [.ref 0 0]),(7, .int .i64 l.length),(8, .int .i64 i.1)],[(0, .box [.c (.int .u64 key)])],1⟩) (fun i=>l.length - i.1) ⟨0,by simp⟩ ?_ ?_
 ·simp [go_sem]
 ·rintro⟨i,hi,hall⟩
  refine ya gp.toS zdl _ _ _ rfl ?_
  simp -implicitDefEqProofs only [cdA,go_sem,simprocAttr, -Int.reduceEq,List.cons.injEq,cdB]
  refine⟨fun h4=>⟨h4, ?_⟩,fun h4=> ?_⟩
  ·skip
   refine vei gp (Nat.le_of_ble_eq_true rfl) ?_
   simp -implicitDefEqProofs only [cdA,go_sem,Go.Proofs.Tryz.f208,simprocAttr, -Int.reduceEq,List.cons.injEq,cdB]
   have hi':i<l.length:=by omega
   refine⟨fun h5=>(decide_eq_true ⟨_,va.2 ⟨i,hi',rfl⟩,by omega⟩).symm,fun h5=>⟨⟨i+1,hi',fun j hj=> ?_⟩,by dsimp only;omega,i64_in _ (by omega)⟩⟩
   by_cases hji:j=i
   ·subst hji;omega
   ·exact hall j (by omega)
  ·have hi':i=l.length:=by omega
   subst hi'
   rw [qZ,decide_eq_decide]
   refine⟨False.elim,fun⟨r,hr,hk⟩=> ?_⟩
   obtain⟨j,hj,rfl⟩:=va.1 hr
   exact hall j hj hk
def yu:List D→Option (Prop×D×Fr)
 |[.c (.sl z13), .c (.int .u64 z14)]=>some (z13=rks (gb z13)∧z14=(z14.toNat:Int),qaS (gb z13) z14.toNat,[])
 |_=>none
attribute [go_sem] yu
theorem kG:ga 139 yu:=by
 intro rs p r fr h hp
 unfold yu at h
 split at h<;>cases h
 obtain⟨hc0,hc1⟩:=hp
 rename_i z13 z14
 have:=vbw (gb z13) z14.toNat
 rw [←hc0,←hc1]at this
 exact this
def kak (l:List Rk):Prop:=l.length≤64∧Srt.Chn Rk.id ltN l∧(l.map Rk.key).Nodup
instance (l:List Rk):Decidable (Srt.Chn Rk.id ltN l):=by unfold Srt.Chn;infer_instance
instance (l:List Rk):Decidable (kak l):=by unfold kak;infer_instance
def wZ (l:List Rk):Int:=if kak l then 0 else 1
@[go_sem] def baR (l:List Rk):D:= .int .i64 (wZ l)
@[go_sem] abbrev udo:FuncId:=83
@[go_sem] def wbS:Tab:=[(163,uA),(139,yu)]
theorem zJ:za Tryz.prog wbS:=(za.cons yY (za.cons kG za.nil))
theorem qbw (l:List Rk):ja Tryz.prog 83 [.sl (rks l)] (baR l):=by
 refine .of (qfp zJ (Nat.le_of_ble_eq_true rfl) ?_)
 simp -implicitDefEqProofs only [cdA,go_sem,Go.Proofs.Tryz.f83,simprocAttr, -Int.reduceEq,List.cons.injEq,cdB]
 have hbad:¬kak l→1=wZ l:=fun h=>by rw [wZ,if_neg h]
 refine fun _=>⟨fun h1=>hbad fun h=>by have:=h.1;omega,fun h1 _=> ?_⟩
 refine SWp.loop (ι:={i:Nat // i≤l.length∧(∀j,j<i→0<j→(l.getD (j - 1) default).id<(l.getD j default).id)∧((l.take i).map Rk.key).Nodup}) (fun i=>⟨[(0, .sl (rks l)),(8, .sl (rks l)),(9, .int .i64 l.length),(10, .int .i64 i.1)],[],0⟩) (fun i=>l.length - i.1) ⟨0,by simp,by simp,by simp⟩ ?_ ?_
 ·simp [go_sem]
 ·rintro⟨i,hi,hall,hnd⟩
  refine ya zJ.toS yfa _ _ _ rfl ?_
  simp -implicitDefEqProofs only [cdA,go_sem,simprocAttr, -Int.reduceEq,List.cons.injEq,cdB]
  refine⟨fun h2=>⟨h2, ?_⟩,fun h2=> ?_⟩
  ·refine xb.run jdy zJ qa (by kernel_rfl) (by kernel_rfl) ?_
   simp -implicitDefEqProofs only [cdA,go_sem,simprocAttr, -Int.reduceEq,List.cons.injEq,cdB]
   have hi':i<l.length:=by omega
   have htk:=take_succ hi'
   have hnext:(0<i→(l.getD (i - 1) default).id<(l.getD i default).id)→(qZ (l.take i) (l.getD i default).key=true→1=wZ l)∧(qZ (l.take i) (l.getD i default).key=false→∃i_1:{i:Nat // i≤l.length∧(∀j,j<i→0<j→(l.getD (j - 1) default).id<(l.getD j default).id)∧((l.take i).map Rk.key).Nodup},l.length - i_1.val<l.length - i∧IntKind.i64.wrap ((i:Int)+1)=i_1.val):=fun ho=>by
    refine⟨fun h3=>hbad fun h=> ?_,fun h3=>⟨⟨i+1,hi',fun j hj h0=> ?_, ?_⟩,by dsimp only;omega,i64_in _ (by omega)⟩⟩
    ·obtain⟨r,hr,hk⟩:=of_decide_eq_true h3
     have h4:((l.take (i+1)).map Rk.key).Nodup:=((List.take_prefix _ _).map _).sublist.nodup h.2.2
     rw [htk,List.map_append,List.nodup_append]at h4
     exact h4.2.2 _ (List.mem_map.2 ⟨r,hr,hk⟩) _ (by simp) rfl
    ·by_cases hji:j=i
     ·subst hji;exact ho h0
     ·exact hall j (by omega) h0
    ·rw [htk,List.map_append,List.nodup_append]
     refine⟨hnd,by simp,fun x hx y hy=> ?_⟩
     simp at hy
     rintro rfl
     obtain⟨r,hr,hk⟩:=List.mem_map.1 hx
     exact of_decide_eq_false h3 ⟨r,hr,by rw [hk,hy,List.getD_eq_getElem?_getD]⟩
   refine⟨fun h3=> ?_,fun h3=>⟨by omega,hnext fun h=>absurd h (by omega)⟩⟩
   rw [i64_in _ (by omega),show((i:Int) - 1).toNat=i - 1 by omega]
   have hc:∀a b:Nat,0≤vai a b↔¬a<b:=fun a b=>by
    have:=yw (x:=a) (y:=b);omega
   rw [hc]
   exact⟨by omega,fun h4=>⟨by omega,hnext fun _=>by omega⟩,fun h4=>hbad fun h=>h4 (h.2.1 i hi' (by omega))⟩
  ·have hi':i=l.length:=by omega
   subst hi'
   rw [List.take_length]at hnd
   rw [wZ,if_pos ⟨by omega,fun j hj h0=>hall j hj h0,hnd⟩]
def vA:List D→Option (Prop×D×Fr)
 |[.c (.sl z15)]=>some (z15=rks (gb z15),baR (gb z15),[])
 |_=>none
attribute [go_sem] vA
theorem zY:ga 83 vA:=by
 intro rs p r fr h hp
 unfold vA at h
 split at h<;>cases h
 have hc0:=hp
 rename_i z15
 have:=qbw (gb z15)
 rw [←hc0]at this
 exact this
def x7 (l:List Rk) (id:Nat):Nat×Bool×Int:=if kak l then(Srt.pos Rk.id ltN l id,Srt.thr Rk.id ltN l id,0)else(0,false,1)
@[go_sem] def zbk (l:List Rk) (id:Nat):D:= .tup [.int .i64 (x7 l id).1, .bool (x7 l id).2.1, .int .i64 (x7 l id).2.2]
@[go_sem] abbrev wdT:FuncId:=154
@[go_sem] def uce:Tab:=[(83,vA),(163,uA)]
theorem qR:za Tryz.prog uce:=(za.cons zY (za.cons yY za.nil))
theorem ubS (l:List Rk) (id:Nat):ja Tryz.prog 154 [.sl (rks l), .c (.int .u64 (id:Int))] (zbk l id):=by
 refine .of (qee qR (Nat.le_of_ble_eq_true rfl) ?_)
 simp -implicitDefEqProofs only [cdA,go_sem,Go.Proofs.Tryz.f154,simprocAttr, -Int.reduceEq,List.cons.injEq,cdB]
 have hcz:wZ l=0↔kak l:=by unfold wZ;split<;>simp_all
 refine⟨fun hok0=> ?_,fun hno0=>by
  have hno:¬kak l:=fun h=>hno0 (hcz.2 h)
  rw [x7,wZ,if_neg hno,if_neg hno];exact⟨rfl,rfl,rfl⟩⟩
 have hok:=hcz.1 hok0
 have hu:Srt.Up Rk.id ltN l:=(Srt.kai (lt:=ltN) Srt.zH).1 hok.2.1
 have hl32:=hok.1
 refine xej qR (Nat.le_of_ble_eq_true rfl) ?_
 simp -implicitDefEqProofs only [cdA,go_sem,Go.Proofs.Tryz.f215,simprocAttr, -Int.reduceEq,List.cons.injEq,cdB]
 refine fun _=>SWp.loop (ι:={x:Nat×Nat // x.1≤x.2∧x.2≤l.length∧(∀k,k<x.1→(l.getD k default).id<id)∧∀k,x.2≤k→k<l.length→¬(l.getD k default).id<id}) (fun x=>⟨[(0, .sl (rks l)),(1, .int .u64 id),(2, .fn (.func 163) [] []),(8, .int .i64 l.length),(9, .int .i64 x.1.1),(10, .int .i64 x.1.2)],[],0⟩) (fun x=>x.1.2 - x.1.1) ⟨(0,l.length),by simp,by simp,fun k hk=>absurd hk (by simp),fun k h1 h2=>absurd h1 (by simpa using h2)⟩ ?_ ?_
 ·simp [go_sem]
 ·rintro⟨⟨i,j⟩,hij,hj,hlo,hup⟩
  dsimp only at hij hj hlo hup
  refine ya qR.toS gdj _ _ _ rfl ?_
  simp -implicitDefEqProofs only [cdA,go_sem,simprocAttr, -Int.reduceEq,List.cons.injEq,cdB]
  rw [gcm hij hj ‹_›]
  refine⟨fun h4=> ?_,fun h4=> ?_⟩
  ·have hm:(i+j) / 2<l.length:=by omega
   rw [yw,Int.toNat_natCast]
   refine⟨by omega,fun h5=>⟨⟨((i+j) / 2+1,j),by dsimp only;omega,hj,fun k hk=> ?_,hup⟩,by dsimp only;omega,i64_in _ (by omega),rfl⟩,fun h5=>⟨⟨(i,(i+j) / 2),by dsimp only;omega,by dsimp only;omega,hlo,fun k hk1 hk2=> ?_⟩,by dsimp only;omega,rfl,rfl⟩⟩
   ·dsimp only at hk
    by_cases hkm:k=(i+j) / 2
    ·rw [hkm];omega
    ·have:=Srt.jB.1 hu k _ (by omega) hm
     simp only [ltN]at this;omega
   ·dsimp only at hk1
    by_cases hkm:k=(i+j) / 2
    ·rw [hkm];omega
    ·have:=Srt.jB.1 hu ((i+j) / 2) k (by omega) hk2
     simp only [ltN]at this;omega
  ·have hp:Srt.pos Rk.id ltN l id=i:=Srt.pos_eq (by omega) hlo (fun h=>hup i (by omega) h)
   rw [x7,if_pos hok,Srt.thr,hp]
   refine⟨fun h5=>⟨h5,rfl, ?_,rfl⟩,fun h5=>⟨rfl, ?_,rfl⟩⟩
   ·rw [decide_eq_decide,xck]
    exact⟨fun h=>⟨by omega,by omega⟩,fun h=>by have:=h.2;omega⟩
   ·exact(decide_eq_false fun h=>h5 (by omega)).symm
def jK:List D→Option (Prop×D×Fr)
 |[.c (.sl z16), .c (.int .u64 z17)]=>some (z16=rks (gb z16)∧z17=(z17.toNat:Int),zbk (gb z16) z17.toNat,[])
 |_=>none
attribute [go_sem] jK
theorem vab:ga 154 jK:=by
 intro rs p r fr h hp
 unfold jK at h
 split at h<;>cases h
 obtain⟨hc0,hc1⟩:=hp
 rename_i z16 z17
 have:=ubS (gb z16) z17.toNat
 rw [←hc0,←hc1]at this
 exact this
def vp (l:List Rk) (id:Nat):Nat×Int:=if¬kak l then(0,1)else if Srt.thr Rk.id ltN l id=false then(0,5)else if(l.getD (Srt.pos Rk.id ltN l id) default).gone=true then(0,13)else(Srt.pos Rk.id ltN l id,0)
@[go_sem] def ybk (l:List Rk) (id:Nat):D:= .tup [.int .i64 (vp l id).1, .int .i64 (vp l id).2]
@[go_sem] abbrev udT:FuncId:=111
@[go_sem] def gce:Tab:=[(154,jK)]
theorem ba6:za Tryz.prog gce:=(za.cons vab za.nil)
theorem gbS (l:List Rk) (id:Nat):ja Tryz.prog 111 [.sl (rks l), .c (.int .u64 (id:Int))] (ybk l id):=by
 refine .of (wea ba6 (Nat.le_of_ble_eq_true rfl) ?_)
 simp -implicitDefEqProofs only [cdA,go_sem,Go.Proofs.Tryz.f111,simprocAttr, -Int.reduceEq,List.cons.injEq,cdB]
 by_cases hok:kak l
 rotate_left 1
 ·have e1:x7 l id=(0,false,1):=by rw [x7,if_neg hok]
  have e2:vp l id=(0,1):=by rw [vp,if_pos hok]
  rw [e1,e2]
  exact⟨fun h=>absurd (show(1:Int)=0 from h) (by decide),fun _=>⟨rfl,rfl⟩⟩
 have e1:x7 l id=(Srt.pos Rk.id ltN l id,Srt.thr Rk.id ltN l id,0):=by rw [x7,if_pos hok]
 have e2:vp l id=if Srt.thr Rk.id ltN l id=false then(0,5)else if(l.getD (Srt.pos Rk.id ltN l id) default).gone=true then(0,13)else(Srt.pos Rk.id ltN l id,0):=by rw [vp,if_neg fun h=>h hok]
 rw [e1,e2]
 refine⟨fun _=>⟨fun h2=> ?_,fun h2=> ?_⟩,fun h=>absurd rfl h⟩
 ·dsimp only at h2⊢
  have hp:Srt.pos Rk.id ltN l id<l.length:=by
   have h2:=h2
   unfold Srt.thr at h2
   exact(of_decide_eq_true h2).1
  rw [if_neg (by rw [h2];decide)]
  refine⟨by omega,fun h3=> ?_,fun h3=> ?_⟩
  ·rw [if_pos h3];exact⟨rfl,rfl⟩
  ·rw [if_neg (by rw [h3];decide)];exact⟨rfl,rfl⟩
 ·rw [if_pos h2];exact⟨rfl,rfl⟩
def wA:List D→Option (Prop×D×Fr)
 |[.c (.sl z18), .c (.int .u64 z19)]=>some (z18=rks (gb z18)∧z19=(z19.toNat:Int),ybk (gb z18) z19.toNat,[])
 |_=>none
attribute [go_sem] wA
theorem kK:ga 111 wA:=by
 intro rs p r fr h hp
 unfold wA at h
 split at h<;>cases h
 obtain⟨hc0,hc1⟩:=hp
 rename_i z18 z19
 have:=gbS (gb z18) z19.toNat
 rw [←hc0,←hc1]at this
 exact this
theorem vr {l:List Rk} {id:Nat} (h:(vp l id).2=0):kak l∧(vp l id).1=Srt.pos Rk.id ltN l id∧(vp l id).1<l.length∧(l.getD (vp l id).1 default).id=id∧(l.getD (vp l id).1 default).gone=false:=by
 unfold vp at*
 split at h
 ·exact absurd h (by decide)
 ·rename_i h1
  rw [if_neg h1]
  have hok:kak l:=Classical.not_not.1 h1
  split at h
  ·exact absurd h (by decide)
  ·rename_i h2
   rw [if_neg h2]
   split at h
   ·exact absurd h (by decide)
   ·rename_i h3
    rw [if_neg h3]
    have h2:Srt.thr Rk.id ltN l id=true:=by simpa using h2
    unfold Srt.thr at h2
    have h4:=of_decide_eq_true h2
    exact⟨hok,rfl,h4.1,h4.2,by simpa using h3⟩
def bao (l:List Rk) (id:Nat):Nat×Int:=if(vp l id).2=0 then((l.getD (vp l id).1 default).key,0)else(0,(vp l id).2)
@[go_sem] def bbS (l:List Rk) (id:Nat):D:= .tup [.int .u64 (bao l id).1, .int .i64 (bao l id).2]
@[go_sem] abbrev geM:FuncId:=42
@[go_sem] def zcK:Tab:=[(111,wA)]
theorem jbw:za Tryz.prog zcK:=(za.cons kK za.nil)
theorem zcf (l:List Rk) (id:Nat):ja Tryz.prog 42 [.sl (rks l), .c (.int .u64 (id:Int))] (bbS l id):=by
 refine .of (gfl jbw (Nat.le_of_ble_eq_true rfl) ?_)
 simp -implicitDefEqProofs only [cdA,go_sem,Go.Proofs.Tryz.f42,simprocAttr, -Int.reduceEq,List.cons.injEq,cdB]
 refine⟨fun h=>⟨by have:=(vr h).2.2.1;omega, ?_⟩,fun h=> ?_⟩
 ·rw [bao,if_pos h];exact⟨rfl,rfl⟩
 ·rw [bao,if_neg h];exact⟨rfl,rfl⟩
def vag:List D→Option (Prop×D×Fr)
 |[.c (.sl z20), .c (.int .u64 z21)]=>some (z20=rks (gb z20)∧z21=(z21.toNat:Int),bbS (gb z20) z21.toNat,[])
 |_=>none
attribute [go_sem] vag
theorem kba:ga 42 vag:=by
 intro rs p r fr h hp
 unfold vag at h
 split at h<;>cases h
 obtain⟨hc0,hc1⟩:=hp
 rename_i z20 z21
 have:=zcf (gb z20) z21.toNat
 rw [←hc0,←hc1]at this
 exact this
end Dm
namespace Dm
open Go Go.Proofs Go.IntWalk
def ltC (a b:Nat×Nat):Prop:=a.1<b.1∨(a.1=b.1∧a.2<b.2)
instance:DecidableRel ltC:=fun a b=>by unfold ltC;infer_instance
theorem yc6:Srt.Tot ltC:=⟨fun a=>by unfold ltC;omega,fun h h'=>by unfold ltC at*;omega,fun a b=>by
 unfold ltC
 have:a=b↔a.1=b.1∧a.2=b.2:=Prod.ext_iff
 rw [this];omega⟩
def Ct.key (c:Ct):Nat×Nat:=(c.root,c.b)
def zbq (a b:Ct):Int:=orS [vai a.root b.root,vai a.b b.b]
theorem gaN {a b:Ct}:zbq a b<0↔ltC a.key b.key:=by
 unfold zbq orS ltC Ct.key vai
 by_cases h1:(a.root:Int)<b.root
 ·simp [h1];omega
 ·by_cases h2:(b.root:Int)<a.root
  ·simp [h1,h2];omega
  ·by_cases h3:(a.b:Int)<b.b
   ·simp [h1,h2,h3];omega
   ·by_cases h4:(b.b:Int)<a.b
    ·simp [h1,h2,h3,h4];omega
    ·simp [h1,h2,h3,h4];omega
theorem ucE {a b:Ct}:zbq a b=0↔a.key=b.key:=by
 have hk:a.key=b.key↔a.root=b.root∧a.b=b.b:=Prod.ext_iff
 rw [hk]
 unfold zbq orS vai
 by_cases h1:(a.root:Int)<b.root
 ·simp [h1];omega
 ·by_cases h2:(b.root:Int)<a.root
  ·simp [h1,h2];omega
  ·by_cases h3:(a.b:Int)<b.b
   ·simp [h1,h2,h3];omega
   ·by_cases h4:(b.b:Int)<a.b
    ·simp [h1,h2,h3,h4];omega
    ·simp [h1,h2,h3,h4];omega
@[go_sem] def zaX (a:Ct) (b:Ct):D:= .int .i64 (zbq a b)
@[go_sem] abbrev qdp:FuncId:=166
@[go_sem] def ubU:Tab:=[(225,gP),(226,gad)]
theorem uab:za Tryz.prog ubU:=(za.cons wu (za.cons wa7 za.nil))
theorem qbz (a:Ct) (b:Ct):ja Tryz.prog 166 [.agg [.c (.int .u64 (a.root:Int)), .c (.int .u64 (a.b:Int)), .c (.int .u64 (a.n:Int))], .agg [.c (.int .u64 (b.root:Int)), .c (.int .u64 (b.b:Int)), .c (.int .u64 (b.n:Int))]] (zaX a b):=by
 refine .of (xef uab (Nat.le_of_ble_eq_true rfl) ?_)
 simp -implicitDefEqProofs only [cdA,go_sem,Go.Proofs.Tryz.f166,simprocAttr, -Int.reduceEq,List.cons.injEq,cdB]
 refine xb.run xcN uab qa (by kernel_rfl) (by kernel_rfl) ?_
 simp -implicitDefEqProofs only [cdA,go_sem,simprocAttr, -Int.reduceEq,List.cons.injEq,cdB]
 rfl
def bA:List D→Option (Prop×D×Fr)
 |[.agg [.c (.int .u64 z2), .c (.int .u64 z3), .c (.int .u64 z4)], .agg [.c (.int .u64 z6), .c (.int .u64 z7), .c (.int .u64 z8)]]=>some (z2=(z2.toNat:Int)∧z3=(z3.toNat:Int)∧z4=(z4.toNat:Int)∧z6=(z6.toNat:Int)∧z7=(z7.toNat:Int)∧z8=(z8.toNat:Int),zaX (⟨z2.toNat,z3.toNat,z4.toNat⟩:Ct) (⟨z6.toNat,z7.toNat,z8.toNat⟩:Ct),[])
 |_=>none
attribute [go_sem] bA
theorem jY:ga 166 bA:=by
 intro rs p r fr h hp
 unfold bA at h
 split at h<;>cases h
 obtain⟨hc0,hc1,hc2,hc3,hc4,hc5⟩:=hp
 rename_i z2 z3 z4 z6 z7 z8
 have:=qbz ⟨z2.toNat,z3.toNat,z4.toNat⟩ ⟨z6.toNat,z7.toNat,z8.toNat⟩
 rw [←hc0,←hc1,←hc2,←hc3,←hc4,←hc5]at this
 exact this
def xP (m:List (Nat×Int)) (c:Cv):List (Nat×Int):=if c.kind=4 then(match nlk c.b m with
 |some n=>if(c.a:Int)<n then qaN c.b c.a m else m
 |none=>qaN c.b c.a m)else m
def vZ (l:List Cv):List (Nat×Int)×Int:=if l.length≤16∧l.all (fun c=>decide (ko c=0))=true then(l.foldl xP [],0)else([],1)
theorem wcj {c:Cv} (h:¬ko c=0):ko c=1:=by unfold ko at*;split<;>simp_all
@[go_sem] def ubk (l:List Cv):D:= .tup [.c (.map [.int .u64] (kvF .u64 .u64 (vZ l).1)), .int .i64 (vZ l).2]
@[go_sem] abbrev gdT:FuncId:=196
@[go_sem] def ucf:Tab:=[(58,xh)]
theorem gan:za Tryz.prog ucf:=(za.cons wh za.nil)
theorem jbU (l:List Cv):ja Tryz.prog 196 [.sl (cvs l)] (ubk l):=by
 refine .of (weh gan (Nat.le_of_ble_eq_true rfl) ?_)
 simp -implicitDefEqProofs only [cdA,go_sem,Go.Proofs.Tryz.f196,simprocAttr, -Int.reduceEq,List.cons.injEq,cdB]
 refine fun hl=>⟨fun h1=> ?_,fun h1 _=> ?_⟩
 ·rw [vZ,if_neg (by omega)];exact⟨rfl,rfl⟩
 ·refine SWp.loop (ι:={i:Nat // i≤l.length∧∀j,j<i→ko (l.getD j default)=0}) (fun i=>⟨[(4, .mp 0),(14, .sl (cvs l)),(15, .int .i64 l.length),(16, .int .i64 i.1)],[(0, .map [.int .u64] (kvN .u64 .u64 ((l.take i.1).foldl xP [])))],1⟩) (fun i=>l.length - i.1) ⟨0,by simp⟩ ?_ ?_
  ·simp [go_sem];rfl
  ·rintro⟨i,hi,hall⟩
   refine ya gan.toS qdj _ _ _ rfl ?_
   simp -implicitDefEqProofs only [cdA,go_sem,simprocAttr, -Int.reduceEq,List.cons.injEq,cdB]
   refine⟨fun h=>⟨by omega,fun hc=> ?_,fun hc=> ?_⟩,fun h=> ?_⟩
   ·have hi':i<l.length:=by omega
    have hs:(l.take (i+1)).foldl xP []=xP ((l.take i).foldl xP []) (l.getD i default):=by rw [take_succ hi',List.foldl_append];rfl
    have hn:∀m,m=(l.take (i+1)).foldl xP []→∃i_1:{i:Nat // i≤l.length∧∀j,j<i→ko (l.getD j default)=0},l.length - i_1.val<l.length - i∧IntKind.i64.wrap (↑i+1)= ↑i_1.val∧kvN .u64 .u64 m=kvN .u64 .u64 ((l.take i_1.val).foldl xP []):=fun m hm=>
     ⟨⟨i+1,hi',fun j hj=>by
       by_cases hji:j=i
       ·subst hji;exact hc
       ·exact hall j (by omega)⟩,by dsimp only;omega,i64_in _ (by omega),congrArg _ hm⟩
    rw [xP]at hs
    refine⟨fun h4=>⟨fun a ha=>⟨fun h5=>hn _ ?_,fun h5=>hn _ ?_⟩,fun ha=>hn _ ?_⟩,fun h4=>hn _ ?_⟩
    ·rw [hs,if_pos h4,ha];exact(if_pos h5).symm
    ·rw [hs,if_pos h4,ha];exact(if_neg h5).symm
    ·rw [hs,if_pos h4,ha]
    ·rw [hs,if_neg h4]
   ·have hb:vZ l=([],1):=by
     rw [vZ,if_neg]
     rintro⟨_,h2⟩
     have:=List.all_eq_true.1 h2 _ (va.2 ⟨i,by omega,rfl⟩)
     exact hc (by simpa using this)
    rw [hb];exact⟨rfl,wcj hc⟩
   ·have hi':i=l.length:=by omega
    subst hi'
    have hb:vZ l=(l.foldl xP [],0):=by
     rw [vZ,if_pos]
     refine⟨by omega,List.all_eq_true.2 fun x hx=> ?_⟩
     obtain⟨j,hj,rfl⟩:=va.1 hx
     simpa using hall j hj
    rw [hb,List.take_length]
    exact⟨⟨_,_,rfl,uaj, .refl _⟩,rfl⟩
def xY:List D→Option (Prop×D×Fr)
 |[.c (.sl z9)]=>some (z9=cvs (uc z9),ubk (uc z9),[])
 |_=>none
attribute [go_sem] xY
theorem yaW:ga 196 xY:=by
 intro rs p r fr h hp
 unfold xY at h
 split at h<;>cases h
 have hc0:=hp
 rename_i z9
 have:=jbU (uc z9)
 rw [←hc0]at this
 exact this
def jeO (l:List Ct):Prop:=Srt.Chn Ct.key ltC l∧∀c∈l,¬c.n=0∧c.n≤4611686018427387904
instance (l:List Ct):Decidable (jeO l):=by unfold jeO;infer_instance
def vk (l:List Ct):Int:=if l.length≤128∧jeO l then 0 else 1
@[go_sem] def vaW (l:List Ct):D:= .int .i64 (vk l)
@[go_sem] abbrev ydp:FuncId:=85
@[go_sem] def kbU:Tab:=[(122,yf),(166,bA)]
theorem uK:za Tryz.prog kbU:=(za.cons we (za.cons jY za.nil))
theorem ybz (l:List Ct):ja Tryz.prog 85 [.sl (cts l)] (vaW l):=by
 refine .of (kfp uK (Nat.le_of_ble_eq_true rfl) ?_)
 simp -implicitDefEqProofs only [cdA,go_sem,Go.Proofs.Tryz.f85,simprocAttr, -Int.reduceEq,List.cons.injEq,cdB]
 refine fun hl=>⟨fun h1=> ?_,fun h1 _=> ?_⟩
 ·rw [vk,if_neg (by omega)]
 ·refine SWp.loop (ι:={i:Nat // i≤l.length∧∀j,j<i→(0<j→ltC (l.getD (j - 1) default).key (l.getD j default).key)∧¬(l.getD j default).n=0∧(l.getD j default).n≤4611686018427387904}) (fun i=>⟨[(0, .sl (cts l)),(8, .sl (cts l)),(9, .int .i64 l.length),(10, .int .i64 i.1)],[],0⟩) (fun i=>l.length - i.1) ⟨0,by simp⟩ ?_ ?_
  ·simp [go_sem]
  ·rintro⟨i,hi,hall⟩
   refine ya uK.toS qfa _ _ _ rfl ?_
   simp -implicitDefEqProofs only [cdA,go_sem,simprocAttr, -Int.reduceEq,List.cons.injEq,cdB]
   refine⟨fun h=>⟨by omega, ?_⟩,fun h=> ?_⟩
   ·have hi':i<l.length:=by omega
    refine xb.run vdy uK qa (by kernel_rfl) (by kernel_rfl) ?_
    simp -implicitDefEqProofs only [cdA,go_sem,simprocAttr, -Int.reduceEq,List.cons.injEq,cdB]
    have hbad:¬((0<i→ltC (l.getD (i - 1) default).key (l.getD i default).key)∧¬(l.getD i default).n=0∧(l.getD i default).n≤4611686018427387904)→1=vk l:=fun hb=>by
     rw [vk,if_neg]
     rintro⟨_,h2,h3⟩
     exact hb ⟨fun h0=>h2 i hi' h0,h3 _ (va.2 ⟨i,hi',rfl⟩)⟩
    have hnext:(0<i→ltC (l.getD (i - 1) default).key (l.getD i default).key)→¬(l.getD i default).n=0∧(l.getD i default).n≤4611686018427387904→∃i_1:{i:Nat // i≤l.length∧∀j,j<i→(0<j→ltC (l.getD (j - 1) default).key (l.getD j default).key)∧¬(l.getD j default).n=0∧(l.getD j default).n≤4611686018427387904},l.length - i_1.val<l.length - i∧IntKind.i64.wrap (↑i+1)= ↑i_1.val:=fun ha hb=>
     ⟨⟨i+1,hi',fun j hj=>by
       by_cases hji:j=i
       ·subst hji;exact⟨ha,hb⟩
       ·exact hall j (by omega)⟩,by dsimp only;omega,i64_in _ (by omega)⟩
    rw [gG]
    have ho:∀a b,0≤zbq a b↔¬ltC a.key b.key:=fun a b=>by rw [←gaN];omega
    simp only [ho,Classical.not_not]
    refine⟨fun h2=>⟨fun h3=>⟨fun h4=> ?_,fun h4=>hnext (fun h=>absurd h (by omega)) ⟨by omega,h3⟩⟩,fun h3=>hbad fun h=>h3 h.2.2⟩,fun h2=>hbad fun h=>h.2.1 (by omega)⟩
    rw [i64_in _ (by omega),show((i:Int) - 1).toNat=i - 1 by omega]
    exact⟨by omega,fun h5=>hbad fun h=>h5 (h.1 (by omega)),fun h5=>hnext (fun _=>h5) ⟨by omega,h3⟩⟩
   ·have hi':i=l.length:=by omega
    subst hi'
    rw [vk,if_pos]
    refine⟨by omega,fun j hj h0=>(hall j hj).1 h0,fun c hc=> ?_⟩
    obtain⟨j,hj,rfl⟩:=va.1 hc
    exact(hall j hj).2
def gA:List D→Option (Prop×D×Fr)
 |[.c (.sl z10)]=>some (z10=cts (qd z10),vaW (qd z10),[])
 |_=>none
attribute [go_sem] gA
theorem qY:ga 85 gA:=by
 intro rs p r fr h hp
 unfold gA at h
 split at h<;>cases h
 have hc0:=hp
 rename_i z10
 have:=ybz (qd z10)
 rw [←hc0]at this
 exact this
@[go_sem] def yaX (l:List Ct) (root:Nat) (b:Nat):D:= .tup [.int .u64 (((Srt.fnd Ct.key l (root,b)).map Ct.n).getD 0:Nat), .int .i64 (Srt.pos Ct.key ltC l (root,b):Nat), .bool (Srt.thr Ct.key ltC l (root,b))]
@[go_sem] abbrev jdp:FuncId:=197
@[go_sem] def gbU:Tab:=[(166,bA)]
theorem qq:za Tryz.prog gbU:=(za.cons jY za.nil)
theorem jbz (l:List Ct) (root:Nat) (b:Nat) (h:Srt.Up Ct.key ltC l):ja Tryz.prog 197 [.sl (cts l), .c (.int .u64 (root:Int)), .c (.int .u64 (b:Int))] (yaX l root b):=by
 refine .of (ueh qq (Nat.le_of_ble_eq_true rfl) ?_)
 simp -implicitDefEqProofs only [cdA,go_sem,Go.Proofs.Tryz.f197,simprocAttr, -Int.reduceEq,List.cons.injEq,cdB]
 refine kel qq (Nat.le_of_ble_eq_true rfl) ?_
 simp -implicitDefEqProofs only [cdA,go_sem,Go.Proofs.Tryz.f242,simprocAttr, -Int.reduceEq,List.cons.injEq,cdB]
 refine fun _=>SWp.loop (ι:={x:Nat×Nat // x.1≤x.2∧x.2≤l.length∧(∀k,k<x.1→ltC (l.getD k default).key (root,b))∧∀k,x.2≤k→k<l.length→¬ltC (l.getD k default).key (root,b)}) (fun x=>⟨[(0, .sl (cts l)),(2, .fn (.func 166) [] []),(4, .ref 0 0),(8, .int .i64 l.length),(9, .int .i64 x.1.1),(10, .int .i64 x.1.2)],[(0, .box [.int .u64 root, .int .u64 b, .int .u64 0])],1⟩) (fun x=>x.1.2 - x.1.1) ⟨(0,l.length),by simp,by simp,fun k hk=>absurd hk (by simp),fun k h1 h2=>absurd h1 (by simpa using h2)⟩ ?_ ?_
 ·simp [go_sem]
 ·rintro⟨⟨i,j⟩,hij,hj,hlo,hup⟩
  dsimp only at hij hj hlo hup
  refine ya qq.toS gdk _ _ _ rfl ?_
  simp -implicitDefEqProofs only [cdA,go_sem,simprocAttr, -Int.reduceEq,List.cons.injEq,cdB]
  rw [gcm hij hj ‹_›]
  refine⟨fun h4=> ?_,fun h4=> ?_⟩
  ·have hm:(i+j) / 2<l.length:=by omega
   refine xb.run ucO qq qa (by kernel_rfl) (by kernel_rfl) ?_
   simp -implicitDefEqProofs only [cdA,go_sem,simprocAttr, -Int.reduceEq,List.cons.injEq,cdB]
   rw [gaN]
   refine⟨by omega,fun h5=>⟨⟨((i+j) / 2+1,j),by dsimp only;omega,hj,fun k hk=> ?_,hup⟩,by dsimp only;omega,i64_in _ (by omega),rfl⟩,fun h5=>⟨⟨(i,(i+j) / 2),by dsimp only;omega,by dsimp only;omega,hlo,fun k hk1 hk2=> ?_⟩,by dsimp only;omega,rfl,rfl⟩⟩
   ·dsimp only at hk
    by_cases hkm:k=(i+j) / 2
    ·rw [hkm];exact h5
    ·exact yc6.tr (Srt.jB.1 h k _ (by omega) hm) h5
   ·dsimp only at hk1
    by_cases hkm:k=(i+j) / 2
    ·rw [hkm];exact h5
    ·exact fun h6=>h5 (yc6.tr (Srt.jB.1 h _ k (by omega) hk2) h6)
  ·refine xb.run gcO qq qa (by kernel_rfl) (by kernel_rfl) ?_
   simp -implicitDefEqProofs only [cdA,go_sem,simprocAttr, -Int.reduceEq,List.cons.injEq,cdB]
   have hp:Srt.pos Ct.key ltC l (root,b)=i:=Srt.pos_eq (by omega) hlo (fun h=>hup i (by omega) h)
   rw [Srt.xa0 yc6 h,Srt.thr,hp,ucE]
   refine⟨fun h5=>⟨by omega,fun h6=>⟨by omega, ?_⟩,fun h6=> ?_⟩,fun h5=> ?_⟩
   ·have h7:i<l.length∧(l.getD i default).key=(root,b):=⟨by omega,h6⟩
    rw [decide_eq_true h7];exact⟨rfl,rfl,rfl⟩
   ·have h7:¬(i<l.length∧(l.getD i default).key=(root,b)):=fun h=>h6 h.2
    rw [decide_eq_false h7];exact⟨rfl,rfl,rfl⟩
   ·have h7:¬(i<l.length∧(l.getD i default).key=(root,b)):=fun h=>by omega
    rw [decide_eq_false h7];exact⟨rfl,rfl,rfl⟩
@[go_sem] def bbU (l:List Ct) (root:Nat) (b:Nat):Prop:=(Srt.Up Ct.key ltC l)
def jO:List D→Option (Prop×D×Fr)
 |[.c (.sl z11), .c (.int .u64 z12), .c (.int .u64 z13)]=>some (z11=cts (qd z11)∧z12=(z12.toNat:Int)∧z13=(z13.toNat:Int)∧bbU (qd z11) z12.toNat z13.toNat,yaX (qd z11) z12.toNat z13.toNat,[])
 |_=>none
attribute [go_sem] jO
theorem jaG:ga 197 jO:=by
 intro rs p r fr h hp
 unfold jO at h
 split at h<;>cases h
 obtain⟨hc0,hc1,hc2,hp⟩:=hp
 rename_i z11 z12 z13
 have:=jbz (qd z11) z12.toNat z13.toNat hp
 rw [←hc0,←hc1,←hc2]at this
 exact this
@[go_sem] def uaW (l:List Ct):D:= .vec 0 l.length
@[go_sem] def xaz (l:List Ct):Fr:=[(3,160,true,cts l)]
@[go_sem] abbrev xdp:FuncId:=136
@[go_sem] def vbU:Tab:=[]
theorem waW:za Tryz.prog vbU:=za.nil
theorem xbz (l:List Ct) (hl:l.length≤1000000):zf Tryz.prog 136 [.sl (cts l)] (uaW l) (xaz l):=by
 refine .of (uec waW (Nat.le_of_ble_eq_true rfl) ?_)
 simp -implicitDefEqProofs only [cdA,go_sem,Go.Proofs.Tryz.f136,simprocAttr, -Int.reduceEq,List.cons.injEq,cdB]
 refine fun b hb=>⟨fun h=> ?_,fun h=> ?_⟩
 ·exact⟨[none],by simp [go_sem,hb h],by cases l<;>simp_all [go_sem,cts]⟩
 ·exact⟨by omega,[some 0],by simp [go_sem]⟩
@[go_sem] def wbU (l:List Ct):Prop:=(l.length≤1000000)
def qO:List D→Option (Prop×D×Fr)
 |[.c (.sl z14)]=>some (z14=cts (qd z14)∧wbU (qd z14),uaW (qd z14),xaz (qd z14))
 |_=>none
attribute [go_sem] qO
theorem qaG:ga 136 qO:=by
 intro rs p r fr h hp
 unfold qO at h
 split at h<;>cases h
 obtain⟨hc0,hp⟩:=hp
 rename_i z14
 have:=xbz (qd z14) hp
 rw [←hc0]at this
 exact And.intro rfl this
theorem jai {l:List Ct} (h:vk l=0):l.length≤128∧Srt.Up Ct.key ltC l∧∀c∈l,¬c.n=0∧c.n≤4611686018427387904:=by
 unfold vk at h
 split at h
 ·rename_i h1;exact⟨h1.1,(Srt.kai yc6).1 h1.2.1,h1.2.2⟩
 ·cases h
def wg (l:List Ct) (root b:Nat):Nat:=((Srt.fnd Ct.key l (root,b)).map Ct.n).getD 0
def gaW (l:List Ct) (root b:Nat):Nat×Int:=if vk l=0 then(wg l root b,0)else(0,1)
def js (l:List Ct) (root:Nat) (cav:List Cv) (n:Nat):List (Nat×Int)×Int:=
 if(vZ cav).2=0∧vk l=0∧n≤4611686018427387904 then
  (if(vZ cav).1.all (fun x=>decide ((wg l root x.1:Int)+n≤4611686018427387904∧(wg l root x.1:Int)+n≤x.2))=true then((vZ cav).1.map fun x=>(x.1,(wg l root x.1:Int)+n),0)else([],8))
 else([],1)
theorem vcj (l:List Cv):((vZ l).1.map (·.1)).Nodup:=by
 have:∀(l:List Cv) (m:List (Nat×Int)),(m.map (·.1)).Nodup→((l.foldl xP m).map (·.1)).Nodup:=by
  intro l
  induction l with
  |nil=>exact fun m h=>h
  |cons c l ih=>
   intro m h
   refine ih _ ?_
   unfold xP
   split
   ·split
    ·split
     ·exact jaC h
     ·exact h
    ·exact jaC h
   ·exact h
 unfold vZ
 split
 ·exact this l [] (by simp)
 ·simp
theorem qen {a b:Nat} (ha:a≤4611686018427387904) (hb:b≤4611686018427387904):uR [a,b]=if a+b≤4611686018427387904 then(a+b,0)else(0,8):=by
 have:bO [a,b]=0:=by simp [bO,ha,hb]
 have e:[a,b].sum=a+b:=by simp
 rw [uR,if_pos this,e]
theorem wco {l:List Ct} (h:vk l=0) (root b:Nat):wg l root b≤4611686018427387904:=by
 unfold wg
 cases hf:Srt.fnd Ct.key l (root,b)with
 |none=>simp
 |some c=>exact((jai h).2.2 c ((Srt.qaB yc6 (jai h).2.1).1 hf).1).2
@[go_sem] def gbk (l:List Ct) (root:Nat) (cav:List Cv) (n:Nat):D:= .tup [.c (.map [.int .u64] (kvF .u64 .u64 (js l root cav n).1)), .int .i64 (js l root cav n).2]
@[go_sem] abbrev bdT:FuncId:=114
@[go_sem] def gcf:Tab:=[(196,xY),(85,gA),(122,yf),(197,jO),(198,gu)]
theorem ban:za Tryz.prog gcf:=(za.cons yaW (za.cons qY (za.cons we (za.cons jaG (za.cons gw za.nil)))))
theorem zbV (l:List Ct) (root:Nat) (cav:List Cv) (n:Nat):ja Tryz.prog 114 [.sl (cts l), .c (.int .u64 (root:Int)), .sl (cvs cav), .c (.int .u64 (n:Int))] (gbk l root cav n):=by
 refine .of (bea ban (Nat.le_of_ble_eq_true rfl) ?_)
 simp -implicitDefEqProofs only [cdA,go_sem,Go.Proofs.Tryz.f114,simprocAttr, -Int.reduceEq,List.cons.injEq,cdB]
 rw [gG]
 refine⟨fun h1=>⟨fun h2=>⟨fun h3=> ?_,fun h3=> ?_⟩,fun h2=> ?_⟩,fun h1=> ?_⟩
 ·have hnd:=vcj cav
  have hs:js l root cav n=if(vZ cav).1.all (fun x=>decide ((wg l root x.1:Int)+n≤4611686018427387904∧(wg l root x.1:Int)+n≤x.2))=true then((vZ cav).1.map fun x=>(x.1,(wg l root x.1:Int)+n),0)else([],8):=by rw [js,if_pos ⟨h1,h2,h3⟩]
  rw [hs]
  generalize (vZ cav).1=m at*
  refine SWp.loop (ι:={sn:List (Nat×Int) // sn.Nodup∧(∀x∈sn,x∈m)∧∀x∈sn,(wg l root x.1:Int)+n≤4611686018427387904∧(wg l root x.1:Int)+n≤x.2}) (fun sn=>⟨[(0, .sl (cts l)),(1, .int .u64 root),(3, .int .u64 n),(12, .mp 1),(40, .ref 2 0)],
   [(2, .it (kvF .u64 .u64 m) (kvF .u64 .u64 sn.1)),(1, .map [.int .u64] (kvN .u64 .u64 (sn.1.map fun x=>(x.1,(wg l root x.1:Int)+n))))],3⟩) (fun sn=>m.length - sn.1.length) ⟨[],by simp⟩ ?_ ?_
  ·simp [go_sem];exact⟨rfl,rfl⟩
  ·rintro⟨sn,hsn,hsm,hok⟩
   refine ya ban.toS bdg _ _ _ rfl ?_
   simp -implicitDefEqProofs only [cdA,go_sem,simprocAttr, -Int.reduceEq,List.cons.injEq,cdB]
   have hfail:∀a b,(a,b)∈m→¬((wg l root a:Int)+n≤4611686018427387904∧(wg l root a:Int)+n≤b)→m.all (fun x=>decide ((wg l root x.1:Int)+n≤4611686018427387904∧(wg l root x.1:Int)+n≤x.2))=false:=fun a b hab hn=>by
    rw [List.all_eq_false]
    exact⟨_,hab,by simpa using hn⟩
   refine⟨fun a b hab hns=>⟨(jai h2).2.1, ?_⟩,fun hall=> ?_⟩
   ·rw [show((Srt.fnd Ct.key l (root,a)).map Ct.n).getD 0=wg l root a from rfl,qen (wco h2 root a) h3]
    by_cases h4:wg l root a+n≤4611686018427387904
    ·rw [if_pos h4]
     refine⟨fun _=>⟨fun h5=> ?_,fun h5=> ?_⟩,fun h=>absurd rfl h⟩
     ·rw [hfail a b hab (by dsimp only at h5;omega)];exact⟨rfl,rfl⟩
     ·dsimp only at h5
      refine⟨⟨sn++[(a,b)],bcm hsn hns,fun x hx=> ?_,fun x hx=> ?_⟩, ?_,rfl, ?_⟩
      ·rcases List.mem_append.1 hx with hx|hx
       ·exact hsm x hx
       ·simp at hx;subst hx;exact hab
      ·rcases List.mem_append.1 hx with hx|hx
       ·exact hok x hx
       ·simp at hx;subst hx;exact⟨by dsimp only;omega,by dsimp only;omega⟩
      ·have:=List.Nodup.length_le_of_subset (bcm hsn hns) (l₂:=m) (fun x hx=>by
        rcases List.mem_append.1 hx with hx|hx
        ·exact hsm x hx
        ·simp at hx;subst hx;exact hab)
       simp at this⊢
       omega
      ·have hk:a∉(sn.map fun x=>(x.1,(wg l root x.1:Int)+n)).map (·.1):=by
        rw [List.map_map];exact ydq hnd hsm hab hns
       rw [kaC hk,List.map_append];simp
    ·rw [if_neg h4]
     refine⟨fun h=>absurd h (by decide),fun _=> ?_⟩
     rw [hfail a b hab (by omega)];exact⟨rfl,rfl⟩
   ·have hp:sn.Perm m:=(List.perm_ext_iff_of_nodup hsn (gbp hnd)).2 fun x=>⟨hsm x,fun hx=>hall x.1 x.2 hx⟩
    rw [if_pos (List.all_eq_true.2 fun x hx=>by simpa using hok x (hp.mem_iff.2 hx))]
    exact⟨⟨_,_,rfl,uaj,ub6 (hp.map _)⟩,rfl⟩
 ·rw [js,if_neg (fun h=>h3 h.2.2)];exact⟨rfl,rfl⟩
 ·rw [js,if_neg (fun h=>h2 h.2.1)];exact⟨rfl,rfl⟩
 ·rw [js,if_neg (fun h=>h1 h.1)];exact⟨rfl,rfl⟩
def kY:List D→Option (Prop×D×Fr)
 |[.c (.sl z15), .c (.int .u64 z16), .c (.sl z17), .c (.int .u64 z18)]=>some (z15=cts (qd z15)∧z16=(z16.toNat:Int)∧z17=cvs (uc z17)∧z18=(z18.toNat:Int),gbk (qd z15) z16.toNat (uc z17) z18.toNat,[])
 |_=>none
attribute [go_sem] kY
theorem xaW:ga 114 kY:=by
 intro rs p r fr h hp
 unfold kY at h
 split at h<;>cases h
 obtain⟨hc0,hc1,hc2,hc3⟩:=hp
 rename_i z15 z16 z17 z18
 have:=zbV (qd z15) z16.toNat (uc z17) z18.toNat
 rw [←hc0,←hc1,←hc2,←hc3]at this
 exact this
def uao (l:List Ct) (root:Nat) (cav:List Cv) (n:Nat):Bool×Int:=if(js l root cav n).2=8 then(false,0)else(decide ((js l root cav n).2=0),(js l root cav n).2)
@[go_sem] def zbU (l:List Ct) (root:Nat) (cav:List Cv) (n:Nat):D:= .tup [.bool (uao l root cav n).1, .int .i64 (uao l root cav n).2]
@[go_sem] abbrev qeN:FuncId:=48
@[go_sem] def ycL:Tab:=[(114,kY)]
theorem zbx:za Tryz.prog ycL:=(za.cons xaW za.nil)
theorem wcf (l:List Ct) (root:Nat) (cav:List Cv) (n:Nat):ja Tryz.prog 48 [.sl (cts l), .c (.int .u64 (root:Int)), .sl (cvs cav), .c (.int .u64 (n:Int))] (zbU l root cav n):=by
 refine .of (jfm zbx (Nat.le_of_ble_eq_true rfl) ?_)
 simp -implicitDefEqProofs only [cdA,go_sem,Go.Proofs.Tryz.f48,simprocAttr, -Int.reduceEq,List.cons.injEq,cdB]
 refine⟨fun h=> ?_,fun h=> ?_⟩
 ·rw [uao,if_pos h];exact⟨rfl,rfl⟩
 ·rw [uao,if_neg h];exact⟨rfl,rfl⟩
def zah:List D→Option (Prop×D×Fr)
 |[.c (.sl z19), .c (.int .u64 z20), .c (.sl z21), .c (.int .u64 z22)]=>some (z19=cts (qd z19)∧z20=(z20.toNat:Int)∧z21=cvs (uc z21)∧z22=(z22.toNat:Int),zbU (qd z19) z20.toNat (uc z21) z22.toNat,[])
 |_=>none
attribute [go_sem] zah
theorem bba:ga 48 zah:=by
 intro rs p r fr h hp
 unfold zah at h
 split at h<;>cases h
 obtain⟨hc0,hc1,hc2,hc3⟩:=hp
 rename_i z19 z20 z21 z22
 have:=wcf (qd z19) z20.toNat (uc z21) z22.toNat
 rw [←hc0,←hc1,←hc2,←hc3]at this
 exact this
end Dm
namespace Dm
open Go Go.Proofs Go.IntWalk
def vao (r:Rq):Nat×Int:=if rqS r=0 then(if r.method=1 then(r.n,0)else if r.method=2 then jah r.items else(0,0))else(0,rqS r)
@[go_sem] def bc8 (r:Rq):D:= .tup [.int .u64 ((vao r).1:Nat), .int .i64 (vao r).2]
@[go_sem] abbrev ufx:FuncId:=57
@[go_sem] def jen:Tab:=[(120,xO),(121,uam)]
theorem gbY:za Tryz.prog jen:=(za.cons zaG (za.cons uay za.nil))
theorem gc8 (r:Rq):ja Tryz.prog 57 [.agg [.c (.int .u64 (r.id:Int)), .c (.int .i64 r.method), .c (.int .u64 (r.key:Int)), .c (.int .u64 (r.t.root:Int)), .sl (cvs r.t.l), .c (.int .i64 r.t.tag), .c (.int .u64 (r.a:Int)), .c (.int .u64 (r.n:Int)), .c (.int .u64 (r.till:Int)), .sl (its r.items), .sl (cvs r.l)]] (bc8 r):=by
 refine .of (xfn gbY (Nat.le_of_ble_eq_true rfl) ?_)
 simp -implicitDefEqProofs only [cdA,go_sem,Go.Proofs.Tryz.f57,simprocAttr, -Int.reduceEq,List.cons.injEq,cdB]
 refine⟨fun h=>⟨fun h1=> ?_,fun h1=>⟨fun h2=> ?_,fun h2=> ?_⟩⟩,fun h=> ?_⟩
 ·rw [vao,if_pos h,if_pos h1];exact⟨rfl,rfl⟩
 ·rw [vao,if_pos h,if_neg h1,if_pos h2];exact⟨rfl,rfl⟩
 ·rw [vao,if_pos h,if_neg h1,if_neg h2];exact⟨rfl,rfl⟩
 ·rw [vao,if_neg h];exact⟨rfl,rfl⟩
def kbk:List D→Option (Prop×D×Fr)
 |[.agg [.c (.int .u64 z2), .c (.int .i64 z3), .c (.int .u64 z4), .c (.int .u64 z6), .c (.sl z7), .c (.int .i64 z8), .c (.int .u64 z9), .c (.int .u64 z10), .c (.int .u64 z11), .c (.sl z12), .c (.sl z13)]]=>some (z2=(z2.toNat:Int)∧z4=(z4.toNat:Int)∧z6=(z6.toNat:Int)∧z7=cvs (uc z7)∧z9=(z9.toNat:Int)∧z10=(z10.toNat:Int)∧z11=(z11.toNat:Int)∧z12=its (zk z12)∧z13=cvs (uc z13),bc8 (⟨z2.toNat,z3,z4.toNat,(⟨z6.toNat,(uc z7),z8⟩:Tk),z9.toNat,z10.toNat,z11.toNat,(zk z12),(uc z13)⟩:Rq),[])
 |_=>none
attribute [go_sem] kbk
theorem ybU:ga 57 kbk:=by
 intro rs p r fr h hp
 unfold kbk at h
 split at h<;>cases h
 obtain⟨hc0,hc1,hc2,hc3,hc4,hc5,hc6,hc7,hc8⟩:=hp
 rename_i z2 z3 z4 z6 z7 z8 z9 z10 z11 z12 z13
 have:=gc8 ⟨z2.toNat,z3,z4.toNat,⟨z6.toNat,(uc z7),z8⟩,z9.toNat,z10.toNat,z11.toNat,(zk z12),(uc z13)⟩
 rw [←hc0,←hc1,←hc2,←hc3,←hc4,←hc5,←hc6,←hc7,←hc8]at this
 exact this
structure Bk where
 w:Wl
 a:Ar
 r:List Rk
 k:List Ky
 s:List Ct
deriving DecidableEq,Inhabited
@[go_sem] def Bk.enc (e:Bk):List C:=[.sl (chs e.w.c), .sl (wts e.w.w), .sl (ivs e.w.i), .sl (pys e.w.p), .int .u64 (e.w.f.next:Int), .sl (evs e.w.f.l), .int .u64 (e.w.next:Int), .int .u64 (e.w.tick:Int), .sl (tms e.a.l), .sl (rks e.r), .sl (kys e.k), .sl (cts e.s)]
def Bk.dec:List C→Bk
 |[.sl z16, .sl z17, .sl z18, .sl z19, .int .u64 z21, .sl z22, .int .u64 z23, .int .u64 z24, .sl z26, .sl z27, .sl z28, .sl z29]=>(⟨(⟨(yb z16),(jd z17),(qc z18),(vb z19),(⟨z21.toNat,(jb z22)⟩:Fd),z23.toNat,z24.toNat⟩:Wl),(⟨(qb z26)⟩:Ar),(gb z27),(je z28),(qd z29)⟩:Bk)
 |_=>default
def bks (l:List Bk):List (List C):=l.map Bk.enc
def ke5 (l:List (List C)):List Bk:=l.map Bk.dec
@[simp,go_sem] theorem jcS (l:List Bk):(bks l).length=l.length:=by simp [bks]
@[go_sem] theorem zeq (l:List Bk) (i:Nat):(bks l).getD i [.sl [], .sl [], .sl [], .sl [], .int .u64 0, .sl [], .int .u64 0, .int .u64 0, .sl [], .sl [], .sl [], .sl []]=(l.getD i default).enc:=by
 simp only [bks,List.getD_eq_getElem?_getD,List.getElem?_map]
 cases l[i]? <;>rfl
@[go_sem] theorem xdE (l:List Bk):bf 12 (bks l)=True:=by
 simp [bf,bks,Bk.enc]
theorem Bk.jc (e:Bk):Bk.dec e.enc=e:=by
 simp [Bk.enc,Bk.dec,qbd,vb1,kL,jbd,ub1,vbd,bb1,qS,wbd]
@[go_sem] theorem vdH (l:List Bk):ke5 (bks l)=l:=by
 simp only [ke5,bks,List.map_map]
 exact List.map_id'' (fun e=>Bk.jc e) l
@[go_sem] theorem bep (a b:List Bk):bks a++bks b=bks (a++b):=by simp [bks]
@[go_sem] theorem zdE (l:List Bk) (k:Nat):(bks l).drop k=bks (l.drop k):=by simp [bks]
@[go_sem] theorem ydE (l:List Bk) (k:Nat):(bks l).take k=bks (l.take k):=by simp [bks]
@[go_sem] theorem yeq (z30:List Ch) (z31:List Wt) (z32:List Iv) (z33:List Py) (z34:Int) (z35:List Ev) (z36:Int) (z37:Int) (z38:List Tm) (z39:List Rk) (z40:List Ky) (z41:List Ct) (hz34:0≤z34) (hz36:0≤z36) (hz37:0≤z37):[[C.sl (chs z30),C.sl (wts z31),C.sl (ivs z32),C.sl (pys z33),C.int .u64 z34,C.sl (evs z35),C.int .u64 z36,C.int .u64 z37,C.sl (tms z38),C.sl (rks z39),C.sl (kys z40),C.sl (cts z41)]]=bks [⟨⟨z30,z31,z32,z33,⟨z34.toNat,z35⟩,z36.toNat,z37.toNat⟩,⟨z38⟩,z39,z40,z41⟩]:=by simp [bks,Bk.enc,Int.toNat_of_nonneg hz34,Int.toNat_of_nonneg hz36,Int.toNat_of_nonneg hz37]
@[go_sem] theorem xeq (l:List Bk) (i:Nat) (z30:List Ch) (z31:List Wt) (z32:List Iv) (z33:List Py) (z34:Int) (z35:List Ev) (z36:Int) (z37:Int) (z38:List Tm) (z39:List Rk) (z40:List Ky) (z41:List Ct) (hz34:0≤z34) (hz36:0≤z36) (hz37:0≤z37):(bks l).set i [C.sl (chs z30),C.sl (wts z31),C.sl (ivs z32),C.sl (pys z33),C.int .u64 z34,C.sl (evs z35),C.int .u64 z36,C.int .u64 z37,C.sl (tms z38),C.sl (rks z39),C.sl (kys z40),C.sl (cts z41)]=bks (l.set i ⟨⟨z30,z31,z32,z33,⟨z34.toNat,z35⟩,z36.toNat,z37.toNat⟩,⟨z38⟩,z39,z40,z41⟩):=by simp [bks,List.map_set,Bk.enc,Int.toNat_of_nonneg hz34,Int.toNat_of_nonneg hz36,Int.toNat_of_nonneg hz37]
@[go_sem] theorem bdD (l:List Bk) (z30:List Ch) (z31:List Wt) (z32:List Iv) (z33:List Py) (z34:Int) (z35:List Ev) (z36:Int) (z37:Int) (z38:List Tm) (z39:List Rk) (z40:List Ky) (z41:List Ct) (hz34:0≤z34) (hz36:0≤z36) (hz37:0≤z37):[C.sl (chs z30),C.sl (wts z31),C.sl (ivs z32),C.sl (pys z33),C.int .u64 z34,C.sl (evs z35),C.int .u64 z36,C.int .u64 z37,C.sl (tms z38),C.sl (rks z39),C.sl (kys z40),C.sl (cts z41)]::bks l=bks (⟨⟨z30,z31,z32,z33,⟨z34.toNat,z35⟩,z36.toNat,z37.toNat⟩,⟨z38⟩,z39,z40,z41⟩::l):=by simp [bks,Bk.enc,Int.toNat_of_nonneg hz34,Int.toNat_of_nonneg hz36,Int.toNat_of_nonneg hz37]
@[go_sem] theorem Bk.eta {e:Bk}:(⟨e.w,e.a,e.r,e.k,e.s⟩:Bk)=e:=rfl
def yS (b:Bk):Int:=if uac b.w≠0 then uac b.w else if ym b.a.l≠0 then ym b.a.l else if wZ b.r≠0 then wZ b.r else if kaH b.k≠0 then kaH b.k else vk b.s
@[go_sem] def zbe (b:Bk):D:= .int .i64 (yS b)
@[go_sem] abbrev ydQ:FuncId:=31
@[go_sem] def xb4:Tab:=[(82,wK),(54,jt),(83,vA),(84,kM),(85,gA)]
theorem qi:za Tryz.prog xb4:=(za.cons wab (za.cons wD (za.cons zY (za.cons qaE (za.cons qY za.nil)))))
theorem kbF (b:Bk) (h:b.w.f.next≤18446744073709551615):ja Tryz.prog 31 [.agg [.sl (chs b.w.c), .sl (wts b.w.w), .sl (ivs b.w.i), .sl (pys b.w.p), .c (.int .u64 (b.w.f.next:Int)), .sl (evs b.w.f.l), .c (.int .u64 (b.w.next:Int)), .c (.int .u64 (b.w.tick:Int)), .sl (tms b.a.l), .sl (rks b.r), .sl (kys b.k), .sl (cts b.s)]] (zbe b):=by
 refine .of (bfk qi (Nat.le_of_ble_eq_true rfl) ?_)
 simp -implicitDefEqProofs only [cdA,go_sem,Go.Proofs.Tryz.f31,simprocAttr, -Int.reduceEq,List.cons.injEq,cdB]
 refine xb.run gdw qi qa (by kernel_rfl) (by kernel_rfl) ?_
 simp -implicitDefEqProofs only [cdA,go_sem,simprocAttr, -Int.reduceEq,List.cons.injEq,cdB]
 refine⟨h,SWp.loop (ι:={i:Nat // i≤5∧(0<i→uac b.w=0)∧(1<i→ym b.a.l=0)∧(2<i→wZ b.r=0)∧(3<i→kaH b.k=0)∧(4<i→vk b.s=0)}) (fun i=>⟨[(20, .agg [.int .i64 (uac b.w), .int .i64 (ym b.a.l), .int .i64 (wZ b.r), .int .i64 (kaH b.k), .int .i64 (vk b.s)]),(21, .int .i64 i.1)],[],1⟩) (fun i=>5 - i.1) ⟨0,by simp⟩ ?_ ?_⟩
 ·simp [go_sem]
 ·rintro⟨i,hi,h1,h2,h3,h4,h5⟩
  match i,hi,h1,h2,h3,h4,h5 with
  |5,_,h1,h2,h3,h4,h5=>
   refine ya qi.toS ucC _ _ _ rfl ?_
   simp -implicitDefEqProofs only [cdA,go_sem,simprocAttr, -Int.reduceEq,List.cons.injEq,cdB]
   refine⟨fun h=>h.elim, ?_⟩
   rw [yS,if_neg (fun h=>h (h1 (by decide))),if_neg (fun h=>h (h2 (by decide))),if_neg (fun h=>h (h3 (by decide))),if_neg (fun h=>h (h4 (by decide))),h5 (by decide)]
  |4,_,h1,h2,h3,h4,h5=>
   refine ya qi.toS ucC _ _ _ rfl ?_
   simp -implicitDefEqProofs only [cdA,go_sem,simprocAttr, -Int.reduceEq,List.cons.injEq,cdB]
   refine⟨fun h6=>⟨⟨5,by decide,fun _=>h1 (by decide),fun _=>h2 (by decide),fun _=>h3 (by decide),fun _=>h4 (by decide),fun _=>h6⟩,by dsimp only;omega,by kernel_rfl⟩,fun h6=> ?_⟩
   rw [yS,if_neg (fun h=>h (h1 (by decide))),if_neg (fun h=>h (h2 (by decide))),if_neg (fun h=>h (h3 (by decide))),if_neg (fun h=>h (h4 (by decide)))]
  |3,_,h1,h2,h3,h4,h5=>
   refine ya qi.toS ucC _ _ _ rfl ?_
   simp -implicitDefEqProofs only [cdA,go_sem,simprocAttr, -Int.reduceEq,List.cons.injEq,cdB]
   refine⟨fun h6=>⟨⟨4,by decide,fun _=>h1 (by decide),fun _=>h2 (by decide),fun _=>h3 (by decide),fun _=>h6,fun h=>absurd h (by decide)⟩,by dsimp only;omega,by kernel_rfl⟩,fun h6=> ?_⟩
   rw [yS,if_neg (fun h=>h (h1 (by decide))),if_neg (fun h=>h (h2 (by decide))),if_neg (fun h=>h (h3 (by decide))),if_pos h6]
  |2,_,h1,h2,h3,h4,h5=>
   refine ya qi.toS ucC _ _ _ rfl ?_
   simp -implicitDefEqProofs only [cdA,go_sem,simprocAttr, -Int.reduceEq,List.cons.injEq,cdB]
   refine⟨fun h6=>⟨⟨3,by decide,fun _=>h1 (by decide),fun _=>h2 (by decide),fun _=>h6,fun h=>absurd h (by decide),fun h=>absurd h (by decide)⟩,by dsimp only;omega,by kernel_rfl⟩,fun h6=> ?_⟩
   rw [yS,if_neg (fun h=>h (h1 (by decide))),if_neg (fun h=>h (h2 (by decide))),if_pos h6]
  |1,_,h1,h2,h3,h4,h5=>
   refine ya qi.toS ucC _ _ _ rfl ?_
   simp -implicitDefEqProofs only [cdA,go_sem,simprocAttr, -Int.reduceEq,List.cons.injEq,cdB]
   refine⟨fun h6=>⟨⟨2,by decide,fun _=>h1 (by decide),fun _=>h6,fun h=>absurd h (by decide),fun h=>absurd h (by decide),fun h=>absurd h (by decide)⟩,by dsimp only;omega,by kernel_rfl⟩,fun h6=> ?_⟩
   rw [yS,if_neg (fun h=>h (h1 (by decide))),if_pos h6]
  |0,_,h1,h2,h3,h4,h5=>
   refine ya qi.toS ucC _ _ _ rfl ?_
   simp -implicitDefEqProofs only [cdA,go_sem,simprocAttr, -Int.reduceEq,List.cons.injEq,cdB]
   refine⟨fun h6=>⟨⟨1,by decide,fun _=>h6,fun h=>absurd h (by decide),fun h=>absurd h (by decide),fun h=>absurd h (by decide),fun h=>absurd h (by decide)⟩,by dsimp only;omega,by kernel_rfl⟩,fun h6=> ?_⟩
   rw [yS,if_pos h6]
@[go_sem] def qb4 (b:Bk):Prop:=(b.w.f.next≤18446744073709551615)
def bp:List D→Option (Prop×D×Fr)
 |[.agg [.c (.sl z44), .c (.sl z45), .c (.sl z46), .c (.sl z47), .c (.int .u64 z49), .c (.sl z50), .c (.int .u64 z51), .c (.int .u64 z52), .c (.sl z54), .c (.sl z55), .c (.sl z56), .c (.sl z57)]]=>some (z44=chs (yb z44)∧z45=wts (jd z45)∧z46=ivs (qc z46)∧z47=pys (vb z47)∧z49=(z49.toNat:Int)∧z50=evs (jb z50)∧z51=(z51.toNat:Int)∧z52=(z52.toNat:Int)∧z54=tms (qb z54)∧z55=rks (gb z55)∧z56=kys (je z56)∧z57=cts (qd z57)∧qb4 (⟨(⟨(yb z44),(jd z45),(qc z46),(vb z47),(⟨z49.toNat,(jb z50)⟩:Fd),z51.toNat,z52.toNat⟩:Wl),(⟨(qb z54)⟩:Ar),(gb z55),(je z56),(qd z57)⟩:Bk),zbe (⟨(⟨(yb z44),(jd z45),(qc z46),(vb z47),(⟨z49.toNat,(jb z50)⟩:Fd),z51.toNat,z52.toNat⟩:Wl),(⟨(qb z54)⟩:Ar),(gb z55),(je z56),(qd z57)⟩:Bk),[])
 |_=>none
attribute [go_sem] bp
theorem zq:ga 31 bp:=by
 intro rs p r fr h hp
 unfold bp at h
 split at h<;>cases h
 obtain⟨hc0,hc1,hc2,hc3,hc4,hc5,hc6,hc7,hc8,hc9,hc10,hc11,hp⟩:=hp
 rename_i z44 z45 z46 z47 z49 z50 z51 z52 z54 z55 z56 z57
 have:=kbF ⟨⟨(yb z44),(jd z45),(qc z46),(vb z47),⟨z49.toNat,(jb z50)⟩,z51.toNat,z52.toNat⟩,⟨(qb z54)⟩,(gb z55),(je z56),(qd z57)⟩ hp
 rw [←hc0,←hc1,←hc2,←hc3,←hc4,←hc5,←hc6,←hc7,←hc8,←hc9,←hc10,←hc11]at this
 exact this
end Dm
namespace Dm
open Go Go.Proofs Go.IntWalk
@[go_sem] def gaR (l:List Rk):D:= .vec 0 l.length
@[go_sem] def yay (l:List Rk):Fr:=[(3,70,true,rks l)]
@[go_sem] abbrev wdo:FuncId:=134
@[go_sem] def jbS:Tab:=[]
theorem uaR:za Tryz.prog jbS:=za.nil
theorem xbw (l:List Rk) (hl:l.length≤1000000):zf Tryz.prog 134 [.sl (rks l)] (gaR l) (yay l):=by
 refine .of (kec uaR (Nat.le_of_ble_eq_true rfl) ?_)
 simp -implicitDefEqProofs only [cdA,go_sem,Go.Proofs.Tryz.f134,simprocAttr, -Int.reduceEq,List.cons.injEq,cdB]
 refine fun b hb=>⟨fun h=> ?_,fun h=> ?_⟩
 ·exact⟨[none],by simp [go_sem,hb h],by cases l<;>simp_all [go_sem,rks]⟩
 ·exact⟨by omega,[some 0],by simp [go_sem]⟩
@[go_sem] def kbS (l:List Rk):Prop:=(l.length≤1000000)
def vn:List D→Option (Prop×D×Fr)
 |[.c (.sl z1)]=>some (z1=rks (gb z1)∧kbS (gb z1),gaR (gb z1),yay (gb z1))
 |_=>none
attribute [go_sem] vn
theorem br:ga 134 vn:=by
 intro rs p r fr h hp
 unfold vn at h
 split at h<;>cases h
 obtain⟨hc0,hp⟩:=hp
 rename_i z1
 have:=xbw (gb z1) hp
 rw [←hc0]at this
 exact And.intro rfl this
def uf (l:List Rk) (id key:Nat):List Rk×Int:=if(vp l id).2≠0 then([],(vp l id).2)else if qZ l key=true then([],6)else(l.set (Srt.pos Rk.id ltN l id) ⟨id,key,false⟩,0)
@[go_sem] def vbT (l:List Rk) (id:Nat) (key:Nat):D:= .tup [.sl (rks (uf l id key).1), .int .i64 (uf l id key).2]
@[go_sem] abbrev xeN:FuncId:=66
@[go_sem] def ucK:Tab:=[(134,vn),(111,wA),(139,yu)]
theorem u7:za Tryz.prog ucK:=(za.cons br (za.cons kK (za.cons kG za.nil)))
theorem jcf (l:List Rk) (id:Nat) (key:Nat):ja Tryz.prog 66 [.sl (rks l), .c (.int .u64 (id:Int)), .c (.int .u64 (key:Int))] (vbT l id key):=by
 refine .of (gfn u7 (Nat.le_of_ble_eq_true rfl) ?_)
 simp -implicitDefEqProofs only [cdA,go_sem,Go.Proofs.Tryz.f66,simprocAttr, -Int.reduceEq,List.cons.injEq,cdB]
 refine uc7 u7 (Nat.le_of_ble_eq_true rfl) ?_
 simp -implicitDefEqProofs only [cdA,go_sem,Go.Proofs.Tryz.f125,simprocAttr, -Int.reduceEq,List.cons.injEq,cdB]
 refine⟨fun h=> ?_,fun h=> ?_⟩
 rotate_left 1
 ·rw [uf,if_pos h];exact⟨rfl,rfl⟩
 have hg:=vr h
 have h64:=hg.1.1
 refine⟨by omega,by have:=hg.2.2.1;omega, ?_⟩
 refine bec u7 (Nat.le_of_ble_eq_true rfl) ?_
 simp -implicitDefEqProofs only [cdA,go_sem,Go.Proofs.Tryz.f138,simprocAttr, -Int.reduceEq,List.cons.injEq,cdB]
 refine⟨fun h1=>⟨fun h2=>absurd h2 (by decide),fun _=> ?_⟩,fun h1=> ?_⟩
 ·rw [uf,if_neg (fun h'=>h' h),if_pos h1];exact⟨rfl,rfl⟩
 ·rw [uf,if_neg (fun h'=>h' h),if_neg (by rw [h1];decide),←hg.2.1,hg.2.2.2.1,hg.2.2.2.2]
  exact⟨hg.2.2.1,⟨by simp,_,_,_,rfl⟩,rfl⟩
def bag:List D→Option (Prop×D×Fr)
 |[.c (.sl z2), .c (.int .u64 z3), .c (.int .u64 z4)]=>some (z2=rks (gb z2)∧z3=(z3.toNat:Int)∧z4=(z4.toNat:Int),vbT (gb z2) z3.toNat z4.toNat,[])
 |_=>none
attribute [go_sem] bag
theorem gba:ga 66 bag:=by
 intro rs p r fr h hp
 unfold bag at h
 split at h<;>cases h
 obtain⟨hc0,hc1,hc2⟩:=hp
 rename_i z2 z3 z4
 have:=jcf (gb z2) z3.toNat z4.toNat
 rw [←hc0,←hc1,←hc2]at this
 exact this
def waH (l:List Rk) (id:Nat):List Rk×Int:=if(vp l id).2≠0 then([],(vp l id).2)else(l.set (Srt.pos Rk.id ltN l id) ⟨id,(l.getD (Srt.pos Rk.id ltN l id) default).key,true⟩,0)
@[go_sem] def wcn (l:List Rk) (id:Nat):D:= .tup [.sl (rks (waH l id).1), .int .i64 (waH l id).2]
@[go_sem] abbrev qfd:FuncId:=63
@[go_sem] def udt:Tab:=[(134,vn),(111,wA)]
theorem xam:za Tryz.prog udt:=(za.cons br (za.cons kK za.nil))
theorem vcK (l:List Rk) (id:Nat):ja Tryz.prog 63 [.sl (rks l), .c (.int .u64 (id:Int))] (wcn l id):=by
 refine .of (wfn xam (Nat.le_of_ble_eq_true rfl) ?_)
 simp -implicitDefEqProofs only [cdA,go_sem,Go.Proofs.Tryz.f63,simprocAttr, -Int.reduceEq,List.cons.injEq,cdB]
 refine uc7 xam (Nat.le_of_ble_eq_true rfl) ?_
 simp -implicitDefEqProofs only [cdA,go_sem,Go.Proofs.Tryz.f125,simprocAttr, -Int.reduceEq,List.cons.injEq,cdB]
 refine⟨fun h=> ?_,fun h=> ?_⟩
 rotate_left 1
 ·rw [waH,if_pos h];exact⟨rfl,rfl⟩
 have hg:=vr h
 have h64:=hg.1.1
 refine⟨by omega,by have:=hg.2.2.1;omega, ?_⟩
 refine geb xam (Nat.le_of_ble_eq_true rfl) ?_
 simp -implicitDefEqProofs only [cdA,go_sem,Go.Proofs.Tryz.f126,simprocAttr, -Int.reduceEq,List.cons.injEq,cdB]
 rw [waH,if_neg (fun h'=>h' h),←hg.2.1,hg.2.2.2.1]
 exact⟨hg.2.2.1,⟨by simp,_,_,_,rfl⟩,rfl⟩
def yaG:List D→Option (Prop×D×Fr)
 |[.c (.sl z5), .c (.int .u64 z6)]=>some (z5=rks (gb z5)∧z6=(z6.toNat:Int),wcn (gb z5) z6.toNat,[])
 |_=>none
attribute [go_sem] yaG
theorem vby:ga 63 yaG:=by
 intro rs p r fr h hp
 unfold yaG at h
 split at h<;>cases h
 obtain⟨hc0,hc1⟩:=hp
 rename_i z5 z6
 have:=vcK (gb z5) z6.toNat
 rw [←hc0,←hc1]at this
 exact this
end Dm
