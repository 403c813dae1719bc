import Derived.Test.YthcioaapafehhaaGreatDoorP8

set_option linter.unusedSimpArgs false
set_option linter.unusedVariables false
set_option linter.unusedSectionVars false
namespace Dm
open Go Go.Proofs Go.IntWalk
@[go_sem] def xaY (a:List UInt8) (b:List UInt8):D:= .bool (decide (a=b))
@[go_sem] abbrev zdd:FuncId:=193
@[go_sem] def bbF:Tab:=[]
theorem qaO:za Tryz.prog bbF:=za.nil
set_option maxRecDepth 8000 in
set_option maxHeartbeats 1000000 in
theorem zbp (a:List UInt8) (b:List UInt8):va Tryz.prog 193 [.sl (u8s a), .sl (u8s b)] (xaY a b):=by
 refine .of (qdz qaO (Nat.le_of_ble_eq_true rfl) ?_)
 simp -implicitDefEqProofs only [cdA,go_sem,Go.Proofs.Tryz.f193,reduceIte,reduceCtorEq,Nat.reduceEqDiff,Nat.reduceAdd,Nat.reduceLeDiff,Nat.reduceSub,Nat.reduceMul,Nat.reduceLT,Nat.reduceShiftRight,Nat.reduceMod,Int.reduceLE,Int.reduceLT,Int.reduceToNat,List.cons.injEq,cdB]
def uO:List D→Option (Prop×D×Fr)
 |[.c (.sl z1), .c (.sl z2)]=>some (z1=u8s (ku z1)∧z2=u8s (ku z2),xaY (ku z1) (ku z2),[])
 |_=>none
attribute [go_sem] uO
theorem waF:∀rs p r fr,uO rs=some (p,r,fr)→p→uc Tryz.prog 193 rs r fr:=by
 intro rs p r fr h hp
 unfold uO at h
 split at h<;>cases h
 obtain⟨hc0,hc1⟩:=hp
 rename_i z1 z2
 obtain⟨z1,rfl⟩:∃m,z1=u8s m:=⟨_,hc0⟩
 obtain⟨z2,rfl⟩:∃m,z2=u8s m:=⟨_,hc1⟩
 simp only [zg]
 exact zbp z1 z2
@[go_sem] def gbp (a:Tm) (b:Tm):D:= .bool (decide (nmT a=nmT b))
@[go_sem] abbrev udT:FuncId:=109
@[go_sem] def ub8:Tab:=[(193,uO)]
theorem ba8:za Tryz.prog ub8:=(za.cons waF za.nil)
set_option maxRecDepth 8000 in
set_option maxHeartbeats 1000000 in
theorem qbG (a:Tm) (b:Tm):va Tryz.prog 109 [.agg [.c (.int .u64 (a.key:Int)), .c (.int .i64 a.up), .sl (u8s a.text)], .agg [.c (.int .u64 (b.key:Int)), .c (.int .i64 b.up), .sl (u8s b.text)]] (gbp a b):=by
 refine .of (gdu ba8 (Nat.le_of_ble_eq_true rfl) ?_)
 simp -implicitDefEqProofs only [cdA,go_sem,Go.Proofs.Tryz.f109,reduceIte,reduceCtorEq,Nat.reduceEqDiff,Nat.reduceAdd,Nat.reduceLeDiff,Nat.reduceSub,Nat.reduceMul,Nat.reduceLT,Nat.reduceShiftRight,Nat.reduceMod,Int.reduceLE,Int.reduceLT,Int.reduceToNat,List.cons.injEq,cdB]
 have e:nmT a=nmT b↔a.key=b.key∧a.up=b.up∧a.text=b.text:=by simp [nmT]
 refine⟨fun h1=>⟨fun h2=>decide_eq_decide.2 ⟨fun h=>e.2 ⟨by omega,h2,h⟩,fun h=>(e.1 h).2.2⟩,fun h2=>(decide_eq_false fun h=>h2 (e.1 h).2.1).symm⟩,fun h1=>(decide_eq_false fun h=>h1 (by have:=(e.1 h).1;omega)).symm⟩
def yP:List D→Option (Prop×D×Fr)
 |[.agg [.c (.int .u64 z4), .c (.int .i64 z5), .c (.sl z6)], .agg [.c (.int .u64 z8), .c (.int .i64 z9), .c (.sl z10)]]=>some (z4=(z4.toNat:Int)∧z6=u8s (ku z6)∧z8=(z8.toNat:Int)∧z10=u8s (ku z10),gbp (⟨z4.toNat,z5,(ku z6)⟩:Tm) (⟨z8.toNat,z9,(ku z10)⟩:Tm),[])
 |_=>none
attribute [go_sem] yP
theorem zac:∀rs p r fr,yP rs=some (p,r,fr)→p→uc Tryz.prog 109 rs r fr:=by
 intro rs p r fr h hp
 unfold yP at h
 split at h<;>cases h
 obtain⟨hc0,hc1,hc2,hc3⟩:=hp
 rename_i z4 z5 z6 z8 z9 z10
 obtain⟨z4,rfl⟩:∃m:Nat,z4=m:=⟨_,hc0⟩
 obtain⟨z6,rfl⟩:∃m,z6=u8s m:=⟨_,hc1⟩
 obtain⟨z8,rfl⟩:∃m:Nat,z8=m:=⟨_,hc2⟩
 obtain⟨z10,rfl⟩:∃m,z10=u8s m:=⟨_,hc3⟩
 simp only [Int.toNat_natCast,zg]
 exact qbG ⟨z4,z5,z6⟩ ⟨z8,z9,z10⟩
def ko (l:List Tm) (k:NK):Int:=match alk k (bkA l)with
 |some i=>i
 |none=> -1
theorem qaK:∀{l:List Tm} {o i:Nat} {k:NK},i<l.length→nmT (l.getD i default)=k→∃v,alk k (bkO o l)=some v∧(o:Int)≤v∧v≤(o+i:Nat)
 |x::l,o,i,k,hi,hk=>by
  rw [bkO,alk]
  by_cases hx:nmT x=k
  ·rw [if_pos hx];exact⟨_,rfl,Int.le_refl _,by omega⟩
  ·rw [if_neg hx]
   cases i with
   |zero=>exact absurd hk hx
   |succ j=>
    obtain⟨v,h1,h2,h3⟩:=qaK (o:=o+1) (k:=k) (show j<l.length by simpa using hi) (by rw [List.getD_cons_succ]at hk;exact hk)
    exact⟨v,h1,by omega,by omega⟩
theorem uaS:∀{l:List Tm} {o:Nat} {k:NK} {v:Int},alk k (bkO o l)=some v→∃j,j<l.length∧nmT (l.getD j default)=k∧v=(o+j:Nat)
 |[],o,k,v,h=>by cases h
 |x::l,o,k,v,h=>by
  rw [bkO,alk]at h
  by_cases hx:nmT x=k
  ·rw [if_pos hx]at h;cases h;exact⟨0,by simp,hx,rfl⟩
  ·rw [if_neg hx]at h
   obtain⟨j,h1,h2,h3⟩:=uaS h
   exact⟨j+1,by simpa using h1,by rw [List.getD_cons_succ];exact h2,by omega⟩
theorem xbm {l:List Tm} {k:NK} {i:Nat} (hi:i<l.length) (hk:nmT (l.getD i default)=k) (hall:∀j,j<i→nmT (l.getD j default)≠k):ko l k=i:=by
 obtain⟨v,h1,h2,h3⟩:=qaK (o:=0) hi hk
 obtain⟨j,h4,h5,h6⟩:=uaS h1
 have:¬j<i:=fun h=>hall j h h5
 unfold ko
 rw [show alk k (bkA l)=some v from h1]
 show v=(i:Int)
 omega
theorem qbm {l:List Tm} {k:NK} (hall:∀j,j<l.length→nmT (l.getD j default)≠k):ko l k= -1:=by
 unfold ko
 cases h:alk k (bkA l)with
 |none=>rfl
 |some v=>
  obtain⟨j,h4,h5,_⟩:=uaS (o:=0) (show alk k (bkO 0 l)=some v from h)
  exact absurd h5 (hall j h4)
@[go_sem] def xaC (l:List Tm) (n:Tm):D:= .int .i64 (ko l (nmT n))
@[go_sem] abbrev gcL:FuncId:=172
@[go_sem] def bbp:Tab:=[(109,yP)]
theorem bV:za Tryz.prog bbp:=(za.cons zac za.nil)
set_option maxRecDepth 8000 in
set_option maxHeartbeats 1000000 in
theorem za9 (l:List Tm) (n:Tm):va Tryz.prog 172 [.sl (tms l), .agg [.c (.int .u64 (n.key:Int)), .c (.int .i64 n.up), .sl (u8s n.text)]] (xaC l n):=by
 refine .of (bdy bV (Nat.le_of_ble_eq_true rfl) ?_)
 simp -implicitDefEqProofs only [cdA,go_sem,Go.Proofs.Tryz.f172,reduceIte,reduceCtorEq,Nat.reduceEqDiff,Nat.reduceAdd,Nat.reduceLeDiff,Nat.reduceSub,Nat.reduceMul,Nat.reduceLT,Nat.reduceShiftRight,Nat.reduceMod,Int.reduceLE,Int.reduceLT,Int.reduceToNat,List.cons.injEq,cdB]
 refine fun _=>SWp.loop (ι:={i:Nat // i≤l.length∧∀j,j<i→nmT (l.getD j default)≠nmT n}) (fun i=>⟨[(3, .ref 0 0),(7, .sl (tms l)),(8, .int .i64 l.length),(9, .int .i64 i.1)],[(0, .box [.c (.int .u64 n.key), .c (.int .i64 n.up), .sl (u8s n.text)])],1⟩) (fun i=>l.length - i.1) ⟨0,by simp⟩ ?_ ?_
 ·simp [go_sem]
 ·rintro⟨i,hi,hall⟩
  refine qa bV.toS jb2 _ _ _ rfl ?_
  simp -implicitDefEqProofs only [cdA,go_sem,reduceIte,reduceCtorEq,Nat.reduceEqDiff,Nat.reduceAdd,Nat.reduceLeDiff,Nat.reduceSub,Nat.reduceMul,Nat.reduceLT,Nat.reduceShiftRight,Nat.reduceMod,Int.reduceLE,Int.reduceLT,Int.reduceToNat,List.cons.injEq,cdB]
  refine⟨fun h1=>⟨h1,fun h2=> ?_,fun h2=>⟨⟨i+1,by omega,fun j hj=> ?_⟩,by dsimp only;omega,i64_in _ (by omega)⟩⟩,fun h1=> ?_⟩
  ·exact(xbm (by omega) h2 hall).symm
  ·by_cases hji:j=i
   ·rw [hji];exact h2
   ·exact hall j (by omega)
  ·have hi':i=l.length:=by omega
   subst hi'
   exact(qbm hall).symm
def zw:List D→Option (Prop×D×Fr)
 |[.c (.sl z11), .agg [.c (.int .u64 z13), .c (.int .i64 z14), .c (.sl z15)]]=>some (z11=tms (zh z11)∧z13=(z13.toNat:Int)∧z15=u8s (ku z15),xaC (zh z11) (⟨z13.toNat,z14,(ku z15)⟩:Tm),[])
 |_=>none
attribute [go_sem] zw
theorem xP:∀rs p r fr,zw rs=some (p,r,fr)→p→uc Tryz.prog 172 rs r fr:=by
 intro rs p r fr h hp
 unfold zw at h
 split at h<;>cases h
 obtain⟨hc0,hc1,hc2⟩:=hp
 rename_i z11 z13 z14 z15
 obtain⟨z11,rfl⟩:∃m,z11=tms m:=⟨_,hc0⟩
 obtain⟨z13,rfl⟩:∃m:Nat,z13=m:=⟨_,hc1⟩
 obtain⟨z15,rfl⟩:∃m,z15=u8s m:=⟨_,hc2⟩
 simp only [Int.toNat_natCast,xb,zg]
 exact za9 z11 ⟨z13,z14,z15⟩
theorem jaX {l:List Tm} {i:Nat} (hi:i<l.length) {k:NK} (hk:nmT (l.getD i default)=k):0≤ko l k∧ko l k≤i:=by
 obtain⟨v,h1,h2,h3⟩:=qaK (o:=0) hi hk
 unfold ko
 rw [show alk k (bkA l)=some v from h1]
 exact⟨by dsimp only;omega,by dsimp only;omega⟩
theorem bbE {l:List Tm} {k:NK} {i:Nat} (h1:0≤ko l k) (h2:ko l k<i) (hi:i≤l.length):k∈(l.take i).map nmT:=by
 unfold ko at h1 h2
 split at h1
 ·rename_i v hv
  rw [hv]at h2
  dsimp only at h2
  obtain⟨j,hj,hk,e⟩:=uaS (o:=0) (show alk k (bkO 0 l)=some v from hv)
  have hji:j<i:=by omega
  refine List.mem_map.2 ⟨l.getD j default, ?_,hk⟩
  rw [ua]
  refine⟨j,by rw [List.length_take];omega, ?_⟩
  rw [List.getD_eq_getElem?_getD,List.getD_eq_getElem?_getD,List.getElem?_take_of_lt hji]
 ·omega
theorem jbm {l:List Tm} {k:NK} {i:Nat} (h:¬ko l k<i) (hi:i≤l.length):k∉(l.take i).map nmT:=by
 intro hm
 obtain⟨x,hx,e⟩:=List.mem_map.1 hm
 obtain⟨j,hj,rfl⟩:=ua.1 hx
 rw [List.length_take]at hj
 have:nmT (l.getD j default)=k:=by
  rw [←e,List.getD_eq_getElem?_getD,List.getD_eq_getElem?_getD,List.getElem?_take_of_lt (by omega)]
 have:=jaX (l:=l) (i:=j) (by omega) this
 omega
@[go_sem] def uaB (a:Ar):D:= .int .i64 (vo a.l)
@[go_sem] abbrev wcL:FuncId:=87
@[go_sem] def ubp:Tab:=[(172,zw)]
theorem gV:za Tryz.prog ubp:=(za.cons xP za.nil)
set_option maxRecDepth 8000 in
set_option maxHeartbeats 1000000 in
theorem ua8 (a:Ar):va Tryz.prog 87 [.agg [.sl (tms a.l)]] (uaB a):=by
 refine .of (wev gV (Nat.le_of_ble_eq_true rfl) ?_)
 simp -implicitDefEqProofs only [cdA,go_sem,Go.Proofs.Tryz.f87,reduceIte,reduceCtorEq,Nat.reduceEqDiff,Nat.reduceAdd,Nat.reduceLeDiff,Nat.reduceSub,Nat.reduceMul,Nat.reduceLT,Nat.reduceShiftRight,Nat.reduceMod,Int.reduceLE,Int.reduceLT,Int.reduceToNat,List.cons.injEq,cdB]
 have hbad:¬uF a.l→1=vo a.l:=fun h=>by rw [vo,qp,if_neg h]
 generalize a.l=l at*
 refine fun _=>⟨fun h1=>hbad fun h=>by have:=h.1;omega,fun h1 _=> ?_⟩
 refine SWp.loop (ι:={i:Nat // i≤l.length∧((l.take i).map nmT).Nodup∧∀j,j<i→uaW j (l.getD j default)}) (fun i=>⟨[(1, .ref 0 0),(10, .sl (tms l)),(11, .int .i64 l.length),(12, .int .i64 i.1)],[(0, .box [.sl (tms l)])],1⟩) (fun i=>l.length - i.1) ⟨0,by simp,by simp,by simp⟩ ?_ ?_
 ·simp [go_sem]
 ·rintro⟨i,hi,hnd,hall⟩
  refine qa gV.toS ydR _ _ _ rfl ?_
  simp -implicitDefEqProofs only [cdA,go_sem,reduceIte,reduceCtorEq,Nat.reduceEqDiff,Nat.reduceAdd,Nat.reduceLeDiff,Nat.reduceSub,Nat.reduceMul,Nat.reduceLT,Nat.reduceShiftRight,Nat.reduceMod,Int.reduceLE,Int.reduceLT,Int.reduceToNat,List.cons.injEq,cdB]
  refine⟨fun h2=> ?_,fun h2=> ?_⟩
  rotate_left 1
  ·have hi':i=l.length:=by omega
   subst hi'
   rw [List.take_length]at hnd
   rw [vo,qp,if_pos ⟨by omega,hnd,fun j hj=>hall j (List.mem_range.1 hj)⟩]
  have hi':i<l.length:=by omega
  have hin:uF l→uaW i (l.getD i default):=fun h=>h.2.2 i (List.mem_range.2 hi')
  have hdup:ko l (nmT (l.getD i default))<i→1=vo l:=fun hp=>hbad fun ho=>by
   have h3:=bbE (jaX hi' rfl).1 hp hi
   have h4:((l.take (i+1)).map nmT).Nodup:=((List.take_prefix _ _).map _).sublist.nodup ho.2.1
   rw [take_succ hi',List.map_append,List.nodup_append]at h4
   exact h4.2.2 _ h3 _ (by simp) rfl
  have hstep:¬ko l (nmT (l.getD i default))<i→uaW i (l.getD i default)→∃i_1:{i:Nat // i≤l.length∧((l.take i).map nmT).Nodup∧∀j,j<i→uaW j (l.getD j default)},l.length - i_1.val<l.length - i∧IntKind.i64.wrap ((i:Int)+1)=i_1.val:=fun hp hok=>by
   refine⟨⟨i+1,hi', ?_,fun j hj=> ?_⟩,by dsimp only;omega,i64_in _ (by omega)⟩
   ·rw [take_succ hi',List.map_append,List.nodup_append]
    refine⟨hnd,by simp,fun x hx y hy=> ?_⟩
    simp at hy
    rintro rfl
    exact jbm hp hi (by rw [List.getD_eq_getElem?_getD,←hy];exact hx)
   ·by_cases hji:j=i
    ·subst hji;exact hok
    ·exact hall j (by omega)
  refine⟨h2, ?_⟩
  generalize hx:l.getD i default=x at*
  have hb2:¬uaW i x→1=vo l:=fun h=>hbad fun ho=>h (hin ho)
  have hok:¬x.up< -1→¬(i:Int)≤x.up→(0≤x.up→(x.key:Int)=0)→¬4096<(x.text.length:Int)→uaW i x:=fun a b c d=>⟨by omega,by omega,fun h=>by have:=c (by omega);omega,by omega⟩
  refine⟨fun a=>⟨fun b=>⟨fun c=>⟨fun d _=>⟨fun e=>⟨hdup,fun f=>hstep f (hok a b (fun _=>d) e)⟩,fun e=>hb2 fun h=>by have:=h.2.2.2;omega⟩,fun d=>hb2 fun h=>by have:=h.2.2.1 (by omega);omega⟩,fun c _=>⟨fun e=>⟨hdup,fun f=>hstep f (hok a b (fun h=>absurd h c) e)⟩,fun e=>hb2 fun h=>by have:=h.2.2.2;omega⟩⟩,fun b=>hb2 fun h=>by have:=h.2.1;omega⟩,fun a=>hb2 fun h=>by have:=h.1;omega⟩
def uv:List D→Option (Prop×D×Fr)
 |[.agg [.c (.sl z17)]]=>some (z17=tms (zh z17),uaB (⟨(zh z17)⟩:Ar),[])
 |_=>none
attribute [go_sem] uv
theorem bO:∀rs p r fr,uv rs=some (p,r,fr)→p→uc Tryz.prog 87 rs r fr:=by
 intro rs p r fr h hp
 unfold uv at h
 split at h<;>cases h
 have hc0:=hp
 rename_i z17
 obtain⟨z17,rfl⟩:∃m,z17=tms m:=⟨_,hc0⟩
 simp only [xb]
 exact ua8 ⟨z17⟩
@[go_sem] def vaY (a:Ar):D:= .agg [.vec 0 a.l.length]
@[go_sem] def gaB (a:Ar):Fr:=[(3,83,true,tms a.l)]
@[go_sem] abbrev xdd:FuncId:=68
@[go_sem] def xbG:Tab:=[]
theorem kK:za Tryz.prog xbG:=za.nil
set_option maxRecDepth 8000 in
set_option maxHeartbeats 1000000 in
theorem baB (a:Ar) (hl:a.l.length≤1048577∧∀t∈a.l,t.text.length≤4096):ki Tryz.prog 68 [.agg [.sl (tms a.l)]] (vaY a) (gaB a):=by
 refine .of (weu kK (Nat.le_of_ble_eq_true rfl) ?_)
 simp -implicitDefEqProofs only [cdA,go_sem,Go.Proofs.Tryz.f68,reduceIte,reduceCtorEq,Nat.reduceEqDiff,Nat.reduceAdd,Nat.reduceLeDiff,Nat.reduceSub,Nat.reduceMul,Nat.reduceLT,Nat.reduceShiftRight,Nat.reduceMod,Int.reduceLE,Int.reduceLT,Int.reduceToNat,List.cons.injEq,cdB]
 refine fun _=>SWp.gb4 2 0 3 83 rfl rfl (Nat.zero_le _) ?_
 generalize a.l=l at*
 refine SWp.loop (ι:={i:Nat // i≤l.length}) (fun i=>⟨[(3, .ref 2 0),(2, .ref 1 0),(8, .sl (tms l)),(9, .int .i64 l.length),(10, .int .i64 i.1)],[(2, .box [.vec 3 i.1]),(1, .box [.nil]),(3, .vec true 3 83 (tms (l.take i.1)))],4⟩) (fun i=>l.length - i.1) ⟨0,by simp⟩ ?_ ?_
 ·simp [go_sem];rfl
 ·rintro⟨i,hi⟩
  refine qa kK.toS kdQ _ _ _ rfl ?_
  simp -implicitDefEqProofs only [cdA,go_sem,reduceIte,reduceCtorEq,Nat.reduceEqDiff,Nat.reduceAdd,Nat.reduceLeDiff,Nat.reduceSub,Nat.reduceMul,Nat.reduceLT,Nat.reduceShiftRight,Nat.reduceMod,Int.reduceLE,Int.reduceLT,Int.reduceToNat,List.cons.injEq,cdB]
  refine⟨fun h1=>⟨h1, ?_⟩,fun h1=> ?_⟩
  ·have hi':i<l.length:=by omega
   refine ud.run zcU kK ja (by kernel_rfl) (by kernel_rfl) ?_
   simp -implicitDefEqProofs only [cdA,go_sem,reduceIte,reduceCtorEq,Nat.reduceEqDiff,Nat.reduceAdd,Nat.reduceLeDiff,Nat.reduceSub,Nat.reduceMul,Nat.reduceLT,Nat.reduceShiftRight,Nat.reduceMod,Int.reduceLE,Int.reduceLT,Int.reduceToNat,List.cons.injEq,cdB]
   have h4:=hl.2 _ (ua.2 ⟨i,hi',rfl⟩)
   exact⟨by omega,by rw [List.length_take];omega,⟨i+1,hi'⟩,by dsimp only;omega,i64_in _ (by omega),rfl,by dsimp only;rw [take_succ hi']⟩
  ·have hi':i=l.length:=by omega
   subst hi'
   exact⟨[some 3],by simp [go_sem],rfl,rfl⟩
@[go_sem] def kaY (a:Ar):Prop:=(a.l.length≤1048577∧∀t∈a.l,t.text.length≤4096)
def zP:List D→Option (Prop×D×Fr)
 |[.agg [.c (.sl z19)]]=>some (z19=tms (zh z19)∧kaY (⟨(zh z19)⟩:Ar),vaY (⟨(zh z19)⟩:Ar),gaB (⟨(zh z19)⟩:Ar))
 |_=>none
attribute [go_sem] zP
theorem gaF:∀rs p r fr,zP rs=some (p,r,fr)→p→uc Tryz.prog 68 rs r fr:=by
 intro rs p r fr h hp
 unfold zP at h
 split at h<;>cases h
 obtain⟨hc0,hp⟩:=hp
 rename_i z19
 obtain⟨z19,rfl⟩:∃m,z19=tms m:=⟨_,hc0⟩
 simp only [xb]
 simp only [xb,kaY]at hp
 exact(show uc _ _ _ _ _ from And.intro rfl (baB ⟨z19⟩ hp))
@[go_sem] def yaC (a:Ar):D:= .agg [.sl (tms a.l)]
@[go_sem] abbrev ucL:FuncId:=68
@[go_sem] def jcQ:Tab:=[]
set_option maxRecDepth 8000 in
set_option maxHeartbeats 1000000 in
theorem ga8 (a:Ar) (hl:a.l.length≤1048577∧∀t∈a.l,t.text.length≤4096):va Tryz.prog 68 [.agg [.sl (tms a.l)]] (yaC a):=by
 refine ki.toPure (baB a hl) ?_
 simp [go_sem,yb8,jas,zao,pw,news,lk]
@[go_sem] def zaC (a:Ar):Prop:=(a.l.length≤1048577∧∀t∈a.l,t.text.length≤4096)
def uH:List D→Option (Prop×D×Fr)
 |[.agg [.c (.sl z21)]]=>some (z21=tms (zh z21)∧zaC (⟨(zh z21)⟩:Ar),yaC (⟨(zh z21)⟩:Ar),[])
 |_=>none
attribute [go_sem] uH
theorem vaq:∀rs p r fr,uH rs=some (p,r,fr)→p→uc Tryz.prog 68 rs r fr:=by
 intro rs p r fr h hp
 unfold uH at h
 split at h<;>cases h
 obtain⟨hc0,hp⟩:=hp
 rename_i z21
 obtain⟨z21,rfl⟩:∃m,z21=tms m:=⟨_,hc0⟩
 simp only [xb]
 simp only [xb,zaC]at hp
 exact ga8 ⟨z21⟩ hp
@[go_sem] def zaZ (a:Ar) (n:Tm):D:= .tup [.agg [.sl (tms (vh a.l n).1)], .int .i64 (vh a.l n).2.1, .int .i64 (vh a.l n).2.2]
@[go_sem] abbrev kdd:FuncId:=247
@[go_sem] def vbG:Tab:=[(87,uv),(68,zP),(172,zw)]
theorem waa:za Tryz.prog vbG:=(za.cons bO (za.cons gaF (za.cons xP za.nil)))
set_option maxRecDepth 8000 in
set_option maxHeartbeats 1000000 in
theorem xbq (a:Ar) (n:Tm) (h: -1≤n.up):va Tryz.prog 247 [.agg [.sl (tms a.l)], .agg [.c (.int .u64 (n.key:Int)), .c (.int .i64 n.up), .sl (u8s n.text)]] (zaZ a n):=by
 refine .of (kdC waa (Nat.le_of_ble_eq_true rfl) ?_)
 simp -implicitDefEqProofs only [cdA,go_sem,Go.Proofs.Tryz.f247,reduceIte,reduceCtorEq,Nat.reduceEqDiff,Nat.reduceAdd,Nat.reduceLeDiff,Nat.reduceSub,Nat.reduceMul,Nat.reduceLT,Nat.reduceShiftRight,Nat.reduceMod,Int.reduceLE,Int.reduceLT,Int.reduceToNat,List.cons.injEq,cdB]
 have hbad:∀e:Int,vh a.l n=([],0,e)→tms (vh a.l n).1=[]∧0=(vh a.l n).2.1∧e=(vh a.l n).2.2:=fun e h=>by rw [h];exact⟨rfl,rfl,rfl⟩
 have hrz:vo a.l=0↔uF a.l:=by unfold vo qp;split<;>rename_i h<;>simp only [h]<;>decide
 refine⟨fun h0 _=> ?_,fun h0=>hbad 1 (by rw [vh,if_pos (.inl fun h=>h0 (hrz.2 h))])⟩
 have hok:=hrz.1 h0
 have hl:=hok.1
 have htx:∀x∈a.l,x.text.length≤4096:=fun x hx=>by
  obtain⟨j,hj,rfl⟩:=ua.1 hx
  exact(hok.2.2 j (List.mem_range.2 hj)).2.2.2
 have hsome:∀v,alk (nmT n) (bkA a.l)=some v→¬(a.l.length:Int)≤n.up→n.text.length≤4096→vh a.l n=(a.l,v,0):=fun v hv h1 h2=>qb8 hok hv (by omega) h2
 have hnone:alk (nmT n) (bkA a.l)=none→¬(a.l.length:Int)≤n.up→n.text.length≤4096→vh a.l n=if a.l.length=1048576 then([],0,7)else(a.l++[n],(a.l.length:Int),0):=fun hv h1 h2=>by
  rw [vh,if_neg (by rintro(h|h);exact h hok;exact h1 h),if_neg (by omega),hv]
 refine⟨fun h1=>⟨fun h2=>absurd h2 (by omega),fun _ _=>⟨fun h2=>hbad 4 (by rw [vh,if_neg (by rintro(h|h);exact h hok;exact h1 h),if_pos (by omega)]),fun h2=>⟨⟨by omega,htx⟩,fun h3=> ?_,fun h3 _=> ?_⟩⟩⟩,fun h1=>hbad 1 (by rw [vh,if_pos (.inr h1)])⟩
 ·unfold ko at h3⊢
  split at h3
  ·rename_i v hv
   rw [hsome v hv h1 (by omega)]
   exact⟨⟨rfl,_,_,_,rfl⟩,rfl,rfl⟩
  ·exact absurd h3 (by decide)
 ·have hn:alk (nmT n) (bkA a.l)=none:=by
   unfold ko at h3
   split at h3
   ·rename_i v hv
    exact absurd (gdD hok hv).1 h3
   ·rename_i hv;exact hv
  have hp:=hnone hn h1 (by omega)
  refine⟨fun h4=>hbad 7 (by rw [hp];exact if_pos (by omega)),fun h4=> ?_⟩
  rw [show vh a.l n=(a.l++[n],(a.l.length:Int),0) by rw [hp];exact if_neg (by omega)]
  refine⟨by omega,by omega, ?_⟩
  refine SWp.xex 0 0 rfl rfl rfl (by simp) ?_
  simp -implicitDefEqProofs only [cdA,go_sem,reduceIte,reduceCtorEq,Nat.reduceEqDiff,Nat.reduceAdd,Nat.reduceLeDiff,Nat.reduceSub,Nat.reduceMul,Nat.reduceLT,Nat.reduceShiftRight,Nat.reduceMod,Int.reduceLE,Int.reduceLT,Int.reduceToNat,List.cons.injEq,cdB]
  refine ud.run bbJ waa ja (by kernel_rfl) (by kernel_rfl) ?_
  simp -implicitDefEqProofs only [cdA,go_sem,reduceIte,reduceCtorEq,Nat.reduceEqDiff,Nat.reduceAdd,Nat.reduceLeDiff,Nat.reduceSub,Nat.reduceMul,Nat.reduceLT,Nat.reduceShiftRight,Nat.reduceMod,Int.reduceLE,Int.reduceLT,Int.reduceToNat,List.cons.injEq,cdB]
  rw [i64_in _ (by omega)];omega
@[go_sem] def baY (a:Ar) (n:Tm):Prop:=(-1≤n.up)
def kP:List D→Option (Prop×D×Fr)
 |[.agg [.c (.sl z23)], .agg [.c (.int .u64 z25), .c (.int .i64 z26), .c (.sl z27)]]=>some (z23=tms (zh z23)∧z25=(z25.toNat:Int)∧z27=u8s (ku z27)∧baY (⟨(zh z23)⟩:Ar) (⟨z25.toNat,z26,(ku z27)⟩:Tm),zaZ (⟨(zh z23)⟩:Ar) (⟨z25.toNat,z26,(ku z27)⟩:Tm),[])
 |_=>none
attribute [go_sem] kP
theorem yaG:∀rs p r fr,kP rs=some (p,r,fr)→p→uc Tryz.prog 247 rs r fr:=by
 intro rs p r fr h hp
 unfold kP at h
 split at h<;>cases h
 obtain⟨hc0,hc1,hc2,hp⟩:=hp
 rename_i z23 z25 z26 z27
 obtain⟨z23,rfl⟩:∃m,z23=tms m:=⟨_,hc0⟩
 obtain⟨z25,rfl⟩:∃m:Nat,z25=m:=⟨_,hc1⟩
 obtain⟨z27,rfl⟩:∃m,z27=u8s m:=⟨_,hc2⟩
 simp only [Int.toNat_natCast,xb,zg]
 simp only [Int.toNat_natCast,xb,zg,baY]at hp
 exact xbq ⟨z23⟩ ⟨z25,z26,z27⟩ hp
@[go_sem] def waY (a:Ar) (key:Nat) (text:List UInt8):D:= .tup [.agg [.sl (tms (vh a.l ⟨key, -1,text⟩).1)], .int .i64 (vh a.l ⟨key, -1,text⟩).2.1, .int .i64 (vh a.l ⟨key, -1,text⟩).2.2]
@[go_sem] abbrev qdd:FuncId:=218
@[go_sem] def jbG:Tab:=[(247,kP)]
theorem kaO:za Tryz.prog jbG:=(za.cons yaG za.nil)
set_option maxRecDepth 8000 in
set_option maxHeartbeats 1000000 in
theorem zbq (a:Ar) (key:Nat) (text:List UInt8):va Tryz.prog 218 [.agg [.sl (tms a.l)], .c (.int .u64 (key:Int)), .sl (u8s text)] (waY a key text):=by
 refine .of (udA kaO (Nat.le_of_ble_eq_true rfl) ?_)
 simp -implicitDefEqProofs only [cdA,go_sem,Go.Proofs.Tryz.f218,reduceIte,reduceCtorEq,Nat.reduceEqDiff,Nat.reduceAdd,Nat.reduceLeDiff,Nat.reduceSub,Nat.reduceMul,Nat.reduceLT,Nat.reduceShiftRight,Nat.reduceMod,Int.reduceLE,Int.reduceLT,Int.reduceToNat,List.cons.injEq,cdB]
def qP:List D→Option (Prop×D×Fr)
 |[.agg [.c (.sl z29)], .c (.int .u64 z30), .c (.sl z31)]=>some (z29=tms (zh z29)∧z30=(z30.toNat:Int)∧z31=u8s (ku z31),waY (⟨(zh z29)⟩:Ar) z30.toNat (ku z31),[])
 |_=>none
attribute [go_sem] qP
theorem baF:∀rs p r fr,qP rs=some (p,r,fr)→p→uc Tryz.prog 218 rs r fr:=by
 intro rs p r fr h hp
 unfold qP at h
 split at h<;>cases h
 obtain⟨hc0,hc1,hc2⟩:=hp
 rename_i z29 z30 z31
 obtain⟨z29,rfl⟩:∃m,z29=tms m:=⟨_,hc0⟩
 obtain⟨z30,rfl⟩:∃m:Nat,z30=m:=⟨_,hc1⟩
 obtain⟨z31,rfl⟩:∃m,z31=u8s m:=⟨_,hc2⟩
 simp only [Int.toNat_natCast,xb,zg]
 exact zbq ⟨z29⟩ z30 z31
end Dm
namespace Dm
open Go Go.Proofs Go.IntWalk
@[go_sem] def bbq (l:List Rk) (key:Nat):D:= .bool (kJ l key)
@[go_sem] abbrev zdU:FuncId:=156
@[go_sem] def zb9:Tab:=[]
theorem jaj:za Tryz.prog zb9:=za.nil
set_option maxRecDepth 8000 in
set_option maxHeartbeats 1000000 in
theorem ybH (l:List Rk) (key:Nat):va Tryz.prog 156 [.sl (rks l), .c (.int .u64 (key:Int))] (bbq l key):=by
 refine .of (vdx jaj (Nat.le_of_ble_eq_true rfl) ?_)
 simp -implicitDefEqProofs only [cdA,go_sem,Go.Proofs.Tryz.f156,reduceIte,reduceCtorEq,Nat.reduceEqDiff,Nat.reduceAdd,Nat.reduceLeDiff,Nat.reduceSub,Nat.reduceMul,Nat.reduceLT,Nat.reduceShiftRight,Nat.reduceMod,Int.reduceLE,Int.reduceLT,Int.reduceToNat,List.cons.injEq,cdB]
 refine fun _=>SWp.loop (ι:={i:Nat // i≤l.length∧∀j,j<i→(l.getD j default).key≠key}) (fun i=>⟨[(1, .c (.int .u64 key)),(7, .sl (rks l)),(8, .int .i64 l.length),(9, .int .i64 i.1)],[],0⟩) (fun i=>l.length - i.1) ⟨0,by simp⟩ ?_ ?_
 ·simp [go_sem]
 ·rintro⟨i,hi,hall⟩
  refine qa jaj.toS bb1 _ _ _ rfl ?_
  simp -implicitDefEqProofs only [cdA,go_sem,reduceIte,reduceCtorEq,Nat.reduceEqDiff,Nat.reduceAdd,Nat.reduceLeDiff,Nat.reduceSub,Nat.reduceMul,Nat.reduceLT,Nat.reduceShiftRight,Nat.reduceMod,Int.reduceLE,Int.reduceLT,Int.reduceToNat,List.cons.injEq,cdB]
  refine⟨fun h4=>⟨h4,fun h5=> ?_,fun h5=>⟨⟨i+1,by omega,fun j hj=> ?_⟩,by dsimp only;omega,i64_in _ (by omega)⟩⟩,fun h4=> ?_⟩
  ·exact(decide_eq_true ⟨_,ua.2 ⟨i,by omega,rfl⟩,by omega⟩).symm
  ·by_cases hji:j=i
   ·subst hji;omega
   ·exact hall j (by omega)
  ·have hi':i=l.length:=by omega
   subst hi'
   refine(decide_eq_false ?_).symm
   rintro⟨r,hr,hk⟩
   obtain⟨j,hj,rfl⟩:=ua.1 hr
   exact hall j hj hk
def bP:List D→Option (Prop×D×Fr)
 |[.c (.sl z1), .c (.int .u64 z2)]=>some (z1=rks (vj z1)∧z2=(z2.toNat:Int),bbq (vj z1) z2.toNat,[])
 |_=>none
attribute [go_sem] bP
theorem yac:∀rs p r fr,bP rs=some (p,r,fr)→p→uc Tryz.prog 156 rs r fr:=by
 intro rs p r fr h hp
 unfold bP at h
 split at h<;>cases h
 obtain⟨hc0,hc1⟩:=hp
 rename_i z1 z2
 obtain⟨z1,rfl⟩:∃m,z1=rks m:=⟨_,hc0⟩
 obtain⟨z2,rfl⟩:∃m:Nat,z2=m:=⟨_,hc1⟩
 simp only [Int.toNat_natCast,yc]
 exact ybH z1 z2
@[go_sem] def qaC (l:List Rk):D:= .int .i64 (vU l)
@[go_sem] abbrev bcL:FuncId:=88
@[go_sem] def ubq:Tab:=[(156,bP)]
theorem yD:za Tryz.prog ubq:=(za.cons yac za.nil)
set_option maxRecDepth 8000 in
set_option maxHeartbeats 1000000 in
theorem xa9 (l:List Rk):va Tryz.prog 88 [.sl (rks l)] (qaC l):=by
 refine .of (uev yD (Nat.le_of_ble_eq_true rfl) ?_)
 simp -implicitDefEqProofs only [cdA,go_sem,Go.Proofs.Tryz.f88,reduceIte,reduceCtorEq,Nat.reduceEqDiff,Nat.reduceAdd,Nat.reduceLeDiff,Nat.reduceSub,Nat.reduceMul,Nat.reduceLT,Nat.reduceShiftRight,Nat.reduceMod,Int.reduceLE,Int.reduceLT,Int.reduceToNat,List.cons.injEq,cdB]
 have hbad:¬kad l→1=vU l:=fun h=>by rw [vU,if_neg h]
 refine fun _=>⟨fun h1=>hbad fun h=>by have:=h.1;omega,fun h1 _=> ?_⟩
 refine SWp.loop (ι:={i:Nat // i≤l.length∧(∀j,j<i→0<j→(l.getD (j - 1) default).id<(l.getD j default).id)∧((l.take i).map Rk.key).Nodup}) (fun i=>⟨[(0, .sl (rks l)),(8, .sl (rks l)),(9, .int .i64 l.length),(10, .int .i64 i.1)],[],0⟩) (fun i=>l.length - i.1) ⟨0,by simp,by simp,by simp⟩ ?_ ?_
 ·simp [go_sem]
 ·rintro⟨i,hi,hall,hnd⟩
  refine qa yD.toS xdR _ _ _ rfl ?_
  simp -implicitDefEqProofs only [cdA,go_sem,reduceIte,reduceCtorEq,Nat.reduceEqDiff,Nat.reduceAdd,Nat.reduceLeDiff,Nat.reduceSub,Nat.reduceMul,Nat.reduceLT,Nat.reduceShiftRight,Nat.reduceMod,Int.reduceLE,Int.reduceLT,Int.reduceToNat,List.cons.injEq,cdB]
  refine⟨fun h2=>⟨h2, ?_⟩,fun h2=> ?_⟩
  ·refine ud.run wcU yD ja (by kernel_rfl) (by kernel_rfl) ?_
   simp -implicitDefEqProofs only [cdA,go_sem,reduceIte,reduceCtorEq,Nat.reduceEqDiff,Nat.reduceAdd,Nat.reduceLeDiff,Nat.reduceSub,Nat.reduceMul,Nat.reduceLT,Nat.reduceShiftRight,Nat.reduceMod,Int.reduceLE,Int.reduceLT,Int.reduceToNat,List.cons.injEq,cdB]
   have hi':i<l.length:=by omega
   have htk:=take_succ hi'
   have hnext:(0<i→(l.getD (i - 1) default).id<(l.getD i default).id)→(kJ (l.take i) (l.getD i default).key=true→1=vU l)∧(kJ (l.take i) (l.getD i default).key=false→∃i_1:{i:Nat // i≤l.length∧(∀j,j<i→0<j→(l.getD (j - 1) default).id<(l.getD j default).id)∧((l.take i).map Rk.key).Nodup},l.length - i_1.val<l.length - i∧IntKind.i64.wrap ((i:Int)+1)=i_1.val):=fun ho=>by
    refine⟨fun h3=>hbad fun h=> ?_,fun h3=>⟨⟨i+1,hi',fun j hj h0=> ?_, ?_⟩,by dsimp only;omega,i64_in _ (by omega)⟩⟩
    ·obtain⟨r,hr,hk⟩:=of_decide_eq_true h3
     have h4:((l.take (i+1)).map Rk.key).Nodup:=((List.take_prefix _ _).map _).sublist.nodup h.2.2
     rw [htk,List.map_append,List.nodup_append]at h4
     exact h4.2.2 _ (List.mem_map.2 ⟨r,hr,hk⟩) _ (by simp) rfl
    ·by_cases hji:j=i
     ·subst hji;exact ho h0
     ·exact hall j (by omega) h0
    ·rw [htk,List.map_append,List.nodup_append]
     refine⟨hnd,by simp,fun x hx y hy=> ?_⟩
     simp at hy
     rintro rfl
     obtain⟨r,hr,hk⟩:=List.mem_map.1 hx
     exact of_decide_eq_false h3 ⟨r,hr,by rw [hk,hy,List.getD_eq_getElem?_getD]⟩
   refine⟨fun h3=> ?_,fun h3=>⟨by omega,hnext fun h=>absurd h (by omega)⟩⟩
   rw [i64_in _ (by omega),show((i:Int) - 1).toNat=i - 1 by omega]
   exact⟨by omega,fun h4=>⟨by omega,hnext fun _=>by omega⟩,fun h4=>hbad fun h=>by have:=h.2.1 i hi' (by omega);simp only [ltN]at this;omega⟩
  ·have hi':i=l.length:=by omega
   subst hi'
   rw [List.take_length]at hnd
   rw [vU,if_pos ⟨by omega,fun j hj h0=>hall j hj h0,hnd⟩]
def yw:List D→Option (Prop×D×Fr)
 |[.c (.sl z3)]=>some (z3=rks (vj z3),qaC (vj z3),[])
 |_=>none
attribute [go_sem] yw
theorem uP:∀rs p r fr,yw rs=some (p,r,fr)→p→uc Tryz.prog 88 rs r fr:=by
 intro rs p r fr h hp
 unfold yw at h
 split at h<;>cases h
 have hc0:=hp
 rename_i z3
 obtain⟨z3,rfl⟩:∃m,z3=rks m:=⟨_,hc0⟩
 simp only [yc]
 exact xa9 z3
def bcA (l:List Rk) (id:Nat):Rk:=(Srt.fnd Rk.id l id).getD ⟨0,0,false⟩
theorem ba3 {l:List Rk} {i id:Nat} (hi:i<l.length) (h:(l.getD i default).id=id) (hall:∀j,j<i→(l.getD j default).id≠id):Srt.fnd Rk.id l id=some (l.getD i default):=by
 rw [Srt.fnd,List.find?_eq_some_iff_getElem]
 refine⟨decide_eq_true h,i,hi,(we hi).symm,fun j hj=> ?_⟩
 have:=hall j hj
 rw [we (by omega)]at this
 simpa using this
@[go_sem] def kaZ (l:List Rk) (id:Nat):D:= .tup [.agg [.int .u64 (bcA l id).id, .int .u64 (bcA l id).key, .bool (bcA l id).gone], .bool (Srt.fnd Rk.id l id).isSome]
@[go_sem] abbrev udd:FuncId:=146
@[go_sem] def zbH:Tab:=[]
theorem gaa:za Tryz.prog zbH:=za.nil
set_option maxRecDepth 8000 in
set_option maxHeartbeats 1000000 in
theorem gbq (l:List Rk) (id:Nat):va Tryz.prog 146 [.sl (rks l), .c (.int .u64 (id:Int))] (kaZ l id):=by
 refine .of (ydx gaa (Nat.le_of_ble_eq_true rfl) ?_)
 simp -implicitDefEqProofs only [cdA,go_sem,Go.Proofs.Tryz.f146,reduceIte,reduceCtorEq,Nat.reduceEqDiff,Nat.reduceAdd,Nat.reduceLeDiff,Nat.reduceSub,Nat.reduceMul,Nat.reduceLT,Nat.reduceShiftRight,Nat.reduceMod,Int.reduceLE,Int.reduceLT,Int.reduceToNat,List.cons.injEq,cdB]
 refine fun _=>SWp.loop (ι:={i:Nat // i≤l.length∧∀j,j<i→(l.getD j default).id≠id}) (fun i=>⟨[(1, .c (.int .u64 id)),(4, .ref 0 0),(8, .sl (rks l)),(9, .int .i64 l.length),(10, .int .i64 i.1)],[(0, .box [.c (.int .u64 0), .c (.int .u64 0), .c (.bool false)])],1⟩) (fun i=>l.length - i.1) ⟨0,by simp⟩ ?_ ?_
 ·simp [go_sem]
 ·rintro⟨i,hi,hall⟩
  refine qa gaa.toS wb1 _ _ _ rfl ?_
  simp -implicitDefEqProofs only [cdA,go_sem,reduceIte,reduceCtorEq,Nat.reduceEqDiff,Nat.reduceAdd,Nat.reduceLeDiff,Nat.reduceSub,Nat.reduceMul,Nat.reduceLT,Nat.reduceShiftRight,Nat.reduceMod,Int.reduceLE,Int.reduceLT,Int.reduceToNat,List.cons.injEq,cdB]
  have hne:∀{j:Nat},j<i→(l.getD j default).id≠id:=fun h=>hall _ h
  refine⟨fun h2=>⟨h2,fun h3=> ?_,fun h3=>⟨⟨i+1,by omega,fun j hj=> ?_⟩,by dsimp only;omega,i64_in _ (by omega)⟩⟩,fun h2=> ?_⟩
  ·have hf:Srt.fnd Rk.id l id=some (l.getD i default):=ba3 (by omega) (by omega) hall
   rw [bcA,hf];exact⟨⟨rfl,rfl,rfl⟩,rfl⟩
  ·by_cases hji:j=i
   ·subst hji;omega
   ·exact hall j (by omega)
  ·have hi':i=l.length:=by omega
   subst hi'
   have hf:Srt.fnd Rk.id l id=none:=Srt.yaU.2 fun x hx=>by
    obtain⟨j,hj,rfl⟩:=ua.1 hx
    exact hall j hj
   rw [bcA,hf];exact⟨⟨rfl,rfl,rfl⟩,rfl⟩
def gP:List D→Option (Prop×D×Fr)
 |[.c (.sl z4), .c (.int .u64 z5)]=>some (z4=rks (vj z4)∧z5=(z5.toNat:Int),kaZ (vj z4) z5.toNat,[])
 |_=>none
attribute [go_sem] gP
theorem jaG:∀rs p r fr,gP rs=some (p,r,fr)→p→uc Tryz.prog 146 rs r fr:=by
 intro rs p r fr h hp
 unfold gP at h
 split at h<;>cases h
 obtain⟨hc0,hc1⟩:=hp
 rename_i z4 z5
 obtain⟨z4,rfl⟩:∃m,z4=rks m:=⟨_,hc0⟩
 obtain⟨z5,rfl⟩:∃m:Nat,z5=m:=⟨_,hc1⟩
 simp only [Int.toNat_natCast,yc]
 exact gbq z4 z5
@[go_sem] def gaZ (l:List Rk) (r:Rk):D:= .sl (rks (l.filter (fun e=>decide (e.id<r.id))++r::l.filter (fun e=>decide (r.id<e.id))))
@[go_sem] abbrev bdd:FuncId:=157
@[go_sem] def qbH:Tab:=[]
theorem uK:za Tryz.prog qbH:=za.nil
set_option maxRecDepth 8000 in
set_option maxHeartbeats 1000000 in
theorem ybr (l:List Rk) (r:Rk) (hl:l.length≤1000000):va Tryz.prog 157 [.sl (rks l), .agg [.c (.int .u64 (r.id:Int)), .c (.int .u64 (r.key:Int)), .c (.bool r.gone)]] (gaZ l r):=by
 refine .of (wdx uK (Nat.le_of_ble_eq_true rfl) ?_)
 simp -implicitDefEqProofs only [cdA,go_sem,Go.Proofs.Tryz.f157,reduceIte,reduceCtorEq,Nat.reduceEqDiff,Nat.reduceAdd,Nat.reduceLeDiff,Nat.reduceSub,Nat.reduceMul,Nat.reduceLT,Nat.reduceShiftRight,Nat.reduceMod,Int.reduceLE,Int.reduceLT,Int.reduceToNat,List.cons.injEq,cdB]
 refine fun _=>SWp.jax 5 3 70 rfl (Nat.zero_le _) ?_
 refine SWp.loop (ι:={i:Nat // i≤l.length}) (fun i=>⟨[(5, .vec 1 ((l.take i.1).filter (fun e=>decide (e.id<r.id))).length),(0, .sl (rks l)),(3, .ref 0 0),(10, .sl (rks l)),(11, .int .i64 l.length),(12, .int .i64 i.1)],[(1, .vec true 3 70 (rks ((l.take i.1).filter (fun e=>decide (e.id<r.id))))),(0, .box [.c (.int .u64 r.id), .c (.int .u64 r.key), .c (.bool r.gone)])],2⟩) (fun i=>l.length - i.1) ⟨0,by simp⟩ ?_ ?_
 ·simp [go_sem];rfl
 ·rintro⟨i,hi⟩
  refine qa uK.toS ubC _ _ _ rfl ?_
  simp -implicitDefEqProofs only [cdA,go_sem,reduceIte,reduceCtorEq,Nat.reduceEqDiff,Nat.reduceAdd,Nat.reduceLeDiff,Nat.reduceSub,Nat.reduceMul,Nat.reduceLT,Nat.reduceShiftRight,Nat.reduceMod,Int.reduceLE,Int.reduceLT,Int.reduceToNat,List.cons.injEq,cdB]
  have hf:∀h:i<l.length,(l.take (i+1)).filter (fun e=>decide (e.id<r.id))=(l.take i).filter (fun e=>decide (e.id<r.id))++if(l.getD i default).id<r.id then [l.getD i default]else []:=fun h=>by
   rw [take_succ h,List.filter_append]
   congr 1
   by_cases hx:(l.getD i default).id<r.id
   ·rw [if_pos hx,List.filter_cons_of_pos (by simpa using hx)];rfl
   ·rw [if_neg hx,List.filter_cons_of_neg (by simpa using hx)];rfl
  have hlen:((l.take i).filter (fun e=>decide (e.id<r.id))).length≤i:=Nat.le_trans (List.length_filter_le _ _) (by rw [List.length_take];omega)
  refine⟨fun h2=>⟨h2,fun h3=>⟨by omega,⟨i+1,by omega⟩,by dsimp only;omega,⟨?_,i64_in _ (by omega)⟩, ?_⟩,fun h3=>⟨⟨i+1,by omega⟩,by dsimp only;omega,⟨?_,i64_in _ (by omega)⟩, ?_⟩⟩,fun h2=>⟨by omega,fun _=> ?_⟩⟩
  ·dsimp only;rw [hf (by omega),if_pos (by omega),List.length_append];rfl
  ·dsimp only;rw [hf (by omega),if_pos (by omega)]
  ·dsimp only;rw [hf (by omega),if_neg (by omega),List.append_nil]
  ·dsimp only;rw [hf (by omega),if_neg (by omega),List.append_nil]
  have hi':i=l.length:=by omega
  subst hi'
  rw [List.take_length]at hlen⊢
  generalize hA:l.filter (fun e=>decide (e.id<r.id))=A at*
  refine SWp.loop (ι:={i:Nat // i≤l.length}) (fun i=>⟨[(5, .vec 1 (A++r::(l.take i.1).filter (fun e=>decide (r.id<e.id))).length),(3, .ref 0 0),(30, .sl (rks l)),(31, .int .i64 l.length),(32, .int .i64 i.1)],[(1, .vec true 3 70 (rks (A++r::(l.take i.1).filter (fun e=>decide (r.id<e.id))))),(0, .box [.c (.int .u64 r.id), .c (.int .u64 r.key), .c (.bool r.gone)])],2⟩) (fun i=>l.length - i.1) ⟨0,by simp⟩ ?_ ?_
  ·simp [go_sem]
  ·rintro⟨i,hi⟩
   refine qa uK.toS ubC _ _ _ rfl ?_
   simp -implicitDefEqProofs only [cdA,go_sem,reduceIte,reduceCtorEq,Nat.reduceEqDiff,Nat.reduceAdd,Nat.reduceLeDiff,Nat.reduceSub,Nat.reduceMul,Nat.reduceLT,Nat.reduceShiftRight,Nat.reduceMod,Int.reduceLE,Int.reduceLT,Int.reduceToNat,List.cons.injEq,cdB]
   have hf:∀h:i<l.length,(l.take (i+1)).filter (fun e=>decide (r.id<e.id))=(l.take i).filter (fun e=>decide (r.id<e.id))++if r.id<(l.getD i default).id then [l.getD i default]else []:=fun h=>by
    rw [take_succ h,List.filter_append]
    congr 1
    by_cases hx:r.id<(l.getD i default).id
    ·rw [if_pos hx,List.filter_cons_of_pos (by simpa using hx)];rfl
    ·rw [if_neg hx,List.filter_cons_of_neg (by simpa using hx)];rfl
   have hlen2:((l.take i).filter (fun e=>decide (r.id<e.id))).length≤i:=Nat.le_trans (List.length_filter_le _ _) (by rw [List.length_take];omega)
   refine⟨fun h2=>⟨h2,fun h3=>⟨by omega,⟨i+1,by omega⟩,by dsimp only;omega,⟨?_,i64_in _ (by omega)⟩, ?_⟩,fun h3=>⟨⟨i+1,by omega⟩,by dsimp only;omega,⟨?_,i64_in _ (by omega)⟩, ?_⟩⟩,fun h2=> ?_⟩
   ·dsimp only;rw [hf (by omega),if_pos (by omega),List.length_append];rfl
   ·dsimp only;rw [hf (by omega),if_pos (by omega)]
   ·dsimp only;rw [hf (by omega),if_neg (by omega),List.append_nil]
   ·dsimp only;rw [hf (by omega),if_neg (by omega),List.append_nil]
   ·have hi':i=l.length:=by omega
    subst hi'
    rw [List.take_length]
    exact⟨rfl,_,_,_,rfl⟩
@[go_sem] def uaZ (l:List Rk) (r:Rk):Prop:=(l.length≤1000000)
def yQ:List D→Option (Prop×D×Fr)
 |[.c (.sl z6), .agg [.c (.int .u64 z8), .c (.int .u64 z9), .c (.bool z10)]]=>some (z6=rks (vj z6)∧z8=(z8.toNat:Int)∧z9=(z9.toNat:Int)∧uaZ (vj z6) (⟨z8.toNat,z9.toNat,z10⟩:Rk),gaZ (vj z6) (⟨z8.toNat,z9.toNat,z10⟩:Rk),[])
 |_=>none
attribute [go_sem] yQ
theorem vaG:∀rs p r fr,yQ rs=some (p,r,fr)→p→uc Tryz.prog 157 rs r fr:=by
 intro rs p r fr h hp
 unfold yQ at h
 split at h<;>cases h
 obtain⟨hc0,hc1,hc2,hp⟩:=hp
 rename_i z6 z8 z9 z10
 obtain⟨z6,rfl⟩:∃m,z6=rks m:=⟨_,hc0⟩
 obtain⟨z8,rfl⟩:∃m:Nat,z8=m:=⟨_,hc1⟩
 obtain⟨z9,rfl⟩:∃m:Nat,z9=m:=⟨_,hc2⟩
 simp only [Int.toNat_natCast,yc]
 simp only [Int.toNat_natCast,yc,uaZ]at hp
 exact ybr z6 ⟨z8,z9,z10⟩ hp
@[go_sem] def wbq (l:List Rk) (id:Nat) (key:Nat):D:= .tup [.sl (rks (kj l id key).1), .int .i64 (kj l id key).2]
@[go_sem] abbrev bdT:FuncId:=77
@[go_sem] def bb8:Tab:=[(88,yw),(146,gP),(156,bP),(157,yQ)]
theorem ya9:za Tryz.prog bb8:=(za.cons uP (za.cons jaG (za.cons yac (za.cons vaG za.nil))))
set_option maxRecDepth 8000 in
set_option maxHeartbeats 1000000 in
theorem bbG (l:List Rk) (id:Nat) (key:Nat):va Tryz.prog 77 [.sl (rks l), .c (.int .u64 (id:Int)), .c (.int .u64 (key:Int))] (wbq l id key):=by
 refine .of (beu ya9 (Nat.le_of_ble_eq_true rfl) ?_)
 simp -implicitDefEqProofs only [cdA,go_sem,Go.Proofs.Tryz.f77,reduceIte,reduceCtorEq,Nat.reduceEqDiff,Nat.reduceAdd,Nat.reduceLeDiff,Nat.reduceSub,Nat.reduceMul,Nat.reduceLT,Nat.reduceShiftRight,Nat.reduceMod,Int.reduceLE,Int.reduceLT,Int.reduceToNat,List.cons.injEq,cdB]
 have hbad:∀e,yas l id key=e→¬e=0→rks (kj l id key).1=[]∧e=(kj l id key).2:=fun e h1 h2=>by
  rw [kj,if_neg (by rw [h1];exact h2),h1];exact⟨rfl,rfl⟩
 have hcz:vU l=0↔kad l:=by unfold vU;split<;>simp_all
 refine⟨fun h0=> ?_,fun h0=>hbad 1 (by rw [yas,if_pos fun h=>h0 (hcz.2 h)]) (by decide)⟩
 have hok:=hcz.1 h0
 have h64:=hok.1
 have hu:=ub9 hok
 have hth:(Srt.fnd Rk.id l id).isSome=Srt.thr Rk.id ltN l id:=by
  rw [Srt.wbg (lt:=ltN) Srt.jB hu]
  cases Srt.thr Rk.id ltN l id<;>rfl
 rw [hth]
 refine⟨fun h1=>⟨fun h2=>hbad 6 (by rw [yas,if_neg (fun h=>h hok),if_pos (.inr h2)]) (by decide),fun h2 _=>⟨fun h3=>hbad 7 ?_ (by decide),fun h3=>⟨by omega, ?_⟩⟩⟩,fun h1=>hbad 6 (by rw [yas,if_neg (fun h=>h hok),if_pos (.inl h1)]) (by decide)⟩
 ·rw [yas,if_neg (fun h=>h hok),if_neg (by rintro(h|h);rw [h1]at h;cases h;rw [h2]at h;cases h),if_pos (by omega)]
 ·have he:yas l id key=0:=by rw [yas,if_neg (fun h=>h hok),if_neg (by rintro(h|h);rw [h1]at h;cases h;rw [h2]at h;cases h),if_neg (by omega)]
  rw [kj,if_pos he]
  have:=Srt.ya6 (lt:=ltN) (key:=Rk.id) Srt.jB (x:=⟨id,key,false⟩) hu
  rw [Srt.put,if_neg (by rw [h1];decide)]at this
  exact⟨congrArg rks this,rfl⟩
def wZ:List D→Option (Prop×D×Fr)
 |[.c (.sl z11), .c (.int .u64 z12), .c (.int .u64 z13)]=>some (z11=rks (vj z11)∧z12=(z12.toNat:Int)∧z13=(z13.toNat:Int),wbq (vj z11) z12.toNat z13.toNat,[])
 |_=>none
attribute [go_sem] wZ
theorem baQ:∀rs p r fr,wZ rs=some (p,r,fr)→p→uc Tryz.prog 77 rs r fr:=by
 intro rs p r fr h hp
 unfold wZ at h
 split at h<;>cases h
 obtain⟨hc0,hc1,hc2⟩:=hp
 rename_i z11 z12 z13
 obtain⟨z11,rfl⟩:∃m,z11=rks m:=⟨_,hc0⟩
 obtain⟨z12,rfl⟩:∃m:Nat,z12=m:=⟨_,hc1⟩
 obtain⟨z13,rfl⟩:∃m:Nat,z13=m:=⟨_,hc2⟩
 simp only [Int.toNat_natCast,yc]
 exact bbG z11 z12 z13
end Dm
namespace Dm
open Go Go.Proofs Go.IntWalk
@[go_sem] def kb9:Tab:=[ovk 216]
theorem jT:za Tryz.prog kb9:= .cons (wdV 216) .nil
@[go_sem] def vb9:Tab:=[fg 12]
theorem va9:za Tryz.prog vb9:= .cons (ydM 12) .nil
theorem waC (l:List Rk):uf 3 (rks l):=of_eq_true (vbH l)
set_option maxRecDepth 8000 in
set_option maxHeartbeats 1000000 in
theorem wb9 (l:List Rk) (x:Rk) (i:Nat) (hi:i≤l.length) (hl:l.length≤1000000):
 ga Tryz.prog 155 [.vec 0 l.length, .int .i64 i, .vec 1 1] [(1, .vec true 3 70 (rks [x])),(0, .vec true 3 70 (rks l))] 2 fun d os _=>Grown 3 70 (rks (Srt.ins l i x)) d os:=by
 have hil:(Srt.ins l i x).length=l.length+1:=Srt.qam
 have hq:∀j os,lk j os=some (.vec true 3 70 (rks (Srt.ins l i x)))→Grown 3 70 (rks (Srt.ins l i x)) (.vec j (l.length+1)) os:=fun j os h=>⟨j,by rw [bh,hil],h⟩
 by_cases hin:i=l.length
 ·refine jcv va9 (Nat.le_of_ble_eq_true rfl) ?_
  have e4:((1:Int)=0)=False:=eq_false (by decide)
  subst hin
  simp -implicitDefEqProofs only [cdA,go_sem,Go.Proofs.Tryz.f155,e4,decide_true,reduceIte,reduceCtorEq,Nat.reduceEqDiff,Nat.reduceAdd,Nat.reduceLeDiff,Nat.reduceSub,Nat.reduceMul,Nat.reduceLT,Nat.reduceShiftRight,Nat.reduceMod,Int.reduceLE,Int.reduceLT,Int.reduceToNat,List.cons.injEq,cdB]
  refine⟨Int.le_refl _,fun h=>h.elim,fun _=>⟨by omega,hq _ _ ?_⟩⟩
  rw [gb,if_neg (by decide),xb0]
  simp [Srt.ins]
 ·have hlt:i<l.length:=by omega
  refine ga.opn 0 rfl (by rw [bh];omega) fun c hc hcm=> ?_
  refine ga.sld ?_
  rw [bh]at hc
  refine jcv jT (Nat.le_of_ble_eq_true rfl) ?_
  have e1:IntKind.i64.wrap ((l.length:Int)+1)=((l.length+1:Nat):Int):=by rw [i64_in _ (by omega)];omega
  have e2:IntKind.i64.wrap ((i:Int)+1)=((i+1:Nat):Int):=by rw [i64_in _ (by omega)];omega
  have e3:((i:Int)=(l.length:Int))=False:=eq_false (by omega)
  have e4:((1:Int)=0)=False:=eq_false (by decide)
  have e5:IntKind.i64.wrap ((l.length:Int)+1 - (i:Int))=((l.length+1 - i:Nat):Int):=by rw [i64_in _ (by omega)];omega
  have e6:((l.length:Int)+1).toNat=l.length+1:=by omega
  have e7:((i:Int)+1).toNat=i+1:=by omega
  have e8:i+(l.length+1 - i)=l.length+1:=by omega
  simp -implicitDefEqProofs only [cdA,go_sem,Go.Proofs.Tryz.f155,e3,e4,e1,e2,e5,e6,e7,e8,decide_false,reduceIte,reduceCtorEq,Nat.reduceEqDiff,Nat.reduceAdd,Nat.reduceLeDiff,Nat.reduceSub,Nat.reduceMul,Nat.reduceLT,Nat.reduceShiftRight,Nat.reduceMod,Int.reduceLE,Int.reduceLT,Int.reduceToNat,List.cons.injEq,cdB]
  refine⟨by omega,fun _=>⟨fun h1=>⟨by omega,by omega,fun c1 h2 h3=>⟨by omega, ?_⟩⟩,fun h1=>⟨by omega,by omega, ?_, ?_⟩⟩⟩
  ·refine ud.run vbJ jT ja (by kernel_rfl) (by kernel_rfl) ?_
   simp -implicitDefEqProofs only [cdA,go_sem,e1,e2,e5,e6,e7,e8,reduceIte,reduceCtorEq,Nat.reduceEqDiff,Nat.reduceAdd,Nat.reduceLeDiff,Nat.reduceSub,Nat.reduceMul,Nat.reduceLT,Nat.reduceShiftRight,Nat.reduceMod,Int.reduceLE,Int.reduceLT,Int.reduceToNat,List.cons.injEq,cdB]
   refine⟨by omega,by omega,fun y hy=>xF (waC l) y (List.mem_of_mem_take (List.mem_of_mem_drop hy)), ?_⟩
   have:=jbZ (sz:=3) (c:=c) (c1:=c1) (i:=i) (E:=rks l) (x:=x.enc) (z:=[C.int .u64 0,C.int .u64 0,C.bool false]) (by rw [bh];exact hlt) (by rw [bh];exact hc) (by rw [bh];exact h2)
   rw [bh]at this
   refine hq _ _ ?_
   rw [xb0]
   congr 2
   rw [show rks (List.take (l.length+1 - i) [x])=List.take (l.length+1 - i) [x.enc] by simp [rks],this]
   simp [rks,Srt.ins]
  ·exact⟨_,44,4,_,rfl,rfl,rfl,rfl,by kernel_rfl,vbU⟩
  ·refine ud.run wbJ jT ja (by kernel_rfl) (by kernel_rfl) ?_
   simp -implicitDefEqProofs only [cdA,go_sem,e1,e2,e5,e6,e7,e8,reduceIte,reduceCtorEq,Nat.reduceEqDiff,Nat.reduceAdd,Nat.reduceLeDiff,Nat.reduceSub,Nat.reduceMul,Nat.reduceLT,Nat.reduceShiftRight,Nat.reduceMod,Int.reduceLE,Int.reduceLT,Int.reduceToNat,List.cons.injEq,cdB]
   refine⟨by omega,by omega,fun y hy=>xF (waC l) y (List.mem_of_mem_take (List.mem_of_mem_drop hy)),by omega, ?_⟩
   have:=kbZ (sz:=3) (c:=c) (i:=i) (E:=rks l) (x:=x.enc) (by rw [bh];exact hlt) (by rw [bh];omega)
   rw [bh]at this
   refine hq _ _ ?_
   rw [xb0]
   congr 2
   rw [show rks (List.take (l.length+1 - i) [x])=List.take (l.length+1 - i) [x.enc] by simp [rks],this]
   simp [rks,Srt.ins]
@[go_sem] def vbP (l:List Rk) (id:Nat) (key:Nat):D:= .tup [.sl (rks (kj l id key).1), .int .i64 (kj l id key).2]
@[go_sem] abbrev gej:FuncId:=76
@[go_sem] def kcQ:Tab:=[(154,xE),(139,bw),(134,qw)]
theorem kbr:za Tryz.prog kcQ:=(za.cons vW (za.cons uQ (za.cons jQ za.nil)))
set_option maxRecDepth 8000 in
set_option maxHeartbeats 1000000 in
theorem xb9 (l:List Rk) (id:Nat) (key:Nat):va Tryz.prog 76 [.sl (rks l), .c (.int .u64 (id:Int)), .c (.int .u64 (key:Int))] (vbP l id key):=by
 refine .of (geu kbr (Nat.le_of_ble_eq_true rfl) ?_)
 simp -implicitDefEqProofs only [cdA,go_sem,Go.Proofs.Tryz.f76,reduceIte,reduceCtorEq,Nat.reduceEqDiff,Nat.reduceAdd,Nat.reduceLeDiff,Nat.reduceSub,Nat.reduceMul,Nat.reduceLT,Nat.reduceShiftRight,Nat.reduceMod,Int.reduceLE,Int.reduceLT,Int.reduceToNat,List.cons.injEq,cdB]
 have hbad:∀e,yas l id key=e→¬e=0→rks (kj l id key).1=[]∧e=(kj l id key).2:=fun e h1 h2=>by
  rw [kj,if_neg (by rw [h1];exact h2),h1];exact⟨rfl,rfl⟩
 by_cases hok:kad l
 rotate_left 1
 ·have ef:qT l id=(0,false,1):=by rw [qT,if_neg hok]
  rw [ef]
  exact⟨fun h=>absurd (show(1:Int)=0 from h) (by decide),fun _=>hbad 1 (by rw [yas,if_pos hok]) (by decide)⟩
 have ef:qT l id=(Srt.pos Rk.id ltN l id,Srt.thr Rk.id ltN l id,0):=by rw [qT,if_pos hok]
 have h256:=hok.1
 rw [ef]
 refine⟨fun _=>⟨fun h1=>⟨fun h2=>hbad 6 (by rw [yas,if_neg (fun h=>h hok),if_pos (.inr h2)]) (by decide),fun h2 _=>⟨fun h3=>hbad 7 ?_ (by decide),fun h3=>⟨by omega, ?_⟩⟩⟩,fun h1=>hbad 6 (by rw [yas,if_neg (fun h=>h hok),if_pos (.inl h1)]) (by decide)⟩,fun h=>absurd rfl h⟩
 ·dsimp only at h1
  rw [yas,if_neg (fun h=>h hok),if_neg (by rintro(h|h);rw [h1]at h;cases h;rw [h2]at h;cases h),if_pos (by omega)]
 dsimp only at h1⊢
 have hpos:Srt.pos Rk.id ltN l id≤l.length:=Srt.jbP
 refine ga.grow (mid:=[.int .i64 _]) (wb9 l ⟨id,key,false⟩ (Srt.pos Rk.id ltN l id) hpos (by omega)) rfl rfl (by decide) (by simp [Srt.qam]) (fun d hd g g' w v hv=> ?_) ?_
 ·simp at hd;subst hd
  cases hv with
  |c _ _ h=>cases h;exact .c _ _ (.int _ _)
 ·simp -implicitDefEqProofs only [cdA,go_sem,reduceIte,reduceCtorEq,Nat.reduceEqDiff,Nat.reduceAdd,Nat.reduceLeDiff,Nat.reduceSub,Nat.reduceMul,Nat.reduceLT,Nat.reduceShiftRight,Nat.reduceMod,Int.reduceLE,Int.reduceLT,Int.reduceToNat,List.cons.injEq,cdB]
  have he:yas l id key=0:=by rw [yas,if_neg (fun h=>h hok),if_neg (by rintro(h|h);rw [h1]at h;cases h;rw [h2]at h;cases h),if_neg (by omega)]
  rw [kj,if_pos he]
  exact⟨⟨rfl,_,_,_,rfl⟩,rfl⟩
def waq:List D→Option (Prop×D×Fr)
 |[.c (.sl z1), .c (.int .u64 z2), .c (.int .u64 z3)]=>some (z1=rks (vj z1)∧z2=(z2.toNat:Int)∧z3=(z3.toNat:Int),vbP (vj z1) z2.toNat z3.toNat,[])
 |_=>none
attribute [go_sem] waq
theorem bba:∀rs p r fr,waq rs=some (p,r,fr)→p→uc Tryz.prog 76 rs r fr:=by
 intro rs p r fr h hp
 unfold waq at h
 split at h<;>cases h
 obtain⟨hc0,hc1,hc2⟩:=hp
 rename_i z1 z2 z3
 obtain⟨z1,rfl⟩:∃m,z1=rks m:=⟨_,hc0⟩
 obtain⟨z2,rfl⟩:∃m:Nat,z2=m:=⟨_,hc1⟩
 obtain⟨z3,rfl⟩:∃m:Nat,z3=m:=⟨_,hc2⟩
 simp only [Int.toNat_natCast,yc]
 exact xb9 z1 z2 z3
theorem qbI {b:Bk} (hb:jU b=0):wa0 b:=by
 obtain⟨h1,h2,h3,h4,h5⟩:=kU.1 hb
 have hk:kcO b.k:=by unfold bbe at h4;split at h4;assumption;cases h4
 have hs:=qal h5
 have hal:=h2.1
 have hrl:=h3.1
 have hkl:=hk.1
 have hsl:=hs.1
 refine⟨ua0 (ybM.1 h1),⟨by omega,fun t ht=> ?_⟩,by omega,⟨by omega,fun k hm=> ?_⟩,by omega⟩
 ·obtain⟨j,hj,rfl⟩:=ua.1 ht
  have:=(h2.2.2 j (List.mem_range.2 hj)).2.2.2;omega
 ·have:=hk.2.1 k hm;omega
theorem gbs {b:Bk} {l:List Rk} {t:Tm} (hb:jU b=0) (hl:l.length≤64) (hp:(vh b.a.l t).2.2=0) (ht: -1≤t.up∧(-1<t.up→t.key=0)):wa0 ⟨b.w,⟨(vh b.a.l t).1⟩,l,b.k,b.s⟩:=by
 have h1:=qbI (bbT hb hp ht)
 exact⟨h1.1,h1.2.1,by show l.length≤_;omega,h1.2.2.2⟩
theorem xS {b:Bk} {id key:Nat} {l:List Rk×Int} {e:Int} (h:yh b id key l=(gae,⟨0,[],0⟩,e)):(chs (yh b id key l).1.w.c=[]∧wts (yh b id key l).1.w.w=[]∧ivs (yh b id key l).1.w.i=[]∧pys (yh b id key l).1.w.p=[]∧0=((yh b id key l).1.w.f.next:Int)∧evs (yh b id key l).1.w.f.l=[]∧0=((yh b id key l).1.w.next:Int)∧0=((yh b id key l).1.w.tick:Int)∧tms (yh b id key l).1.a.l=[]∧rks (yh b id key l).1.r=[]∧kys (yh b id key l).1.k=[]∧cts (yh b id key l).1.s=[])∧(0=((yh b id key l).2.1.root:Int)∧cvs (yh b id key l).2.1.l=[]∧0=(yh b id key l).2.1.tag)∧e=(yh b id key l).2.2:=by
 rw [h];exact⟨⟨rfl,rfl,rfl,rfl,rfl,rfl,rfl,rfl,rfl,rfl,rfl,rfl⟩,⟨rfl,rfl,rfl⟩,rfl⟩
theorem bbc {l:List Rk} {id key:Nat} (h:(kj l id key).2=0):(kj l id key).1.length≤64:=by
 unfold kj at h⊢
 split at h
 ·rename_i h1
  rw [if_pos h1]
  unfold yas at h1
  split at h1
  ·cases h1
  rename_i h2
  have:=(Classical.not_not.1 h2).1
  split at h1
  ·cases h1
  split at h1
  ·cases h1
  rename_i h4
  dsimp only
  rw [Srt.qam];omega
 ·rename_i h1;exact absurd h h1
@[go_sem] def xbh (b:Bk) (id:Nat) (key:Nat):D:= .tup [.agg [.sl (chs (yh b id key (kj b.r id key)).1.w.c), .sl (wts (yh b id key (kj b.r id key)).1.w.w), .sl (ivs (yh b id key (kj b.r id key)).1.w.i), .sl (pys (yh b id key (kj b.r id key)).1.w.p), .int .u64 (yh b id key (kj b.r id key)).1.w.f.next, .sl (evs (yh b id key (kj b.r id key)).1.w.f.l), .int .u64 (yh b id key (kj b.r id key)).1.w.next, .int .u64 (yh b id key (kj b.r id key)).1.w.tick, .sl (tms (yh b id key (kj b.r id key)).1.a.l), .sl (rks (yh b id key (kj b.r id key)).1.r), .sl (kys (yh b id key (kj b.r id key)).1.k), .sl (cts (yh b id key (kj b.r id key)).1.s)], .agg [.int .u64 (yh b id key (kj b.r id key)).2.1.root, .sl (cvs (yh b id key (kj b.r id key)).2.1.l), .int .i64 (yh b id key (kj b.r id key)).2.1.tag], .int .i64 (yh b id key (kj b.r id key)).2.2]
@[go_sem] abbrev ydT:FuncId:=26
@[go_sem] def wbY:Tab:=[(31,uD),(76,waq),(19,y5),(64,vao)]
theorem qF:za Tryz.prog wbY:=(za.cons qW (za.cons bba (za.cons waR (za.cons vba za.nil))))
set_option maxRecDepth 8000 in
set_option maxHeartbeats 1000000 in
theorem bbA (b:Bk) (id:Nat) (key:Nat) (h:b.w.f.next≤18446744073709551615):va Tryz.prog 26 [.agg [.sl (chs b.w.c), .sl (wts b.w.w), .sl (ivs b.w.i), .sl (pys b.w.p), .c (.int .u64 (b.w.f.next:Int)), .sl (evs b.w.f.l), .c (.int .u64 (b.w.next:Int)), .c (.int .u64 (b.w.tick:Int)), .sl (tms b.a.l), .sl (rks b.r), .sl (kys b.k), .sl (cts b.s)], .c (.int .u64 (id:Int)), .c (.int .u64 (key:Int))] (xbh b id key):=by
 refine .of (ker qF (Nat.le_of_ble_eq_true rfl) ?_)
 simp -implicitDefEqProofs only [cdA,go_sem,Go.Proofs.Tryz.f26,reduceIte,reduceCtorEq,Nat.reduceEqDiff,Nat.reduceAdd,Nat.reduceLeDiff,Nat.reduceSub,Nat.reduceMul,Nat.reduceLT,Nat.reduceShiftRight,Nat.reduceMod,Int.reduceLE,Int.reduceLT,Int.reduceToNat,List.cons.injEq,cdB]
 refine keu qF (Nat.le_of_ble_eq_true rfl) ?_
 simp -implicitDefEqProofs only [cdA,go_sem,Go.Proofs.Tryz.f65,reduceIte,reduceCtorEq,Nat.reduceEqDiff,Nat.reduceAdd,Nat.reduceLeDiff,Nat.reduceSub,Nat.reduceMul,Nat.reduceLT,Nat.reduceShiftRight,Nat.reduceMod,Int.reduceLE,Int.reduceLT,Int.reduceToNat,List.cons.injEq,cdB]
 refine⟨h,fun h1=>⟨fun h2=>⟨fun h3=> ?_,fun h3=> ?_⟩,fun h2=> ?_⟩,fun h1=> ?_⟩
 ·refine ud.run xce qF ja (by kernel_rfl) (by kernel_rfl) ?_
  simp -implicitDefEqProofs only [cdA,go_sem,reduceIte,reduceCtorEq,Nat.reduceEqDiff,Nat.reduceAdd,Nat.reduceLeDiff,Nat.reduceSub,Nat.reduceMul,Nat.reduceLT,Nat.reduceShiftRight,Nat.reduceMod,Int.reduceLE,Int.reduceLT,Int.reduceToNat,List.cons.injEq,cdB]
  refine ud.run qce qF ja (by kernel_rfl) (by kernel_rfl) ?_
  simp -implicitDefEqProofs only [cdA,go_sem,reduceIte,reduceCtorEq,Nat.reduceEqDiff,Nat.reduceAdd,Nat.reduceLeDiff,Nat.reduceSub,Nat.reduceMul,Nat.reduceLT,Nat.reduceShiftRight,Nat.reduceMod,Int.reduceLE,Int.reduceLT,Int.reduceToNat,List.cons.injEq,cdB]
  refine⟨gbs h1 (bbc h2) h3 ⟨Int.le_refl _,fun h=>absurd h (Int.lt_irrefl _)⟩, ?_⟩
  have e:yh b id key (kj b.r id key)=(⟨b.w,⟨(vh b.a.l ⟨key, -1,qk [id]⟩).1⟩,(kj b.r id key).1,b.k,b.s⟩,⟨id,[],(vh b.a.l ⟨key, -1,qk [id]⟩).2.1⟩,0):=by
   rw [yh,if_neg (fun h=>h h1),if_neg (fun h=>h h2),if_neg (fun h=>h h3)]
  rw [e,if_pos h3]
  exact⟨⟨rfl,rfl,rfl,rfl,rfl,rfl,rfl,rfl,rfl,rfl,rfl,rfl⟩,⟨rfl,rfl,rfl⟩,rfl⟩
 ·exact xS (by rw [yh,if_neg (fun h=>h h1),if_neg (fun h=>h h2),if_pos h3])
 ·exact xS (by rw [yh,if_neg (fun h=>h h1),if_pos h2])
 ·exact xS (by rw [yh,if_pos h1])
@[go_sem] def ybh (b:Bk) (id:Nat) (key:Nat):Prop:=(b.w.f.next≤18446744073709551615)
def yZ:List D→Option (Prop×D×Fr)
 |[.agg [.c (.sl z6), .c (.sl z7), .c (.sl z8), .c (.sl z9), .c (.int .u64 z11), .c (.sl z12), .c (.int .u64 z13), .c (.int .u64 z14), .c (.sl z16), .c (.sl z17), .c (.sl z18), .c (.sl z19)], .c (.int .u64 z20), .c (.int .u64 z21)]=>some (z6=chs (ug z6)∧z7=wts (vl z7)∧z8=ivs (qi z8)∧z9=pys (ji z9)∧z11=(z11.toNat:Int)∧z12=evs (xh z12)∧z13=(z13.toNat:Int)∧z14=(z14.toNat:Int)∧z16=tms (zh z16)∧z17=rks (vj z17)∧z18=kys (yo z18)∧z19=cts (xm z19)∧z20=(z20.toNat:Int)∧z21=(z21.toNat:Int)∧ybh (⟨(⟨(ug z6),(vl z7),(qi z8),(ji z9),(⟨z11.toNat,(xh z12)⟩:Fd),z13.toNat,z14.toNat⟩:Wl),(⟨(zh z16)⟩:Ar),(vj z17),(yo z18),(xm z19)⟩:Bk) z20.toNat z21.toNat,xbh (⟨(⟨(ug z6),(vl z7),(qi z8),(ji z9),(⟨z11.toNat,(xh z12)⟩:Fd),z13.toNat,z14.toNat⟩:Wl),(⟨(zh z16)⟩:Ar),(vj z17),(yo z18),(xm z19)⟩:Bk) z20.toNat z21.toNat,[])
 |_=>none
attribute [go_sem] yZ
theorem jaQ:∀rs p r fr,yZ rs=some (p,r,fr)→p→uc Tryz.prog 26 rs r fr:=by
 intro rs p r fr h hp
 unfold yZ at h
 split at h<;>cases h
 obtain⟨hc0,hc1,hc2,hc3,hc4,hc5,hc6,hc7,hc8,hc9,hc10,hc11,hc12,hc13,hp⟩:=hp
 rename_i z6 z7 z8 z9 z11 z12 z13 z14 z16 z17 z18 z19 z20 z21
 obtain⟨z6,rfl⟩:∃m,z6=chs m:=⟨_,hc0⟩
 obtain⟨z7,rfl⟩:∃m,z7=wts m:=⟨_,hc1⟩
 obtain⟨z8,rfl⟩:∃m,z8=ivs m:=⟨_,hc2⟩
 obtain⟨z9,rfl⟩:∃m,z9=pys m:=⟨_,hc3⟩
 obtain⟨z11,rfl⟩:∃m:Nat,z11=m:=⟨_,hc4⟩
 obtain⟨z12,rfl⟩:∃m,z12=evs m:=⟨_,hc5⟩
 obtain⟨z13,rfl⟩:∃m:Nat,z13=m:=⟨_,hc6⟩
 obtain⟨z14,rfl⟩:∃m:Nat,z14=m:=⟨_,hc7⟩
 obtain⟨z16,rfl⟩:∃m,z16=tms m:=⟨_,hc8⟩
 obtain⟨z17,rfl⟩:∃m,z17=rks m:=⟨_,hc9⟩
 obtain⟨z18,rfl⟩:∃m,z18=kys m:=⟨_,hc10⟩
 obtain⟨z19,rfl⟩:∃m,z19=cts m:=⟨_,hc11⟩
 obtain⟨z20,rfl⟩:∃m:Nat,z20=m:=⟨_,hc12⟩
 obtain⟨z21,rfl⟩:∃m:Nat,z21=m:=⟨_,hc13⟩
 simp only [Int.toNat_natCast,yb,jd,qb,vb,ze,jb,yc,xb,qc]
 simp only [Int.toNat_natCast,yb,jd,qb,vb,ze,jb,yc,xb,qc,ybh]at hp
 exact bbA ⟨⟨z6,z7,z8,z9,⟨z11,z12⟩,z13,z14⟩,⟨z16⟩,z17,z18,z19⟩ z20 z21 hp
end Dm
namespace Dm
open Go Go.Proofs Go.IntWalk
def yaK:Bk:=⟨⟨[],[],[],[],⟨1,[]⟩,1,0⟩,⟨[]⟩,[],[],[]⟩
def jg (keys:List Nat):Nat→Bk×List Tk×Int
 |0=>(yaK,[],0)
 |n+1=>if(jg keys n).2.2≠0 then jg keys n else
  if(yh (jg keys n).1 (n+1) (keys.getD n default) (kj (jg keys n).1.r (n+1) (keys.getD n default))).2.2=0 then
   ((yh (jg keys n).1 (n+1) (keys.getD n default) (kj (jg keys n).1.r (n+1) (keys.getD n default))).1,(jg keys n).2.1++[(yh (jg keys n).1 (n+1) (keys.getD n default) (kj (jg keys n).1.r (n+1) (keys.getD n default))).2.1],0)
  else(gae,[],(yh (jg keys n).1 (n+1) (keys.getD n default) (kj (jg keys n).1.r (n+1) (keys.getD n default))).2.2)
theorem wF {keys:List Nat}:∀{n:Nat},(jg keys n).2.2=0→(jg keys n).2.1.length=n
 |0,_=>rfl
 |n+1,h=>by
  rw [jg]at h⊢
  split at h
  ·rename_i h1;exact absurd h h1
  rename_i h1
  rw [if_neg h1]
  split at h
  ·rename_i h2
   rw [if_pos h2]
   dsimp only
   rw [List.length_append,wF (Classical.not_not.1 h1)];rfl
  ·rename_i h2;exact absurd h h2
theorem b9 {keys:List Nat} {n:Nat} (h:¬(jg keys n).2.2=0):∀{m:Nat},n≤m→jg keys m=jg keys n
 |0,hm=>by rw [show n=0 by omega]
 |m+1,hm=>by
  by_cases e:n=m+1
  ·rw [e]
  ·have ih:=b9 h (m:=m) (by omega)
   rw [jg,if_pos (by rw [ih];exact h),ih]
theorem bdG {b:Bk} {id key:Nat} {l:List Rk×Int} (h:(yh b id key l).2.2=0):(yh b id key l).1.w=b.w:=by
 unfold yh at h⊢
 split at h
 ·rename_i h1;exact absurd h h1
 split at h
 ·rename_i h1;exact absurd h h1
 split at h
 ·rename_i h1;exact absurd h h1
 rename_i h1 h2 h3
 rw [if_neg h1,if_neg h2,if_neg h3]
def xg (keys:List Nat):Bk×List Tk×Int:=jg keys keys.length
@[go_sem] def ubM (keys:List Nat):D:= .tup [.agg [.sl (chs (xg keys).1.w.c), .sl (wts (xg keys).1.w.w), .sl (ivs (xg keys).1.w.i), .sl (pys (xg keys).1.w.p), .int .u64 (xg keys).1.w.f.next, .sl (evs (xg keys).1.w.f.l), .int .u64 (xg keys).1.w.next, .int .u64 (xg keys).1.w.tick, .sl (tms (xg keys).1.a.l), .sl (rks (xg keys).1.r), .sl (kys (xg keys).1.k), .sl (cts (xg keys).1.s)], .sl (tks (xg keys).2.1), .int .i64 (xg keys).2.2]
@[go_sem] abbrev jej:FuncId:=10
@[go_sem] def kcB:Tab:=[(35,qar),(26,yZ)]
theorem xC:za Tryz.prog kcB:=(za.cons xbb (za.cons jaQ za.nil))
set_option maxRecDepth 8000 in
set_option maxHeartbeats 1000000 in
theorem kbY (keys:List Nat) (hl:keys.length≤1000000):va Tryz.prog 10 [.sl (yj keys)] (ubM keys):=by
 refine .of (xeq xC (Nat.le_of_ble_eq_true rfl) ?_)
 simp -implicitDefEqProofs only [cdA,go_sem,Go.Proofs.Tryz.f10,reduceIte,reduceCtorEq,Nat.reduceEqDiff,Nat.reduceAdd,Nat.reduceLeDiff,Nat.reduceSub,Nat.reduceMul,Nat.reduceLT,Nat.reduceShiftRight,Nat.reduceMod,Int.reduceLE,Int.reduceLT,Int.reduceToNat,List.cons.injEq,cdB]
 refine ud.run wcS xC ja (by kernel_rfl) (by kernel_rfl) ?_
 simp -implicitDefEqProofs only [cdA,go_sem,reduceIte,reduceCtorEq,Nat.reduceEqDiff,Nat.reduceAdd,Nat.reduceLeDiff,Nat.reduceSub,Nat.reduceMul,Nat.reduceLT,Nat.reduceShiftRight,Nat.reduceMod,Int.reduceLE,Int.reduceLT,Int.reduceToNat,List.cons.injEq,cdB]
 refine⟨⟨Int.le_refl _,by omega⟩,fun _=> ?_⟩
 refine SWp.xbP 2 rfl ?_
 refine SWp.loop (ι:={i:Nat // i≤keys.length∧(jg keys i).2.2=0∧(jg keys i).1.w.f.next≤18446744073709551615}) (fun i=>⟨[(2, .ref 0 0),(5, .ref 2 0),(6, .vec 1 keys.length),(17, .sl (yj keys)),(18, .int .i64 keys.length),(19, .int .i64 i.1)],[(1, .vec true 3 26 (tks ((jg keys i.1).2.1++List.replicate (keys.length - i.1) ⟨0,[],0⟩))),(2, .box [.sl (chs (jg keys i.1).1.w.c), .sl (wts (jg keys i.1).1.w.w), .sl (ivs (jg keys i.1).1.w.i), .sl (pys (jg keys i.1).1.w.p), .c (.int .u64 (jg keys i.1).1.w.f.next), .sl (evs (jg keys i.1).1.w.f.l), .c (.int .u64 (jg keys i.1).1.w.next), .c (.int .u64 (jg keys i.1).1.w.tick), .sl (tms (jg keys i.1).1.a.l), .sl (rks (jg keys i.1).1.r), .sl (kys (jg keys i.1).1.k), .sl (cts (jg keys i.1).1.s)]),(0, .box [.nil, .nil, .nil, .nil, .c (.int .u64 0), .nil, .c (.int .u64 0), .c (.int .u64 0), .nil, .nil, .nil, .nil])],3⟩) (fun i=>keys.length - i.1) ⟨0,Nat.zero_le _,rfl,by show(1:Nat)≤_;decide⟩ ?_ ?_
 ·simp [go_sem,slD,jg,yaK,tks]
  exact⟨.inr rfl,rfl,rfl,rfl,rfl⟩
 ·rintro⟨i,hi,he,hf⟩
  have e1:i<keys.length→IntKind.u64.wrap (IntKind.u64.wrap (i:Int)+1)=((i+1:Nat):Int):=fun h=>by rw [u64_in (i:Int) (by omega),u64_in _ (by omega)];omega
  by_cases hlt:i<keys.length
  rotate_left 1
  ·have hie:i=keys.length:=by omega
   subst hie
   have hb:((keys.length:Int)<(keys.length:Int))=False:=eq_false (by omega)
   refine qa xC.toS gc9 _ _ _ rfl ?_
   simp -implicitDefEqProofs only [cdA,go_sem,hb,cdN,reduceIte,reduceCtorEq,Nat.reduceEqDiff,Nat.reduceAdd,Nat.reduceLeDiff,Nat.reduceSub,Nat.reduceMul,Nat.reduceLT,Nat.reduceShiftRight,Nat.reduceMod,Int.reduceLE,Int.reduceLT,Int.reduceToNat,List.cons.injEq,cdB]
   exact⟨⟨rfl,rfl,rfl,rfl,rfl,rfl,rfl,rfl,rfl,rfl,rfl,rfl⟩,⟨(wF he).symm,_,_,_,by rw [Nat.sub_self,List.replicate_zero,List.append_nil];rfl⟩,he.symm⟩
  have e2:=e1 hlt
  have hb:((i:Int)<(keys.length:Int))=True:=eq_true (by omega)
  have e3:((i:Int)+1).toNat=i+1:=by omega
  have e4:((i:Int)+1=((i+1:Nat):Int))=True:=eq_true (by omega)
  refine qa xC.toS gc9 _ _ _ rfl ?_
  simp -implicitDefEqProofs only [cdA,go_sem,e2,e3,e4,hb,Int.toNat_natCast,cdN,reduceIte,reduceCtorEq,Nat.reduceEqDiff,Nat.reduceAdd,Nat.reduceLeDiff,Nat.reduceSub,Nat.reduceMul,Nat.reduceLT,Nat.reduceShiftRight,Nat.reduceMod,Int.reduceLE,Int.reduceLT,Int.reduceToNat,List.cons.injEq,cdB]
  generalize hc:yh (jg keys i).1 (i+1) (keys.getD i default) (kj (jg keys i).1.r (i+1) (keys.getD i default))=c at*
  refine⟨hf,fun hc0=> ?_,fun hc0=> ?_⟩
  ·have e5:jg keys (i+1)=(c.1,(jg keys i).2.1++[c.2.1],0):=by rw [jg,if_neg (fun h=>h he),hc,if_pos hc0]
   have hw:c.1.w=(jg keys i).1.w:=by rw [←hc]at hc0⊢;exact bdG hc0
   have hlen:=wF he
   refine ud.run ucS xC ja (by kernel_rfl) (by kernel_rfl) ?_
   simp -implicitDefEqProofs only [cdA,go_sem,reduceIte,reduceCtorEq,Nat.reduceEqDiff,Nat.reduceAdd,Nat.reduceLeDiff,Nat.reduceSub,Nat.reduceMul,Nat.reduceLT,Nat.reduceShiftRight,Nat.reduceMod,Int.reduceLE,Int.reduceLT,Int.reduceToNat,List.cons.injEq,cdB]
   refine⟨by omega,⟨by rw [hlen,List.length_replicate];omega,hlt⟩,⟨i+1,hlt,by rw [e5],by rw [e5,hw];exact hf⟩,by dsimp only;omega,i64_in _ (by omega), ?_⟩
   dsimp only
   rw [e5]
   refine⟨?_,rfl,rfl,rfl,rfl,rfl,rfl,rfl,rfl,rfl,rfl,rfl,rfl⟩
   congr 2
   obtain⟨k,hk⟩:∃k,keys.length - i=k+1:=⟨keys.length - i - 1,by omega⟩
   rw [hk,show keys.length - (i+1)=k by omega,List.set_append_right _ _ (by omega),hlen,Nat.sub_self,List.replicate_succ,List.set_cons_zero,List.append_assoc];rfl
  ·have e5:jg keys (i+1)=(gae,[],c.2.2):=by rw [jg,if_neg (fun h=>h he),hc,if_neg hc0]
   have e6:xg keys=(gae,[],c.2.2):=by
    rw [xg,b9 (n:=i+1) (by rw [e5];exact hc0) hlt,e5]
   rw [e6]
   exact⟨⟨rfl,rfl,rfl,rfl,rfl,rfl,rfl,rfl,rfl,rfl,rfl,rfl⟩,rfl,rfl⟩
@[go_sem] def wbM (keys:List Nat):Prop:=(keys.length≤1000000)
def gab:List D→Option (Prop×D×Fr)
 |[.c (.sl z1)]=>some (z1=yj (qm z1)∧wbM (qm z1),ubM (qm z1),[])
 |_=>none
attribute [go_sem] gab
theorem yak:∀rs p r fr,gab rs=some (p,r,fr)→p→uc Tryz.prog 10 rs r fr:=by
 intro rs p r fr h hp
 unfold gab at h
 split at h<;>cases h
 obtain⟨hc0,hp⟩:=hp
 rename_i z1
 obtain⟨z1,rfl⟩:∃m,z1=yj m:=⟨_,hc0⟩
 simp only [qf]
 simp only [qf,wbM]at hp
 exact kbY z1 hp
end Dm
namespace Dm
open Go Go.Proofs Go.IntWalk
theorem vex:xg [9]=(⟨⟨[],[],[],[],⟨1,[]⟩,1,0⟩,⟨[⟨9, -1,[1]⟩]⟩,[⟨1,9,false⟩],[],[]⟩,[⟨1,[],0⟩],0):=by kernel_rfl
theorem kee:jy [⟨9, -1,[1]⟩] ⟨1,[],0⟩ ⟨1,0,0⟩=([⟨9, -1,[1]⟩,⟨0,0,[1,0]⟩],⟨1,[⟨1,0,0⟩],1⟩,0):=by kernel_rfl
theorem wex:uac ⟨[],[],[],[],⟨1,[]⟩,1,0⟩ 1=(⟨[],[],[],[],⟨1,[]⟩,1,1⟩,0):=by kernel_rfl
theorem uex:j9 ⟨⟨[],[],[],[],⟨1,[]⟩,1,0⟩,⟨[⟨9, -1,[1]⟩,⟨0,0,[1,0]⟩]⟩,[⟨1,9,false⟩],[],[]⟩ ⟨0,7,0,⟨1,[⟨1,0,0⟩],1⟩,0,0,0,[],[]⟩ 0=(true,0):=by kernel_rfl
theorem gex:j9 ⟨⟨[],[],[],[],⟨1,[]⟩,1,1⟩,⟨[⟨9, -1,[1]⟩,⟨0,0,[1,0]⟩]⟩,[⟨1,9,false⟩],[],[]⟩ ⟨0,7,0,⟨1,[⟨1,0,0⟩],1⟩,0,0,0,[],[]⟩ 0=(false,0):=by kernel_rfl
@[go_sem] def zbh:D:= .bool true
@[go_sem] abbrev zdT:FuncId:=8
@[go_sem] def qbY:Tab:=[(10,gab),(16,j3),(14,uab),(34,kR)]
theorem yag:za Tryz.prog qbY:=(za.cons yak (za.cons kaR (za.cons zak (za.cons yaH za.nil))))
set_option maxRecDepth 8000 in
set_option maxHeartbeats 1000000 in
theorem gbA:va Tryz.prog 8 [] (zbh):=by
 refine .of (ac8 yag (Nat.le_of_ble_eq_true rfl) ?_)
 simp -implicitDefEqProofs only [cdA,go_sem,Go.Proofs.Tryz.f8,reduceIte,reduceCtorEq,Nat.reduceEqDiff,Nat.reduceAdd,Nat.reduceLeDiff,Nat.reduceSub,Nat.reduceMul,Nat.reduceLT,Nat.reduceShiftRight,Nat.reduceMod,Int.reduceLE,Int.reduceLT,Int.reduceToNat,List.cons.injEq,cdB]
 rw [vex]
 refine⟨fun _ _=>⟨fun _=> ?_,fun h=>h rfl⟩,fun h=>h rfl⟩
 refine ud.run yd3 yag ja (by kernel_rfl) (by kernel_rfl) ?_
 simp -implicitDefEqProofs only [cdA,go_sem,kee,reduceIte,reduceCtorEq,Nat.reduceEqDiff,Nat.reduceAdd,Nat.reduceLeDiff,Nat.reduceSub,Nat.reduceMul,Nat.reduceLT,Nat.reduceShiftRight,Nat.reduceMod,Int.reduceLE,Int.reduceLT,Int.reduceToNat,List.cons.injEq,cdB]
 simp only [show([⟨1,[],0⟩]:List Tk).getD 0 default=⟨1,[],0⟩from rfl,show y7 []=[]from rfl,show zj []=[]from rfl,kee,wex,uex,gex]
 exact⟨⟨rfl,rfl⟩,⟨rfl,rfl,by decide⟩,fun _=>⟨fun _=>⟨fun _=>⟨fun _=>⟨fun _=>rfl,fun h=>Bool.noConfusion h⟩,fun h=>h trivial⟩,fun h=>h trivial⟩,fun h=>h trivial⟩,fun h=>h trivial⟩
def zZ:List D→Option (Prop×D×Fr)
 |[]=>some (True,zbh,[])
 |_=>none
attribute [go_sem] zZ
theorem qaQ:∀rs p r fr,zZ rs=some (p,r,fr)→p→uc Tryz.prog 8 rs r fr:=by
 intro rs p r fr h hp
 unfold zZ at h
 split at h<;>cases h
 exact gbA
end Dm
namespace Dm
open Go Go.Proofs Go.IntWalk
def zed (k:Ky):Prop:=¬(60<k.print.length∧k.print.length<4096)∧¬4100<k.print.length∧¬(60<k.reply.length∧k.reply.length<4096)∧¬4100<k.reply.length
instance (k:Ky):Decidable (zed k):=by unfold zed;infer_instance
@[go_sem] def xbg (r:Rq):D:= .bool (decide (r.t.l.length≤20∧r.items.length≤20∧r.l.length≤20))
@[go_sem] abbrev udS:FuncId:=9
@[go_sem] def ybV:Tab:=[]
theorem wa3:za Tryz.prog ybV:=za.nil
set_option maxRecDepth 8000 in
set_option maxHeartbeats 1000000 in
theorem zbA (r:Rq):va Tryz.prog 9 [.agg [.c (.int .u64 (r.id:Int)), .c (.int .i64 r.method), .c (.int .u64 (r.key:Int)), .c (.int .u64 (r.t.root:Int)), .sl (cvs r.t.l), .c (.int .i64 r.t.tag), .c (.int .u64 (r.a:Int)), .c (.int .u64 (r.n:Int)), .c (.int .u64 (r.till:Int)), .sl (its r.items), .sl (cvs r.l)]] (xbg r):=by
 refine .of (ac9 wa3 (Nat.le_of_ble_eq_true rfl) ?_)
 simp -implicitDefEqProofs only [cdA,go_sem,Go.Proofs.Tryz.f9,reduceIte,reduceCtorEq,Nat.reduceEqDiff,Nat.reduceAdd,Nat.reduceLeDiff,Nat.reduceSub,Nat.reduceMul,Nat.reduceLT,Nat.reduceShiftRight,Nat.reduceMod,Int.reduceLE,Int.reduceLT,Int.reduceToNat,List.cons.injEq,cdB]
 exact fun _=>⟨fun h1 _=>⟨fun h2 _=>decide_eq_decide.2 ⟨fun h=>⟨by omega,by omega,by omega⟩,fun h=>by omega⟩,fun h2=>(decide_eq_false fun h=>by omega).symm⟩,fun h1=>(decide_eq_false fun h=>by omega).symm⟩
def uY:List D→Option (Prop×D×Fr)
 |[.agg [.c (.int .u64 z31), .c (.int .i64 z32), .c (.int .u64 z33), .c (.int .u64 z35), .c (.sl z36), .c (.int .i64 z37), .c (.int .u64 z38), .c (.int .u64 z39), .c (.int .u64 z40), .c (.sl z41), .c (.sl z42)]]=>some (z31=(z31.toNat:Int)∧z33=(z33.toNat:Int)∧z35=(z35.toNat:Int)∧z36=cvs (zj z36)∧z38=(z38.toNat:Int)∧z39=(z39.toNat:Int)∧z40=(z40.toNat:Int)∧z41=its (y7 z41)∧z42=cvs (zj z42),xbg (⟨z31.toNat,z32,z33.toNat,(⟨z35.toNat,(zj z36),z37⟩:Tk),z38.toNat,z39.toNat,z40.toNat,(y7 z41),(zj z42)⟩:Rq),[])
 |_=>none
attribute [go_sem] uY
theorem zaQ:∀rs p r fr,uY rs=some (p,r,fr)→p→uc Tryz.prog 9 rs r fr:=by
 intro rs p r fr h hp
 unfold uY at h
 split at h<;>cases h
 obtain⟨hc0,hc1,hc2,hc3,hc4,hc5,hc6,hc7,hc8⟩:=hp
 rename_i z31 z32 z33 z35 z36 z37 z38 z39 z40 z41 z42
 obtain⟨z31,rfl⟩:∃m:Nat,z31=m:=⟨_,hc0⟩
 obtain⟨z33,rfl⟩:∃m:Nat,z33=m:=⟨_,hc1⟩
 obtain⟨z35,rfl⟩:∃m:Nat,z35=m:=⟨_,hc2⟩
 obtain⟨z36,rfl⟩:∃m,z36=cvs m:=⟨_,hc3⟩
 obtain⟨z38,rfl⟩:∃m:Nat,z38=m:=⟨_,hc4⟩
 obtain⟨z39,rfl⟩:∃m:Nat,z39=m:=⟨_,hc5⟩
 obtain⟨z40,rfl⟩:∃m:Nat,z40=m:=⟨_,hc6⟩
 obtain⟨z41,rfl⟩:∃m,z41=its m:=⟨_,hc7⟩
 obtain⟨z42,rfl⟩:∃m,z42=cvs m:=⟨_,hc8⟩
 simp only [Int.toNat_natCast,ye,uo]
 exact zbA ⟨z31,z32,z33,⟨z35,z36,z37⟩,z38,z39,z40,z41,z42⟩
end Dm
namespace Dm
open Go Go.Proofs Go.IntWalk
end Dm
namespace Dm
open Go Go.Proofs Go.IntWalk
theorem Cv.eqD {a b:Cv}:eqD Tryz.prog 59 [D.c (.int .i64 a.kind),D.c (.int .u64 a.a),D.c (.int .u64 a.b)] [D.c (.int .i64 b.kind),D.c (.int .u64 b.a),D.c (.int .u64 b.b)]=some (decide (a=b)):=by
 cases a;cases b
 simp only [Dm.eqD,wbU,xo,eqC,List.getElem?_cons_zero,List.getElem?_cons_succ,if_true,Option.some.injEq,Cv.mk.injEq]
 rw [Bool.eq_iff_iff]
 simp [Int.ofNat_inj]
attribute [go_sem] Cv.eqD
end Dm
namespace Dm
open Go Go.Proofs Go.IntWalk
theorem vX {n:Nat} (h:n<253):xbw n=[UInt8.ofNat n]:=by
 have h1:zS n=n:=by rw [zS,if_pos h]
 rw [xbw,jbw,za3,h1]
 rw [show w5 n=0 by rw [w5,if_pos h]];rfl
@[go_sem] def ubo (n:Nat):D:= .sl (u8s (xbw n))
@[go_sem] abbrev kdT:FuncId:=213
@[go_sem] def kb8:Tab:=[]
theorem ya8:za Tryz.prog kb8:=za.nil
set_option maxRecDepth 8000 in
set_option maxHeartbeats 1000000 in
theorem ubF (n:Nat) (h:n<253):va Tryz.prog 213 [.c (.int .u64 (n:Int))] (ubo n):=by
 refine .of (vdA ya8 (Nat.le_of_ble_eq_true rfl) ?_)
 simp -implicitDefEqProofs only [cdA,go_sem,Go.Proofs.Tryz.f213,reduceIte,reduceCtorEq,Nat.reduceEqDiff,Nat.reduceAdd,Nat.reduceLeDiff,Nat.reduceSub,Nat.reduceMul,Nat.reduceLT,Nat.reduceShiftRight,Nat.reduceMod,Int.reduceLE,Int.reduceLT,Int.reduceToNat,List.cons.injEq,cdB]
 rw [vX h]
 have e:w8 (n:Int)=UInt8.ofNat n:=by
  unfold w8
  congr 1
  omega
 rw [e]
 exact⟨fun _=>⟨rfl,_,_,_,rfl⟩,fun h'=>absurd (by omega) h'⟩
@[go_sem] def wbo (n:Nat):Prop:=(n<253)
def jZ:List D→Option (Prop×D×Fr)
 |[.c (.int .u64 z1)]=>some (z1=(z1.toNat:Int)∧wbo z1.toNat,ubo z1.toNat,[])
 |_=>none
attribute [go_sem] jZ
theorem waQ:∀rs p r fr,jZ rs=some (p,r,fr)→p→uc Tryz.prog 213 rs r fr:=by
 intro rs p r fr h hp
 unfold jZ at h
 split at h<;>cases h
 obtain⟨hc0,hp⟩:=hp
 rename_i z1
 obtain⟨z1,rfl⟩:∃m:Nat,z1=m:=⟨_,hc0⟩
 simp only [Int.toNat_natCast]
 simp only [Int.toNat_natCast,wbo]at hp
 exact ubF z1 hp
@[go_sem] def bbo (l:List Nat):D:= .sl (u8s (qk l))
@[go_sem] abbrev vdT:FuncId:=149
@[go_sem] def vb8:Tab:=[(213,jZ)]
theorem zaj:za Tryz.prog vb8:=(za.cons waQ za.nil)
set_option maxRecDepth 8000 in
set_option maxHeartbeats 1000000 in
theorem gbF (l:List Nat) (h:l.length≤1000∧∀n∈l,n<253):va Tryz.prog 149 [.sl (yj l)] (bbo l):=by
 refine .of (xdx zaj (Nat.le_of_ble_eq_true rfl) ?_)
 simp -implicitDefEqProofs only [cdA,go_sem,Go.Proofs.Tryz.f149,reduceIte,reduceCtorEq,Nat.reduceEqDiff,Nat.reduceAdd,Nat.reduceLeDiff,Nat.reduceSub,Nat.reduceMul,Nat.reduceLT,Nat.reduceShiftRight,Nat.reduceMod,Int.reduceLE,Int.reduceLT,Int.reduceToNat,List.cons.injEq,cdB]
 obtain⟨hl,hn⟩:=h
 refine fun _=>SWp.jax 3 1 5 rfl (Nat.zero_le _) ?_
 refine SWp.loop (ι:={i:Nat // i≤l.length}) (fun i=>⟨[(3, .vec 0 (qk (l.take i.1)).length),(6, .sl (yj l)),(7, .int .i64 l.length),(8, .int .i64 i.1)],[(0, .vec true 1 5 (u8s (qk (l.take i.1))))],1⟩) (fun i=>l.length - i.1) ⟨0,by simp⟩ ?_ ?_
 ·simp [go_sem,qk];rfl
 ·rintro⟨i,hi⟩
  refine qa zaj.toS ub1 _ _ _ rfl ?_
  simp -implicitDefEqProofs only [cdA,go_sem,reduceIte,reduceCtorEq,Nat.reduceEqDiff,Nat.reduceAdd,Nat.reduceLeDiff,Nat.reduceSub,Nat.reduceMul,Nat.reduceLT,Nat.reduceShiftRight,Nat.reduceMod,Int.reduceLE,Int.reduceLT,Int.reduceToNat,List.cons.injEq,cdB]
  have hs:∀h:i<l.length,qk (l.take (i+1))=qk (l.take i)++xbw (l.getD i default):=fun h=>by rw [kay h];rfl
  have hle:=yao (l:=l) (i:=i)
  refine⟨fun h1=> ?_,fun h1=> ?_⟩
  ·have h2:=hn _ (ua.2 ⟨i,by omega,rfl⟩)
   have h3:(xbw (l.getD i default)).length=1:=by rw [vX h2];rfl
   refine⟨h1,h2,by omega,⟨i+1,by omega⟩,by dsimp only;omega,⟨?_,i64_in _ (by omega)⟩, ?_⟩
   ·dsimp only;rw [hs (by omega),List.length_append]
   ·dsimp only;rw [hs (by omega)]
  ·have hi':i=l.length:=by omega
   subst hi'
   rw [List.take_length]
   exact⟨rfl,_,_,_,rfl⟩
@[go_sem] def gbo (l:List Nat):Prop:=(l.length≤1000∧∀n∈l,n<253)
def kZ:List D→Option (Prop×D×Fr)
 |[.c (.sl z2)]=>some (z2=yj (qm z2)∧gbo (qm z2),bbo (qm z2),[])
 |_=>none
attribute [go_sem] kZ
theorem uaQ:∀rs p r fr,kZ rs=some (p,r,fr)→p→uc Tryz.prog 149 rs r fr:=by
 intro rs p r fr h hp
 unfold kZ at h
 split at h<;>cases h
 obtain⟨hc0,hp⟩:=hp
 rename_i z2
 obtain⟨z2,rfl⟩:∃m,z2=yj m:=⟨_,hc0⟩
 simp only [qf]
 simp only [qf,gbo]at hp
 exact gbF z2 hp
@[go_sem] def xaZ (a:Ar) (root:Nat) (key:Nat):D:= .tup [.agg [.sl (tms (vh a.l ⟨key, -1,qk [root]⟩).1)], .agg [.int .u64 (if(vh a.l ⟨key, -1,qk [root]⟩).2.2=0 then root else 0:Nat), .sl (cvs []), .int .i64 (vh a.l ⟨key, -1,qk [root]⟩).2.1], .int .i64 (vh a.l ⟨key, -1,qk [root]⟩).2.2]
@[go_sem] abbrev vdd:FuncId:=158
@[go_sem] def ubG:Tab:=[(218,qP),(149,kZ)]
theorem uaa:za Tryz.prog ubG:=(za.cons baF (za.cons uaQ za.nil))
set_option maxRecDepth 8000 in
set_option maxHeartbeats 1000000 in
theorem kbq (a:Ar) (root:Nat) (key:Nat) (h:root<253):va Tryz.prog 158 [.agg [.sl (tms a.l)], .c (.int .u64 (root:Int)), .c (.int .u64 (key:Int))] (xaZ a root key):=by
 refine .of (udx uaa (Nat.le_of_ble_eq_true rfl) ?_)
 simp -implicitDefEqProofs only [cdA,go_sem,Go.Proofs.Tryz.f158,reduceIte,reduceCtorEq,Nat.reduceEqDiff,Nat.reduceAdd,Nat.reduceLeDiff,Nat.reduceSub,Nat.reduceMul,Nat.reduceLT,Nat.reduceShiftRight,Nat.reduceMod,Int.reduceLE,Int.reduceLT,Int.reduceToNat,List.cons.injEq,cdB]
 refine ud.run kcc uaa ja (by kernel_rfl) (by kernel_rfl) ?_
 simp -implicitDefEqProofs only [cdA,go_sem,reduceIte,reduceCtorEq,Nat.reduceEqDiff,Nat.reduceAdd,Nat.reduceLeDiff,Nat.reduceSub,Nat.reduceMul,Nat.reduceLT,Nat.reduceShiftRight,Nat.reduceMod,Int.reduceLE,Int.reduceLT,Int.reduceToNat,List.cons.injEq,cdB]
 refine⟨fun n hn=> ?_,fun h1=>⟨⟨by rw [if_pos h1],rfl⟩,h1.symm⟩,fun h1=> ?_⟩
 ·simp at hn;omega
 ·obtain⟨h2,h3⟩:=vaX h1
  rw [if_neg h1,h2,h3]
  exact⟨rfl,rfl,rfl,rfl⟩
@[go_sem] def yaZ (a:Ar) (root:Nat) (key:Nat):Prop:=(root<253)
def vP:List D→Option (Prop×D×Fr)
 |[.agg [.c (.sl z4)], .c (.int .u64 z5), .c (.int .u64 z6)]=>some (z4=tms (zh z4)∧z5=(z5.toNat:Int)∧z6=(z6.toNat:Int)∧yaZ (⟨(zh z4)⟩:Ar) z5.toNat z6.toNat,xaZ (⟨(zh z4)⟩:Ar) z5.toNat z6.toNat,[])
 |_=>none
attribute [go_sem] vP
theorem xaG:∀rs p r fr,vP rs=some (p,r,fr)→p→uc Tryz.prog 158 rs r fr:=by
 intro rs p r fr h hp
 unfold vP at h
 split at h<;>cases h
 obtain⟨hc0,hc1,hc2,hp⟩:=hp
 rename_i z4 z5 z6
 obtain⟨z4,rfl⟩:∃m,z4=tms m:=⟨_,hc0⟩
 obtain⟨z5,rfl⟩:∃m:Nat,z5=m:=⟨_,hc1⟩
 obtain⟨z6,rfl⟩:∃m:Nat,z6=m:=⟨_,hc2⟩
 simp only [Int.toNat_natCast,xb]
 simp only [Int.toNat_natCast,xb,yaZ]at hp
 exact kbq ⟨z4⟩ z5 z6 hp
@[go_sem] def jbq (a:List Cv) (b:List Cv):D:= .bool true
@[go_sem] abbrev gdT:FuncId:=81
@[go_sem] def gb8:Tab:=[]
theorem xT:za Tryz.prog gb8:=za.nil
set_option maxRecDepth 8000 in
set_option maxHeartbeats 1000000 in
theorem wbG (a:List Cv) (b:List Cv) (h:a=b):va Tryz.prog 81 [.sl (cvs a), .sl (cvs b)] (jbq a b):=by
 refine .of (yev xT (Nat.le_of_ble_eq_true rfl) ?_)
 simp -implicitDefEqProofs only [cdA,go_sem,Go.Proofs.Tryz.f81,reduceIte,reduceCtorEq,Nat.reduceEqDiff,Nat.reduceAdd,Nat.reduceLeDiff,Nat.reduceSub,Nat.reduceMul,Nat.reduceLT,Nat.reduceShiftRight,Nat.reduceMod,Int.reduceLE,Int.reduceLT,Int.reduceToNat,List.cons.injEq,cdB]
 subst h
 refine fun _ _=>⟨fun _ _=> ?_,fun h=>h rfl⟩
 refine SWp.loop (ι:={i:Nat // i≤a.length}) (fun i=>⟨[(0, .sl (cvs a)),(1, .sl (cvs a)),(12, .int .i64 a.length),(13, .int .i64 i.1)],[],0⟩) (fun i=>a.length - i.1) ⟨0,by simp⟩ ?_ ?_
 ·simp [go_sem]
 ·rintro⟨i,hi⟩
  refine qa xT.toS wdQ _ _ _ rfl ?_
  simp -implicitDefEqProofs only [cdA,go_sem,reduceIte,reduceCtorEq,Nat.reduceEqDiff,Nat.reduceAdd,Nat.reduceLeDiff,Nat.reduceSub,Nat.reduceMul,Nat.reduceLT,Nat.reduceShiftRight,Nat.reduceMod,Int.reduceLE,Int.reduceLT,Int.reduceToNat,List.cons.injEq,cdB]
  refine⟨fun h1=> ?_,fun _=>trivial⟩
  refine ud.run xcU xT ja (by kernel_rfl) (by kernel_rfl) ?_
  simp -implicitDefEqProofs only [cdA,go_sem,reduceIte,reduceCtorEq,Nat.reduceEqDiff,Nat.reduceAdd,Nat.reduceLeDiff,Nat.reduceSub,Nat.reduceMul,Nat.reduceLT,Nat.reduceShiftRight,Nat.reduceMod,Int.reduceLE,Int.reduceLT,Int.reduceToNat,List.cons.injEq,cdB]
  exact⟨by omega,by omega,⟨i+1,by omega⟩,by dsimp only;omega,i64_in _ (by omega)⟩
@[go_sem] def qbq (a:List Cv) (b:List Cv):Prop:=(a=b)
def vZ:List D→Option (Prop×D×Fr)
 |[.c (.sl z7), .c (.sl z8)]=>some (z7=cvs (zj z7)∧z8=cvs (zj z8)∧qbq (zj z7) (zj z8),jbq (zj z7) (zj z8),[])
 |_=>none
attribute [go_sem] vZ
theorem gaQ:∀rs p r fr,vZ rs=some (p,r,fr)→p→uc Tryz.prog 81 rs r fr:=by
 intro rs p r fr h hp
 unfold vZ at h
 split at h<;>cases h
 obtain⟨hc0,hc1,hp⟩:=hp
 rename_i z7 z8
 obtain⟨z7,rfl⟩:∃m,z7=cvs m:=⟨_,hc0⟩
 obtain⟨z8,rfl⟩:∃m,z8=cvs m:=⟨_,hc1⟩
 simp only [ye]
 simp only [ye,qbq]at hp
 exact wbG z7 z8 hp
@[go_sem] def jaZ (a:Tk) (b:Tk):D:= .bool true
@[go_sem] abbrev wdd:FuncId:=30
@[go_sem] def gbG:Tab:=[(81,vZ)]
theorem vaO:za Tryz.prog gbG:=(za.cons gaQ za.nil)
set_option maxRecDepth 8000 in
set_option maxHeartbeats 1000000 in
theorem vbq (a:Tk) (b:Tk) (h:a=b):va Tryz.prog 30 [.agg [.c (.int .u64 (a.root:Int)), .sl (cvs a.l), .c (.int .i64 a.tag)], .agg [.c (.int .u64 (b.root:Int)), .sl (cvs b.l), .c (.int .i64 b.tag)]] (jaZ a b):=by
 subst h
 refine .of (wer vaO (Nat.le_of_ble_eq_true rfl) ?_)
 simp -implicitDefEqProofs only [cdA,go_sem,Go.Proofs.Tryz.f30,reduceIte,reduceCtorEq,Nat.reduceEqDiff,Nat.reduceAdd,Nat.reduceLeDiff,Nat.reduceSub,Nat.reduceMul,Nat.reduceLT,Nat.reduceShiftRight,Nat.reduceMod,Int.reduceLE,Int.reduceLT,Int.reduceToNat,List.cons.injEq,cdB]
@[go_sem] def qaZ (a:Tk) (b:Tk):Prop:=(a=b)
def wP:List D→Option (Prop×D×Fr)
 |[.agg [.c (.int .u64 z10), .c (.sl z11), .c (.int .i64 z12)], .agg [.c (.int .u64 z14), .c (.sl z15), .c (.int .i64 z16)]]=>some (z10=(z10.toNat:Int)∧z11=cvs (zj z11)∧z14=(z14.toNat:Int)∧z15=cvs (zj z15)∧qaZ (⟨z10.toNat,(zj z11),z12⟩:Tk) (⟨z14.toNat,(zj z15),z16⟩:Tk),jaZ (⟨z10.toNat,(zj z11),z12⟩:Tk) (⟨z14.toNat,(zj z15),z16⟩:Tk),[])
 |_=>none
attribute [go_sem] wP
theorem qaG:∀rs p r fr,wP rs=some (p,r,fr)→p→uc Tryz.prog 30 rs r fr:=by
 intro rs p r fr h hp
 unfold wP at h
 split at h<;>cases h
 obtain⟨hc0,hc1,hc2,hc3,hp⟩:=hp
 rename_i z10 z11 z12 z14 z15 z16
 obtain⟨z10,rfl⟩:∃m:Nat,z10=m:=⟨_,hc0⟩
 obtain⟨z11,rfl⟩:∃m,z11=cvs m:=⟨_,hc1⟩
 obtain⟨z14,rfl⟩:∃m:Nat,z14=m:=⟨_,hc2⟩
 obtain⟨z15,rfl⟩:∃m,z15=cvs m:=⟨_,hc3⟩
 simp only [Int.toNat_natCast,ye]
 simp only [Int.toNat_natCast,ye,qaZ]at hp
 exact vbq ⟨z10,z11,z12⟩ ⟨z14,z15,z16⟩ hp
@[go_sem] def vaB (a:List Tk) (b:List Tk):D:= .bool true
@[go_sem] abbrev kcL:FuncId:=13
@[go_sem] def kbp:Tab:=[(30,wP)]
theorem zD:za Tryz.prog kbp:=(za.cons qaG za.nil)
set_option maxRecDepth 8000 in
set_option maxHeartbeats 1000000 in
theorem va8 (a:List Tk) (b:List Tk) (h:a=b):va Tryz.prog 13 [.sl (tks a), .sl (tks b)] (vaB a b):=by
 subst h
 refine .of (keq zD (Nat.le_of_ble_eq_true rfl) ?_)
 simp -implicitDefEqProofs only [cdA,go_sem,Go.Proofs.Tryz.f13,reduceIte,reduceCtorEq,Nat.reduceEqDiff,Nat.reduceAdd,Nat.reduceLeDiff,Nat.reduceSub,Nat.reduceMul,Nat.reduceLT,Nat.reduceShiftRight,Nat.reduceMod,Int.reduceLE,Int.reduceLT,Int.reduceToNat,List.cons.injEq,cdB]
 refine fun _ _ _=>SWp.loop (ι:={i:Nat // i≤a.length}) (fun i=>⟨[(0, .sl (tks a)),(1, .sl (tks a)),(12, .int .i64 a.length),(13, .int .i64 i.1)],[],0⟩) (fun i=>a.length - i.1) ⟨0,by simp⟩ ?_ ?_
 ·simp [go_sem]
 ·rintro⟨i,hi⟩
  refine qa zD.toS gdP _ _ _ rfl ?_
  simp -implicitDefEqProofs only [cdA,go_sem,reduceIte,reduceCtorEq,Nat.reduceEqDiff,Nat.reduceAdd,Nat.reduceLeDiff,Nat.reduceSub,Nat.reduceMul,Nat.reduceLT,Nat.reduceShiftRight,Nat.reduceMod,Int.reduceLE,Int.reduceLT,Int.reduceToNat,List.cons.injEq,cdB]
  refine⟨fun h1=> ?_,fun _=>trivial⟩
  refine ud.run gcS zD ja (by kernel_rfl) (by kernel_rfl) ?_
  simp -implicitDefEqProofs only [cdA,go_sem,reduceIte,reduceCtorEq,Nat.reduceEqDiff,Nat.reduceAdd,Nat.reduceLeDiff,Nat.reduceSub,Nat.reduceMul,Nat.reduceLT,Nat.reduceShiftRight,Nat.reduceMod,Int.reduceLE,Int.reduceLT,Int.reduceToNat,List.cons.injEq,cdB]
  exact⟨h1,h1,⟨i+1,by omega⟩,by dsimp only;omega,i64_in _ (by omega)⟩
@[go_sem] def kaB (a:List Tk) (b:List Tk):Prop:=(a=b)
def wH:List D→Option (Prop×D×Fr)
 |[.c (.sl z17), .c (.sl z18)]=>some (z17=tks (qbM z17)∧z18=tks (qbM z18)∧kaB (qbM z17) (qbM z18),vaB (qbM z17) (qbM z18),[])
 |_=>none
attribute [go_sem] wH
theorem kaq:∀rs p r fr,wH rs=some (p,r,fr)→p→uc Tryz.prog 13 rs r fr:=by
 intro rs p r fr h hp
 unfold wH at h
 split at h<;>cases h
 obtain⟨hc0,hc1,hp⟩:=hp
 rename_i z17 z18
 obtain⟨z17,rfl⟩:∃m,z17=tks m:=⟨_,hc0⟩
 obtain⟨z18,rfl⟩:∃m,z18=tks m:=⟨_,hc1⟩
 simp only [uaT]
 simp only [uaT,kaB]at hp
 exact va8 z17 z18 hp
end Dm
namespace Dm
open Go Go.Proofs Go.IntWalk
@[go_sem] def waZ (a:List Rk) (b:List Rk):D:= .bool true
@[go_sem] abbrev gdd:FuncId:=39
@[go_sem] def xbH:Tab:=[]
theorem wK:za Tryz.prog xbH:=za.nil
set_option maxRecDepth 8000 in
set_option maxHeartbeats 1000000 in
theorem zbr (a:List Rk) (b:List Rk) (h:a=b):va Tryz.prog 39 [.sl (rks a), .sl (rks b)] (waZ a b):=by
 subst h
 refine .of (kes wK (Nat.le_of_ble_eq_true rfl) ?_)
 simp -implicitDefEqProofs only [cdA,go_sem,Go.Proofs.Tryz.f39,reduceIte,reduceCtorEq,Nat.reduceEqDiff,Nat.reduceAdd,Nat.reduceLeDiff,Nat.reduceSub,Nat.reduceMul,Nat.reduceLT,Nat.reduceShiftRight,Nat.reduceMod,Int.reduceLE,Int.reduceLT,Int.reduceToNat,List.cons.injEq,cdB]
 refine fun _ _ _=>SWp.loop (ι:={i:Nat // i≤a.length}) (fun i=>⟨[(0, .sl (rks a)),(1, .sl (rks a)),(12, .int .i64 a.length),(13, .int .i64 i.1)],[],0⟩) (fun i=>a.length - i.1) ⟨0,by simp⟩ ?_ ?_
 ·simp [go_sem]
 ·rintro⟨i,hi⟩
  refine qa wK.toS ydQ _ _ _ rfl ?_
  simp -implicitDefEqProofs only [cdA,go_sem,reduceIte,reduceCtorEq,Nat.reduceEqDiff,Nat.reduceAdd,Nat.reduceLeDiff,Nat.reduceSub,Nat.reduceMul,Nat.reduceLT,Nat.reduceShiftRight,Nat.reduceMod,Int.reduceLE,Int.reduceLT,Int.reduceToNat,List.cons.injEq,cdB]
  refine⟨fun h1=> ?_,fun _=>trivial⟩
  refine ud.run jcT wK ja (by kernel_rfl) (by kernel_rfl) ?_
  simp -implicitDefEqProofs only [cdA,go_sem,reduceIte,reduceCtorEq,Nat.reduceEqDiff,Nat.reduceAdd,Nat.reduceLeDiff,Nat.reduceSub,Nat.reduceMul,Nat.reduceLT,Nat.reduceShiftRight,Nat.reduceMod,Int.reduceLE,Int.reduceLT,Int.reduceToNat,List.cons.injEq,cdB]
  exact⟨by omega,by omega,⟨i+1,by omega⟩,by dsimp only;omega,i64_in _ (by omega)⟩
@[go_sem] def vaZ (a:List Rk) (b:List Rk):Prop:=(a=b)
def zQ:List D→Option (Prop×D×Fr)
 |[.c (.sl z1), .c (.sl z2)]=>some (z1=rks (vj z1)∧z2=rks (vj z2)∧vaZ (vj z1) (vj z2),waZ (vj z1) (vj z2),[])
 |_=>none
attribute [go_sem] zQ
theorem kaG:∀rs p r fr,zQ rs=some (p,r,fr)→p→uc Tryz.prog 39 rs r fr:=by
 intro rs p r fr h hp
 unfold zQ at h
 split at h<;>cases h
 obtain⟨hc0,hc1,hp⟩:=hp
 rename_i z1 z2
 obtain⟨z1,rfl⟩:∃m,z1=rks m:=⟨_,hc0⟩
 obtain⟨z2,rfl⟩:∃m,z2=rks m:=⟨_,hc1⟩
 simp only [yc]
 simp only [yc,vaZ]at hp
 exact zbr z1 z2 hp
@[go_sem] def yaA (a:List Ct) (b:List Ct):D:= .bool true
@[go_sem] abbrev gcK:FuncId:=41
@[go_sem] def zbo:Tab:=[]
theorem gC:za Tryz.prog zbo:=za.nil
set_option maxRecDepth 8000 in
set_option maxHeartbeats 1000000 in
theorem va7 (a:List Ct) (b:List Ct) (h:a=b):va Tryz.prog 41 [.sl (cts a), .sl (cts b)] (yaA a b):=by
 subst h
 refine .of (wes gC (Nat.le_of_ble_eq_true rfl) ?_)
 simp -implicitDefEqProofs only [cdA,go_sem,Go.Proofs.Tryz.f41,reduceIte,reduceCtorEq,Nat.reduceEqDiff,Nat.reduceAdd,Nat.reduceLeDiff,Nat.reduceSub,Nat.reduceMul,Nat.reduceLT,Nat.reduceShiftRight,Nat.reduceMod,Int.reduceLE,Int.reduceLT,Int.reduceToNat,List.cons.injEq,cdB]
 refine fun _ _ _=>SWp.loop (ι:={i:Nat // i≤a.length}) (fun i=>⟨[(0, .sl (cts a)),(1, .sl (cts a)),(12, .int .i64 a.length),(13, .int .i64 i.1)],[],0⟩) (fun i=>a.length - i.1) ⟨0,by simp⟩ ?_ ?_
 ·simp [go_sem]
 ·rintro⟨i,hi⟩
  refine qa gC.toS qdQ _ _ _ rfl ?_
  simp -implicitDefEqProofs only [cdA,go_sem,reduceIte,reduceCtorEq,Nat.reduceEqDiff,Nat.reduceAdd,Nat.reduceLeDiff,Nat.reduceSub,Nat.reduceMul,Nat.reduceLT,Nat.reduceShiftRight,Nat.reduceMod,Int.reduceLE,Int.reduceLT,Int.reduceToNat,List.cons.injEq,cdB]
  refine⟨fun h1=> ?_,fun _=>trivial⟩
  refine ud.run kcT gC ja (by kernel_rfl) (by kernel_rfl) ?_
  simp -implicitDefEqProofs only [cdA,go_sem,reduceIte,reduceCtorEq,Nat.reduceEqDiff,Nat.reduceAdd,Nat.reduceLeDiff,Nat.reduceSub,Nat.reduceMul,Nat.reduceLT,Nat.reduceShiftRight,Nat.reduceMod,Int.reduceLE,Int.reduceLT,Int.reduceToNat,List.cons.injEq,cdB]
  exact⟨by omega,by omega,⟨i+1,by omega⟩,by dsimp only;omega,i64_in _ (by omega)⟩
@[go_sem] def zaA (a:List Ct) (b:List Ct):Prop:=(a=b)
def zH:List D→Option (Prop×D×Fr)
 |[.c (.sl z3), .c (.sl z4)]=>some (z3=cts (xm z3)∧z4=cts (xm z4)∧zaA (xm z3) (xm z4),yaA (xm z3) (xm z4),[])
 |_=>none
attribute [go_sem] zH
theorem gap:∀rs p r fr,zH rs=some (p,r,fr)→p→uc Tryz.prog 41 rs r fr:=by
 intro rs p r fr h hp
 unfold zH at h
 split at h<;>cases h
 obtain⟨hc0,hc1,hp⟩:=hp
 rename_i z3 z4
 obtain⟨z3,rfl⟩:∃m,z3=cts m:=⟨_,hc0⟩
 obtain⟨z4,rfl⟩:∃m,z4=cts m:=⟨_,hc1⟩
 simp only [jd]
 simp only [jd,zaA]at hp
 exact va7 z3 z4 hp
@[go_sem] def jaz (a:List Iv) (b:List Iv):D:= .bool true
@[go_sem] abbrev kcK:FuncId:=105
@[go_sem] def vbn:Tab:=[]
theorem wC:za Tryz.prog vbn:=za.nil
set_option maxRecDepth 8000 in
set_option maxHeartbeats 1000000 in
theorem ua6 (a:List Iv) (b:List Iv) (h:a=b):va Tryz.prog 105 [.sl (ivs a), .sl (ivs b)] (jaz a b):=by
 subst h
 refine .of (vdu wC (Nat.le_of_ble_eq_true rfl) ?_)
 simp -implicitDefEqProofs only [cdA,go_sem,Go.Proofs.Tryz.f105,reduceIte,reduceCtorEq,Nat.reduceEqDiff,Nat.reduceAdd,Nat.reduceLeDiff,Nat.reduceSub,Nat.reduceMul,Nat.reduceLT,Nat.reduceShiftRight,Nat.reduceMod,Int.reduceLE,Int.reduceLT,Int.reduceToNat,List.cons.injEq,cdB]
 refine fun _ _ _=>SWp.loop (ι:={i:Nat // i≤a.length}) (fun i=>⟨[(0, .sl (ivs a)),(1, .sl (ivs a)),(12, .int .i64 a.length),(13, .int .i64 i.1)],[],0⟩) (fun i=>a.length - i.1) ⟨0,by simp⟩ ?_ ?_
 ·simp [go_sem]
 ·rintro⟨i,hi⟩
  refine qa wC.toS bb0 _ _ _ rfl ?_
  simp -implicitDefEqProofs only [cdA,go_sem,reduceIte,reduceCtorEq,Nat.reduceEqDiff,Nat.reduceAdd,Nat.reduceLeDiff,Nat.reduceSub,Nat.reduceMul,Nat.reduceLT,Nat.reduceShiftRight,Nat.reduceMod,Int.reduceLE,Int.reduceLT,Int.reduceToNat,List.cons.injEq,cdB]
  refine⟨fun h1=> ?_,fun _=>trivial⟩
  refine ud.run xcc wC ja (by kernel_rfl) (by kernel_rfl) ?_
  simp -implicitDefEqProofs only [cdA,go_sem,reduceIte,reduceCtorEq,Nat.reduceEqDiff,Nat.reduceAdd,Nat.reduceLeDiff,Nat.reduceSub,Nat.reduceMul,Nat.reduceLT,Nat.reduceShiftRight,Nat.reduceMod,Int.reduceLE,Int.reduceLT,Int.reduceToNat,List.cons.injEq,cdB]
  exact⟨by omega,by omega,⟨i+1,by omega⟩,by dsimp only;omega,i64_in _ (by omega)⟩
@[go_sem] def qaz (a:List Iv) (b:List Iv):Prop:=(a=b)
def wG:List D→Option (Prop×D×Fr)
 |[.c (.sl z5), .c (.sl z6)]=>some (z5=ivs (qi z5)∧z6=ivs (qi z6)∧qaz (qi z5) (qi z6),jaz (qi z5) (qi z6),[])
 |_=>none
attribute [go_sem] wG
theorem kap:∀rs p r fr,wG rs=some (p,r,fr)→p→uc Tryz.prog 105 rs r fr:=by
 intro rs p r fr h hp
 unfold wG at h
 split at h<;>cases h
 obtain⟨hc0,hc1,hp⟩:=hp
 rename_i z5 z6
 obtain⟨z5,rfl⟩:∃m,z5=ivs m:=⟨_,hc0⟩
 obtain⟨z6,rfl⟩:∃m,z6=ivs m:=⟨_,hc1⟩
 simp only [vb]
 simp only [vb,qaz]at hp
 exact ua6 z5 z6 hp
@[go_sem] def vaz (a:List Py) (b:List Py):D:= .bool true
@[go_sem] abbrev vcK:FuncId:=106
@[go_sem] def ubn:Tab:=[]
theorem uC:za Tryz.prog ubn:=za.nil
set_option maxRecDepth 8000 in
set_option maxHeartbeats 1000000 in
theorem ya7 (a:List Py) (b:List Py) (h:a=b):va Tryz.prog 106 [.sl (pys a), .sl (pys b)] (vaz a b):=by
 subst h
 refine .of (wdu uC (Nat.le_of_ble_eq_true rfl) ?_)
 simp -implicitDefEqProofs only [cdA,go_sem,Go.Proofs.Tryz.f106,reduceIte,reduceCtorEq,Nat.reduceEqDiff,Nat.reduceAdd,Nat.reduceLeDiff,Nat.reduceSub,Nat.reduceMul,Nat.reduceLT,Nat.reduceShiftRight,Nat.reduceMod,Int.reduceLE,Int.reduceLT,Int.reduceToNat,List.cons.injEq,cdB]
 refine fun _ _ _=>SWp.loop (ι:={i:Nat // i≤a.length}) (fun i=>⟨[(0, .sl (pys a)),(1, .sl (pys a)),(12, .int .i64 a.length),(13, .int .i64 i.1)],[],0⟩) (fun i=>a.length - i.1) ⟨0,by simp⟩ ?_ ?_
 ·simp [go_sem]
 ·rintro⟨i,hi⟩
  refine qa uC.toS zb1 _ _ _ rfl ?_
  simp -implicitDefEqProofs only [cdA,go_sem,reduceIte,reduceCtorEq,Nat.reduceEqDiff,Nat.reduceAdd,Nat.reduceLeDiff,Nat.reduceSub,Nat.reduceMul,Nat.reduceLT,Nat.reduceShiftRight,Nat.reduceMod,Int.reduceLE,Int.reduceLT,Int.reduceToNat,List.cons.injEq,cdB]
  refine⟨fun h1=> ?_,fun _=>trivial⟩
  refine ud.run qcc uC ja (by kernel_rfl) (by kernel_rfl) ?_
  simp -implicitDefEqProofs only [cdA,go_sem,reduceIte,reduceCtorEq,Nat.reduceEqDiff,Nat.reduceAdd,Nat.reduceLeDiff,Nat.reduceSub,Nat.reduceMul,Nat.reduceLT,Nat.reduceShiftRight,Nat.reduceMod,Int.reduceLE,Int.reduceLT,Int.reduceToNat,List.cons.injEq,cdB]
  exact⟨by omega,by omega,⟨i+1,by omega⟩,by dsimp only;omega,i64_in _ (by omega)⟩
@[go_sem] def kaz (a:List Py) (b:List Py):Prop:=(a=b)
def uG:List D→Option (Prop×D×Fr)
 |[.c (.sl z7), .c (.sl z8)]=>some (z7=pys (ji z7)∧z8=pys (ji z8)∧kaz (ji z7) (ji z8),vaz (ji z7) (ji z8),[])
 |_=>none
attribute [go_sem] uG
theorem vap:∀rs p r fr,uG rs=some (p,r,fr)→p→uc Tryz.prog 106 rs r fr:=by
 intro rs p r fr h hp
 unfold uG at h
 split at h<;>cases h
 obtain⟨hc0,hc1,hp⟩:=hp
 rename_i z7 z8
 obtain⟨z7,rfl⟩:∃m,z7=pys m:=⟨_,hc0⟩
 obtain⟨z8,rfl⟩:∃m,z8=pys m:=⟨_,hc1⟩
 simp only [jb]
 simp only [jb,kaz]at hp
 exact ya7 z7 z8 hp
@[go_sem] def baX (a:List Ev) (b:List Ev):D:= .bool true
@[go_sem] abbrev udc:FuncId:=191
@[go_sem] def kbF:Tab:=[]
theorem qK:za Tryz.prog kbF:=za.nil
set_option maxRecDepth 8000 in
set_option maxHeartbeats 1000000 in
theorem ybo (a:List Ev) (b:List Ev) (h:a=b):va Tryz.prog 191 [.sl (evs a), .sl (evs b)] (baX a b):=by
 subst h
 refine .of (xdz qK (Nat.le_of_ble_eq_true rfl) ?_)
 simp -implicitDefEqProofs only [cdA,go_sem,Go.Proofs.Tryz.f191,reduceIte,reduceCtorEq,Nat.reduceEqDiff,Nat.reduceAdd,Nat.reduceLeDiff,Nat.reduceSub,Nat.reduceMul,Nat.reduceLT,Nat.reduceShiftRight,Nat.reduceMod,Int.reduceLE,Int.reduceLT,Int.reduceToNat,List.cons.injEq,cdB]
 refine fun _ _ _=>SWp.loop (ι:={i:Nat // i≤a.length}) (fun i=>⟨[(0, .sl (evs a)),(1, .sl (evs a)),(12, .int .i64 a.length),(13, .int .i64 i.1)],[],0⟩) (fun i=>a.length - i.1) ⟨0,by simp⟩ ?_ ?_
 ·simp [go_sem]
 ·rintro⟨i,hi⟩
  refine qa qK.toS vb2 _ _ _ rfl ?_
  simp -implicitDefEqProofs only [cdA,go_sem,reduceIte,reduceCtorEq,Nat.reduceEqDiff,Nat.reduceAdd,Nat.reduceLeDiff,Nat.reduceSub,Nat.reduceMul,Nat.reduceLT,Nat.reduceShiftRight,Nat.reduceMod,Int.reduceLE,Int.reduceLT,Int.reduceToNat,List.cons.injEq,cdB]
  refine⟨fun h1=> ?_,fun _=>trivial⟩
  refine ud.run qcd qK ja (by kernel_rfl) (by kernel_rfl) ?_
  simp -implicitDefEqProofs only [cdA,go_sem,reduceIte,reduceCtorEq,Nat.reduceEqDiff,Nat.reduceAdd,Nat.reduceLeDiff,Nat.reduceSub,Nat.reduceMul,Nat.reduceLT,Nat.reduceShiftRight,Nat.reduceMod,Int.reduceLE,Int.reduceLT,Int.reduceToNat,List.cons.injEq,cdB]
  exact⟨by omega,by omega,⟨i+1,by omega⟩,by dsimp only;omega,i64_in _ (by omega)⟩
@[go_sem] def gaX (a:List Ev) (b:List Ev):Prop:=(a=b)
def kO:List D→Option (Prop×D×Fr)
 |[.c (.sl z9), .c (.sl z10)]=>some (z9=evs (xh z9)∧z10=evs (xh z10)∧gaX (xh z9) (xh z10),baX (xh z9) (xh z10),[])
 |_=>none
attribute [go_sem] kO
theorem jaF:∀rs p r fr,kO rs=some (p,r,fr)→p→uc Tryz.prog 191 rs r fr:=by
 intro rs p r fr h hp
 unfold kO at h
 split at h<;>cases h
 obtain⟨hc0,hc1,hp⟩:=hp
 rename_i z9 z10
 obtain⟨z9,rfl⟩:∃m,z9=evs m:=⟨_,hc0⟩
 obtain⟨z10,rfl⟩:∃m,z10=evs m:=⟨_,hc1⟩
 simp only [qb]
 simp only [qb,gaX]at hp
 exact ybo z9 z10 hp
@[go_sem] def jaA (a:Fd) (b:Fd):D:= .bool true
@[go_sem] abbrev bcK:FuncId:=107
@[go_sem] def qbo:Tab:=[(191,kO)]
theorem xaA:za Tryz.prog qbo:=(za.cons jaF za.nil)
set_option maxRecDepth 8000 in
set_option maxHeartbeats 1000000 in
theorem ua7 (a:Fd) (b:Fd) (h:a=b):va Tryz.prog 107 [.agg [.c (.int .u64 (a.next:Int)), .sl (evs a.l)], .agg [.c (.int .u64 (b.next:Int)), .sl (evs b.l)]] (jaA a b):=by
 subst h
 refine .of (udu xaA (Nat.le_of_ble_eq_true rfl) ?_)
 simp -implicitDefEqProofs only [cdA,go_sem,Go.Proofs.Tryz.f107,reduceIte,reduceCtorEq,Nat.reduceEqDiff,Nat.reduceAdd,Nat.reduceLeDiff,Nat.reduceSub,Nat.reduceMul,Nat.reduceLT,Nat.reduceShiftRight,Nat.reduceMod,Int.reduceLE,Int.reduceLT,Int.reduceToNat,List.cons.injEq,cdB]
@[go_sem] def qaA (a:Fd) (b:Fd):Prop:=(a=b)
def yH:List D→Option (Prop×D×Fr)
 |[.agg [.c (.int .u64 z12), .c (.sl z13)], .agg [.c (.int .u64 z15), .c (.sl z16)]]=>some (z12=(z12.toNat:Int)∧z13=evs (xh z13)∧z15=(z15.toNat:Int)∧z16=evs (xh z16)∧qaA (⟨z12.toNat,(xh z13)⟩:Fd) (⟨z15.toNat,(xh z16)⟩:Fd),jaA (⟨z12.toNat,(xh z13)⟩:Fd) (⟨z15.toNat,(xh z16)⟩:Fd),[])
 |_=>none
attribute [go_sem] yH
theorem bap:∀rs p r fr,yH rs=some (p,r,fr)→p→uc Tryz.prog 107 rs r fr:=by
 intro rs p r fr h hp
 unfold yH at h
 split at h<;>cases h
 obtain⟨hc0,hc1,hc2,hc3,hp⟩:=hp
 rename_i z12 z13 z15 z16
 obtain⟨z12,rfl⟩:∃m:Nat,z12=m:=⟨_,hc0⟩
 obtain⟨z13,rfl⟩:∃m,z13=evs m:=⟨_,hc1⟩
 obtain⟨z15,rfl⟩:∃m:Nat,z15=m:=⟨_,hc2⟩
 obtain⟨z16,rfl⟩:∃m,z16=evs m:=⟨_,hc3⟩
 simp only [Int.toNat_natCast,qb]
 simp only [Int.toNat_natCast,qb,qaA]at hp
 exact ua7 ⟨z12,z13⟩ ⟨z15,z16⟩ hp
@[go_sem] def gaY (a:Ar) (b:Ar):D:= .bool true
@[go_sem] abbrev jdd:FuncId:=38
@[go_sem] def kbG:Tab:=[(109,yP)]
theorem vK:za Tryz.prog kbG:=(za.cons zac za.nil)
set_option maxRecDepth 8000 in
set_option maxHeartbeats 1000000 in
theorem ybq (a:Ar) (b:Ar) (h:a=b):va Tryz.prog 38 [.agg [.sl (tms a.l)], .agg [.sl (tms b.l)]] (gaY a b):=by
 subst h
 refine .of (jes vK (Nat.le_of_ble_eq_true rfl) ?_)
 simp -implicitDefEqProofs only [cdA,go_sem,Go.Proofs.Tryz.f38,reduceIte,reduceCtorEq,Nat.reduceEqDiff,Nat.reduceAdd,Nat.reduceLeDiff,Nat.reduceSub,Nat.reduceMul,Nat.reduceLT,Nat.reduceShiftRight,Nat.reduceMod,Int.reduceLE,Int.reduceLT,Int.reduceToNat,List.cons.injEq,cdB]
 generalize a.l=l at*
 refine fun _ _ _=>SWp.loop (ι:={i:Nat // i≤l.length}) (fun i=>⟨[(2, .ref 0 0),(3, .ref 1 0),(15, .int .i64 l.length),(16, .int .i64 i.1)],[(1, .box [.sl (tms l)]),(0, .box [.sl (tms l)])],2⟩) (fun i=>l.length - i.1) ⟨0,by simp⟩ ?_ ?_
 ·simp [go_sem]
 ·rintro⟨i,hi⟩
  refine qa vK.toS zdQ _ _ _ rfl ?_
  simp -implicitDefEqProofs only [cdA,go_sem,reduceIte,reduceCtorEq,Nat.reduceEqDiff,Nat.reduceAdd,Nat.reduceLeDiff,Nat.reduceSub,Nat.reduceMul,Nat.reduceLT,Nat.reduceShiftRight,Nat.reduceMod,Int.reduceLE,Int.reduceLT,Int.reduceToNat,List.cons.injEq,cdB]
  refine⟨fun h1=> ?_,fun _=>trivial⟩
  refine ud.run qcT vK ja (by kernel_rfl) (by kernel_rfl) ?_
  simp -implicitDefEqProofs only [cdA,go_sem,reduceIte,reduceCtorEq,Nat.reduceEqDiff,Nat.reduceAdd,Nat.reduceLeDiff,Nat.reduceSub,Nat.reduceMul,Nat.reduceLT,Nat.reduceShiftRight,Nat.reduceMod,Int.reduceLE,Int.reduceLT,Int.reduceToNat,List.cons.injEq,cdB]
  exact⟨h1,h1,⟨i+1,by omega⟩,by dsimp only;omega,i64_in _ (by omega)⟩
@[go_sem] def uaY (a:Ar) (b:Ar):Prop:=(a=b)
def jP:List D→Option (Prop×D×Fr)
 |[.agg [.c (.sl z18)], .agg [.c (.sl z20)]]=>some (z18=tms (zh z18)∧z20=tms (zh z20)∧uaY (⟨(zh z18)⟩:Ar) (⟨(zh z20)⟩:Ar),gaY (⟨(zh z18)⟩:Ar) (⟨(zh z20)⟩:Ar),[])
 |_=>none
attribute [go_sem] jP
theorem zaG:∀rs p r fr,jP rs=some (p,r,fr)→p→uc Tryz.prog 38 rs r fr:=by
 intro rs p r fr h hp
 unfold jP at h
 split at h<;>cases h
 obtain⟨hc0,hc1,hp⟩:=hp
 rename_i z18 z20
 obtain⟨z18,rfl⟩:∃m,z18=tms m:=⟨_,hc0⟩
 obtain⟨z20,rfl⟩:∃m,z20=tms m:=⟨_,hc1⟩
 simp only [xb]
 simp only [xb,uaY]at hp
 exact ybq ⟨z18⟩ ⟨z20⟩ hp
@[go_sem] def baz (a:List Ky) (b:List Ky):D:= .bool true
@[go_sem] abbrev ucK:FuncId:=40
@[go_sem] def bbn:Tab:=[]
theorem jV:za Tryz.prog bbn:=za.nil
set_option maxRecDepth 8000 in
set_option maxHeartbeats 1000000 in
theorem ja7 (a:List Ky) (b:List Ky) (h:a=[]∧b=[]):va Tryz.prog 40 [.sl (kys a), .sl (kys b)] (baz a b):=by
 obtain⟨rfl,rfl⟩:=h
 refine .of (ves jV (Nat.le_of_ble_eq_true rfl) ?_)
 simp -implicitDefEqProofs only [cdA,go_sem,Go.Proofs.Tryz.f40,reduceIte,reduceCtorEq,Nat.reduceEqDiff,Nat.reduceAdd,Nat.reduceLeDiff,Nat.reduceSub,Nat.reduceMul,Nat.reduceLT,Nat.reduceShiftRight,Nat.reduceMod,Int.reduceLE,Int.reduceLT,Int.reduceToNat,List.cons.injEq,cdB]
 refine SWp.loop (ι:=Unit) (fun _=>⟨[(0, .sl (kys [])),(1, .sl (kys [])),(12, .int .i64 0),(13, .int .i64 0)],[],0⟩) (fun _=>0) () ?_ ?_
 ·simp [go_sem]
 ·rintro⟨⟩
  refine qa jV.toS xdQ _ _ _ rfl ?_
  simp -implicitDefEqProofs only [cdA,go_sem,reduceIte,reduceCtorEq,Nat.reduceEqDiff,Nat.reduceAdd,Nat.reduceLeDiff,Nat.reduceSub,Nat.reduceMul,Nat.reduceLT,Nat.reduceShiftRight,Nat.reduceMod,Int.reduceLE,Int.reduceLT,Int.reduceToNat,List.cons.injEq,cdB]
  exact fun h=>h.elim
@[go_sem] def gaz (a:List Ky) (b:List Ky):Prop:=(a=[]∧b=[])
def bG:List D→Option (Prop×D×Fr)
 |[.c (.sl z21), .c (.sl z22)]=>some (z21=kys (yo z21)∧z22=kys (yo z22)∧gaz (yo z21) (yo z22),baz (yo z21) (yo z22),[])
 |_=>none
attribute [go_sem] bG
theorem uap:∀rs p r fr,bG rs=some (p,r,fr)→p→uc Tryz.prog 40 rs r fr:=by
 intro rs p r fr h hp
 unfold bG at h
 split at h<;>cases h
 obtain⟨hc0,hc1,hp⟩:=hp
 rename_i z21 z22
 obtain⟨z21,rfl⟩:∃m,z21=kys m:=⟨_,hc0⟩
 obtain⟨z22,rfl⟩:∃m,z22=kys m:=⟨_,hc1⟩
 simp only [ze]
 simp only [ze,gaz]at hp
 exact ja7 z21 z22 hp
@[go_sem] def xaz (a:List Ch) (b:List Ch):D:= .bool true
@[go_sem] abbrev jcK:FuncId:=104
@[go_sem] def kbn:Tab:=[]
theorem xV:za Tryz.prog kbn:=za.nil
set_option maxRecDepth 8000 in
set_option maxHeartbeats 1000000 in
theorem ka6 (a:List Ch) (b:List Ch) (h:a=[]∧b=[]):va Tryz.prog 104 [.sl (chs a), .sl (chs b)] (xaz a b):=by
 obtain⟨rfl,rfl⟩:=h
 refine .of (kdu xV (Nat.le_of_ble_eq_true rfl) ?_)
 simp -implicitDefEqProofs only [cdA,go_sem,Go.Proofs.Tryz.f104,reduceIte,reduceCtorEq,Nat.reduceEqDiff,Nat.reduceAdd,Nat.reduceLeDiff,Nat.reduceSub,Nat.reduceMul,Nat.reduceLT,Nat.reduceShiftRight,Nat.reduceMod,Int.reduceLE,Int.reduceLT,Int.reduceToNat,List.cons.injEq,cdB]
 refine SWp.loop (ι:=Unit) (fun _=>⟨[(0, .sl (chs [])),(1, .sl (chs [])),(12, .int .i64 0),(13, .int .i64 0)],[],0⟩) (fun _=>0) () ?_ ?_
 ·simp [go_sem]
 ·rintro⟨⟩
  refine qa xV.toS gb0 _ _ _ rfl ?_
  simp -implicitDefEqProofs only [cdA,go_sem,reduceIte,reduceCtorEq,Nat.reduceEqDiff,Nat.reduceAdd,Nat.reduceLeDiff,Nat.reduceSub,Nat.reduceMul,Nat.reduceLT,Nat.reduceShiftRight,Nat.reduceMod,Int.reduceLE,Int.reduceLT,Int.reduceToNat,List.cons.injEq,cdB]
  exact fun h=>h.elim
@[go_sem] def yaz (a:List Ch) (b:List Ch):Prop:=(a=[]∧b=[])
def vG:List D→Option (Prop×D×Fr)
 |[.c (.sl z23), .c (.sl z24)]=>some (z23=chs (ug z23)∧z24=chs (ug z24)∧yaz (ug z23) (ug z24),xaz (ug z23) (ug z24),[])
 |_=>none
attribute [go_sem] vG
theorem jap:∀rs p r fr,vG rs=some (p,r,fr)→p→uc Tryz.prog 104 rs r fr:=by
 intro rs p r fr h hp
 unfold vG at h
 split at h<;>cases h
 obtain⟨hc0,hc1,hp⟩:=hp
 rename_i z23 z24
 obtain⟨z23,rfl⟩:∃m,z23=chs m:=⟨_,hc0⟩
 obtain⟨z24,rfl⟩:∃m,z24=chs m:=⟨_,hc1⟩
 simp only [yb]
 simp only [yb,yaz]at hp
 exact ka6 z23 z24 hp
@[go_sem] def uaA (a:Wl) (b:Wl):D:= .bool true
@[go_sem] abbrev ycL:FuncId:=37
@[go_sem] def vbo:Tab:=[(104,vG),(105,wG),(106,uG),(107,yH)]
theorem vV:za Tryz.prog vbo:=(za.cons jap (za.cons kap (za.cons vap (za.cons bap za.nil))))
set_option maxRecDepth 8000 in
set_option maxHeartbeats 1000000 in
theorem za8 (a:Wl) (b:Wl) (h:a=b∧a.c=[]∧a.w=[]):va Tryz.prog 37 [.agg [.sl (chs a.c), .sl (wts a.w), .sl (ivs a.i), .sl (pys a.p), .c (.int .u64 (a.f.next:Int)), .sl (evs a.f.l), .c (.int .u64 (a.next:Int)), .c (.int .u64 (a.tick:Int))], .agg [.sl (chs b.c), .sl (wts b.w), .sl (ivs b.i), .sl (pys b.p), .c (.int .u64 (b.f.next:Int)), .sl (evs b.f.l), .c (.int .u64 (b.next:Int)), .c (.int .u64 (b.tick:Int))]] (uaA a b):=by
 obtain⟨rfl,hc,hw⟩:=h
 refine .of (qes vV (Nat.le_of_ble_eq_true rfl) ?_)
 simp -implicitDefEqProofs only [cdA,go_sem,Go.Proofs.Tryz.f37,reduceIte,reduceCtorEq,Nat.reduceEqDiff,Nat.reduceAdd,Nat.reduceLeDiff,Nat.reduceSub,Nat.reduceMul,Nat.reduceLT,Nat.reduceShiftRight,Nat.reduceMod,Int.reduceLE,Int.reduceLT,Int.reduceToNat,List.cons.injEq,cdB]
 refine⟨⟨hc,hc⟩,fun _ _ _=> ?_⟩
 rw [hw]
 refine SWp.loop (ι:=Unit) (fun _=>⟨[(61, .int .i64 0),(62, .int .i64 0)],[],0⟩) (fun _=>0) () ?_ ?_
 ·simp [go_sem]
 ·rintro⟨⟩
  refine qa vV.toS bdP _ _ _ rfl ?_
  simp -implicitDefEqProofs only [cdA,go_sem,reduceIte,reduceCtorEq,Nat.reduceEqDiff,Nat.reduceAdd,Nat.reduceLeDiff,Nat.reduceSub,Nat.reduceMul,Nat.reduceLT,Nat.reduceShiftRight,Nat.reduceMod,Int.reduceLE,Int.reduceLT,Int.reduceToNat,List.cons.injEq,cdB]
  exact fun h=>h.elim
@[go_sem] def waA (a:Wl) (b:Wl):Prop:=(a=b∧a.c=[]∧a.w=[])
def qH:List D→Option (Prop×D×Fr)
 |[.agg [.c (.sl z26), .c (.sl z27), .c (.sl z28), .c (.sl z29), .c (.int .u64 z31), .c (.sl z32), .c (.int .u64 z33), .c (.int .u64 z34)], .agg [.c (.sl z36), .c (.sl z37), .c (.sl z38), .c (.sl z39), .c (.int .u64 z41), .c (.sl z42), .c (.int .u64 z43), .c (.int .u64 z44)]]=>some (z26=chs (ug z26)∧z27=wts (vl z27)∧z28=ivs (qi z28)∧z29=pys (ji z29)∧z31=(z31.toNat:Int)∧z32=evs (xh z32)∧z33=(z33.toNat:Int)∧z34=(z34.toNat:Int)∧z36=chs (ug z36)∧z37=wts (vl z37)∧z38=ivs (qi z38)∧z39=pys (ji z39)∧z41=(z41.toNat:Int)∧z42=evs (xh z42)∧z43=(z43.toNat:Int)∧z44=(z44.toNat:Int)∧waA (⟨(ug z26),(vl z27),(qi z28),(ji z29),(⟨z31.toNat,(xh z32)⟩:Fd),z33.toNat,z34.toNat⟩:Wl) (⟨(ug z36),(vl z37),(qi z38),(ji z39),(⟨z41.toNat,(xh z42)⟩:Fd),z43.toNat,z44.toNat⟩:Wl),uaA (⟨(ug z26),(vl z27),(qi z28),(ji z29),(⟨z31.toNat,(xh z32)⟩:Fd),z33.toNat,z34.toNat⟩:Wl) (⟨(ug z36),(vl z37),(qi z38),(ji z39),(⟨z41.toNat,(xh z42)⟩:Fd),z43.toNat,z44.toNat⟩:Wl),[])
 |_=>none
attribute [go_sem] qH
theorem yaq:∀rs p r fr,qH rs=some (p,r,fr)→p→uc Tryz.prog 37 rs r fr:=by
 intro rs p r fr h hp
 unfold qH at h
 split at h<;>cases h
 obtain⟨hc0,hc1,hc2,hc3,hc4,hc5,hc6,hc7,hc8,hc9,hc10,hc11,hc12,hc13,hc14,hc15,hp⟩:=hp
 rename_i z26 z27 z28 z29 z31 z32 z33 z34 z36 z37 z38 z39 z41 z42 z43 z44
 obtain⟨z26,rfl⟩:∃m,z26=chs m:=⟨_,hc0⟩
 obtain⟨z27,rfl⟩:∃m,z27=wts m:=⟨_,hc1⟩
 obtain⟨z28,rfl⟩:∃m,z28=ivs m:=⟨_,hc2⟩
 obtain⟨z29,rfl⟩:∃m,z29=pys m:=⟨_,hc3⟩
 obtain⟨z31,rfl⟩:∃m:Nat,z31=m:=⟨_,hc4⟩
 obtain⟨z32,rfl⟩:∃m,z32=evs m:=⟨_,hc5⟩
 obtain⟨z33,rfl⟩:∃m:Nat,z33=m:=⟨_,hc6⟩
 obtain⟨z34,rfl⟩:∃m:Nat,z34=m:=⟨_,hc7⟩
 obtain⟨z36,rfl⟩:∃m,z36=chs m:=⟨_,hc8⟩
 obtain⟨z37,rfl⟩:∃m,z37=wts m:=⟨_,hc9⟩
 obtain⟨z38,rfl⟩:∃m,z38=ivs m:=⟨_,hc10⟩
 obtain⟨z39,rfl⟩:∃m,z39=pys m:=⟨_,hc11⟩
 obtain⟨z41,rfl⟩:∃m:Nat,z41=m:=⟨_,hc12⟩
 obtain⟨z42,rfl⟩:∃m,z42=evs m:=⟨_,hc13⟩
 obtain⟨z43,rfl⟩:∃m:Nat,z43=m:=⟨_,hc14⟩
 obtain⟨z44,rfl⟩:∃m:Nat,z44=m:=⟨_,hc15⟩
 simp only [Int.toNat_natCast,yb,qb,vb,jb,qc]
 simp only [Int.toNat_natCast,yb,qb,vb,jb,qc,waA]at hp
 exact za8 ⟨z26,z27,z28,z29,⟨z31,z32⟩,z33,z34⟩ ⟨z36,z37,z38,z39,⟨z41,z42⟩,z43,z44⟩ hp
@[go_sem] def jaB (a:Bk) (b:Bk):D:= .bool true
@[go_sem] abbrev jcL:FuncId:=12
@[go_sem] def jbp:Tab:=[(37,qH),(38,jP),(39,zQ),(40,bG),(41,zH)]
theorem xaB:za Tryz.prog jbp:=(za.cons yaq (za.cons zaG (za.cons kaG (za.cons uap (za.cons gap za.nil)))))
set_option maxRecDepth 8000 in
set_option maxHeartbeats 1000000 in
theorem ka8 (a:Bk) (b:Bk) (h:a=b∧a.w.c=[]∧a.w.w=[]∧a.k=[]):va Tryz.prog 12 [.agg [.sl (chs a.w.c), .sl (wts a.w.w), .sl (ivs a.w.i), .sl (pys a.w.p), .c (.int .u64 (a.w.f.next:Int)), .sl (evs a.w.f.l), .c (.int .u64 (a.w.next:Int)), .c (.int .u64 (a.w.tick:Int)), .sl (tms a.a.l), .sl (rks a.r), .sl (kys a.k), .sl (cts a.s)], .agg [.sl (chs b.w.c), .sl (wts b.w.w), .sl (ivs b.w.i), .sl (pys b.w.p), .c (.int .u64 (b.w.f.next:Int)), .sl (evs b.w.f.l), .c (.int .u64 (b.w.next:Int)), .c (.int .u64 (b.w.tick:Int)), .sl (tms b.a.l), .sl (rks b.r), .sl (kys b.k), .sl (cts b.s)]] (jaB a b):=by
 obtain⟨rfl,hc,hw,hk⟩:=h
 refine .of (jeq xaB (Nat.le_of_ble_eq_true rfl) ?_)
 simp -implicitDefEqProofs only [cdA,go_sem,Go.Proofs.Tryz.f12,reduceIte,reduceCtorEq,Nat.reduceEqDiff,Nat.reduceAdd,Nat.reduceLeDiff,Nat.reduceSub,Nat.reduceMul,Nat.reduceLT,Nat.reduceShiftRight,Nat.reduceMod,Int.reduceLE,Int.reduceLT,Int.reduceToNat,List.cons.injEq,cdB]
 exact⟨⟨hc,hw⟩,hk,hk⟩
@[go_sem] def qaB (a:Bk) (b:Bk):Prop:=(a=b∧a.w.c=[]∧a.w.w=[]∧a.k=[])
def vH:List D→Option (Prop×D×Fr)
 |[.agg [.c (.sl z47), .c (.sl z48), .c (.sl z49), .c (.sl z50), .c (.int .u64 z52), .c (.sl z53), .c (.int .u64 z54), .c (.int .u64 z55), .c (.sl z57), .c (.sl z58), .c (.sl z59), .c (.sl z60)], .agg [.c (.sl z63), .c (.sl z64), .c (.sl z65), .c (.sl z66), .c (.int .u64 z68), .c (.sl z69), .c (.int .u64 z70), .c (.int .u64 z71), .c (.sl z73), .c (.sl z74), .c (.sl z75), .c (.sl z76)]]=>some (z47=chs (ug z47)∧z48=wts (vl z48)∧z49=ivs (qi z49)∧z50=pys (ji z50)∧z52=(z52.toNat:Int)∧z53=evs (xh z53)∧z54=(z54.toNat:Int)∧z55=(z55.toNat:Int)∧z57=tms (zh z57)∧z58=rks (vj z58)∧z59=kys (yo z59)∧z60=cts (xm z60)∧z63=chs (ug z63)∧z64=wts (vl z64)∧z65=ivs (qi z65)∧z66=pys (ji z66)∧z68=(z68.toNat:Int)∧z69=evs (xh z69)∧z70=(z70.toNat:Int)∧z71=(z71.toNat:Int)∧z73=tms (zh z73)∧z74=rks (vj z74)∧z75=kys (yo z75)∧z76=cts (xm z76)∧qaB (⟨(⟨(ug z47),(vl z48),(qi z49),(ji z50),(⟨z52.toNat,(xh z53)⟩:Fd),z54.toNat,z55.toNat⟩:Wl),(⟨(zh z57)⟩:Ar),(vj z58),(yo z59),(xm z60)⟩:Bk) (⟨(⟨(ug z63),(vl z64),(qi z65),(ji z66),(⟨z68.toNat,(xh z69)⟩:Fd),z70.toNat,z71.toNat⟩:Wl),(⟨(zh z73)⟩:Ar),(vj z74),(yo z75),(xm z76)⟩:Bk),jaB (⟨(⟨(ug z47),(vl z48),(qi z49),(ji z50),(⟨z52.toNat,(xh z53)⟩:Fd),z54.toNat,z55.toNat⟩:Wl),(⟨(zh z57)⟩:Ar),(vj z58),(yo z59),(xm z60)⟩:Bk) (⟨(⟨(ug z63),(vl z64),(qi z65),(ji z66),(⟨z68.toNat,(xh z69)⟩:Fd),z70.toNat,z71.toNat⟩:Wl),(⟨(zh z73)⟩:Ar),(vj z74),(yo z75),(xm z76)⟩:Bk),[])
 |_=>none
attribute [go_sem] vH
theorem jaq:∀rs p r fr,vH rs=some (p,r,fr)→p→uc Tryz.prog 12 rs r fr:=by
 intro rs p r fr h hp
 unfold vH at h
 split at h<;>cases h
 obtain⟨hc0,hc1,hc2,hc3,hc4,hc5,hc6,hc7,hc8,hc9,hc10,hc11,hc12,hc13,hc14,hc15,hc16,hc17,hc18,hc19,hc20,hc21,hc22,hc23,hp⟩:=hp
 rename_i z47 z48 z49 z50 z52 z53 z54 z55 z57 z58 z59 z60 z63 z64 z65 z66 z68 z69 z70 z71 z73 z74 z75 z76
 obtain⟨z47,rfl⟩:∃m,z47=chs m:=⟨_,hc0⟩
 obtain⟨z48,rfl⟩:∃m,z48=wts m:=⟨_,hc1⟩
 obtain⟨z49,rfl⟩:∃m,z49=ivs m:=⟨_,hc2⟩
 obtain⟨z50,rfl⟩:∃m,z50=pys m:=⟨_,hc3⟩
 obtain⟨z52,rfl⟩:∃m:Nat,z52=m:=⟨_,hc4⟩
 obtain⟨z53,rfl⟩:∃m,z53=evs m:=⟨_,hc5⟩
 obtain⟨z54,rfl⟩:∃m:Nat,z54=m:=⟨_,hc6⟩
 obtain⟨z55,rfl⟩:∃m:Nat,z55=m:=⟨_,hc7⟩
 obtain⟨z57,rfl⟩:∃m,z57=tms m:=⟨_,hc8⟩
 obtain⟨z58,rfl⟩:∃m,z58=rks m:=⟨_,hc9⟩
 obtain⟨z59,rfl⟩:∃m,z59=kys m:=⟨_,hc10⟩
 obtain⟨z60,rfl⟩:∃m,z60=cts m:=⟨_,hc11⟩
 obtain⟨z63,rfl⟩:∃m,z63=chs m:=⟨_,hc12⟩
 obtain⟨z64,rfl⟩:∃m,z64=wts m:=⟨_,hc13⟩
 obtain⟨z65,rfl⟩:∃m,z65=ivs m:=⟨_,hc14⟩
 obtain⟨z66,rfl⟩:∃m,z66=pys m:=⟨_,hc15⟩
 obtain⟨z68,rfl⟩:∃m:Nat,z68=m:=⟨_,hc16⟩
 obtain⟨z69,rfl⟩:∃m,z69=evs m:=⟨_,hc17⟩
 obtain⟨z70,rfl⟩:∃m:Nat,z70=m:=⟨_,hc18⟩
 obtain⟨z71,rfl⟩:∃m:Nat,z71=m:=⟨_,hc19⟩
 obtain⟨z73,rfl⟩:∃m,z73=tms m:=⟨_,hc20⟩
 obtain⟨z74,rfl⟩:∃m,z74=rks m:=⟨_,hc21⟩
 obtain⟨z75,rfl⟩:∃m,z75=kys m:=⟨_,hc22⟩
 obtain⟨z76,rfl⟩:∃m,z76=cts m:=⟨_,hc23⟩
 simp only [Int.toNat_natCast,yb,jd,qb,vb,ze,jb,yc,xb,qc]
 simp only [Int.toNat_natCast,yb,jd,qb,vb,ze,jb,yc,xb,qc,qaB]at hp
 exact ka8 ⟨⟨z47,z48,z49,z50,⟨z52,z53⟩,z54,z55⟩,⟨z57⟩,z58,z59,z60⟩ ⟨⟨z63,z64,z65,z66,⟨z68,z69⟩,z70,z71⟩,⟨z73⟩,z74,z75,z76⟩ hp
end Dm
