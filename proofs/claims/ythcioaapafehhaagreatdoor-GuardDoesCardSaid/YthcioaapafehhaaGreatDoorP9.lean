import Derived.Test.YthcioaapafehhaaGreatDoorP8

set_option linter.unusedSimpArgs false
set_option linter.unusedVariables false
set_option linter.unusedSectionVars false
set_option linter.defProp false
set_option maxRecDepth 20000
set_option maxHeartbeats 4000000
namespace Dm
open Go Go.Proofs Go.IntWalk
@[go_sem] def jbi (a:List UInt8) (b:List UInt8):D:= .bool (decide (a=b))
@[go_sem] abbrev xdS:FuncId:=193
@[go_sem] def xcb:Tab:=[]
theorem ya5:za Tryz.prog xcb:=za.nil
theorem ybO (a:List UInt8) (b:List UInt8):ja Tryz.prog 193 [.sl (u8s a), .sl (u8s b)] (jbi a b):=by
 refine .of (keh ya5 (Nat.le_of_ble_eq_true rfl) ?_)
 simp -implicitDefEqProofs only [cdA,go_sem,Go.Proofs.Tryz.f193,simprocAttr, -Int.reduceEq,List.cons.injEq,cdB]
def gJ:List D→Option (Prop×D×Fr)
 |[.c (.sl z1), .c (.sl z2)]=>some (z1=u8s (vf z1)∧z2=u8s (vf z2),jbi (vf z1) (vf z2),[])
 |_=>none
attribute [go_sem] gJ
theorem xab:ga 193 gJ:=by
 intro rs p r fr h hp
 unfold gJ at h
 split at h<;>cases h
 obtain⟨hc0,hc1⟩:=hp
 rename_i z1 z2
 have:=ybO (vf z1) (vf z2)
 rw [←hc0,←hc1]at this
 exact this
@[go_sem] def ybP (a:Tm) (b:Tm):D:= .bool (decide (nmT a=nmT b))
@[go_sem] abbrev beL:FuncId:=109
@[go_sem] def zcI:Tab:=[(193,gJ)]
theorem ybu:za Tryz.prog zcI:=(za.cons xab za.nil)
theorem qcc (a:Tm) (b:Tm):ja Tryz.prog 109 [.agg [.c (.int .u64 (a.key:Int)), .c (.int .i64 a.up), .sl (u8s a.text)], .agg [.c (.int .u64 (b.key:Int)), .c (.int .i64 b.up), .sl (u8s b.text)]] (ybP a b):=by
 refine .of (kea ybu (Nat.le_of_ble_eq_true rfl) ?_)
 simp -implicitDefEqProofs only [cdA,go_sem,Go.Proofs.Tryz.f109,simprocAttr, -Int.reduceEq,List.cons.injEq,cdB]
 have e:nmT a=nmT b↔a.key=b.key∧a.up=b.up∧a.text=b.text:=by simp [nmT]
 refine⟨fun h1=>⟨fun h2=>decide_eq_decide.2 ⟨fun h=>e.2 ⟨by omega,h2,h⟩,fun h=>(e.1 h).2.2⟩,fun h2=>(decide_eq_false fun h=>h2 (e.1 h).2.1).symm⟩,fun h1=>(decide_eq_false fun h=>h1 (by have:=(e.1 h).1;omega)).symm⟩
def gW:List D→Option (Prop×D×Fr)
 |[.agg [.c (.int .u64 z4), .c (.int .i64 z5), .c (.sl z6)], .agg [.c (.int .u64 z8), .c (.int .i64 z9), .c (.sl z10)]]=>some (z4=(z4.toNat:Int)∧z6=u8s (vf z6)∧z8=(z8.toNat:Int)∧z10=u8s (vf z10),ybP (⟨z4.toNat,z5,(vf z6)⟩:Tm) (⟨z8.toNat,z9,(vf z10)⟩:Tm),[])
 |_=>none
attribute [go_sem] gW
theorem van:ga 109 gW:=by
 intro rs p r fr h hp
 unfold gW at h
 split at h<;>cases h
 obtain⟨hc0,hc1,hc2,hc3⟩:=hp
 rename_i z4 z5 z6 z8 z9 z10
 have:=qcc ⟨z4.toNat,z5,(vf z6)⟩ ⟨z8.toNat,z9,(vf z10)⟩
 rw [←hc0,←hc1,←hc2,←hc3]at this
 exact this
def jm (l:List Tm) (k:NK):Int:=match alk k (bkA l)with
 |some i=>i
 |none=> -1
theorem xaZ:∀{l:List Tm} {o i:Nat} {k:NK},i<l.length→nmT (l.getD i default)=k→∃v,alk k (bkO o l)=some v∧(o:Int)≤v∧v≤(o+i:Nat)
 |x::l,o,i,k,hi,hk=>by
  rw [bkO,alk]
  by_cases hx:nmT x=k
  ·rw [if_pos hx];exact⟨_,rfl,Int.le_refl _,by omega⟩
  ·rw [if_neg hx]
   cases i with
   |zero=>exact absurd hk hx
   |succ j=>
    obtain⟨v,h1,h2,h3⟩:=xaZ (o:=o+1) (k:=k) (show j<l.length by simpa using hi) (by rw [List.getD_cons_succ]at hk;exact hk)
    exact⟨v,h1,by omega,by omega⟩
theorem jbc:∀{l:List Tm} {o:Nat} {k:NK} {v:Int},alk k (bkO o l)=some v→∃j,j<l.length∧nmT (l.getD j default)=k∧v=(o+j:Nat)
 |[],o,k,v,h=>by cases h
 |x::l,o,k,v,h=>by
  rw [bkO,alk]at h
  by_cases hx:nmT x=k
  ·rw [if_pos hx]at h;cases h;exact⟨0,by simp,hx,rfl⟩
  ·rw [if_neg hx]at h
   obtain⟨j,h1,h2,h3⟩:=jbc h
   exact⟨j+1,by simpa using h1,by rw [List.getD_cons_succ];exact h2,by omega⟩
theorem gbL {l:List Tm} {k:NK} {i:Nat} (hi:i<l.length) (hk:nmT (l.getD i default)=k) (hall:∀j,j<i→nmT (l.getD j default)≠k):jm l k=i:=by
 obtain⟨v,h1,h2,h3⟩:=xaZ (o:=0) hi hk
 obtain⟨j,h4,h5,h6⟩:=jbc h1
 have:¬j<i:=fun h=>hall j h h5
 unfold jm
 rw [show alk k (bkA l)=some v from h1]
 show v=(i:Int)
 omega
theorem bbL {l:List Tm} {k:NK} (hall:∀j,j<l.length→nmT (l.getD j default)≠k):jm l k= -1:=by
 unfold jm
 cases h:alk k (bkA l)with
 |none=>rfl
 |some v=>
  obtain⟨j,h4,h5,_⟩:=jbc (o:=0) (show alk k (bkO 0 l)=some v from h)
  exact absurd h5 (hall j h4)
@[go_sem] def yaQ (l:List Tm) (n:Tm):D:= .int .i64 (jm l (nmT n))
@[go_sem] abbrev wdn:FuncId:=172
@[go_sem] def xbP:Tab:=[(109,gW)]
theorem kaa:za Tryz.prog xbP:=(za.cons van za.nil)
theorem xbu (l:List Tm) (n:Tm):ja Tryz.prog 172 [.sl (tms l), .agg [.c (.int .u64 (n.key:Int)), .c (.int .i64 n.up), .sl (u8s n.text)]] (yaQ l n):=by
 refine .of (uef kaa (Nat.le_of_ble_eq_true rfl) ?_)
 simp -implicitDefEqProofs only [cdA,go_sem,Go.Proofs.Tryz.f172,simprocAttr, -Int.reduceEq,List.cons.injEq,cdB]
 refine fun _=>SWp.loop (ι:={i:Nat // i≤l.length∧∀j,j<i→nmT (l.getD j default)≠nmT n}) (fun i=>⟨[(3, .ref 0 0),(7, .sl (tms l)),(8, .int .i64 l.length),(9, .int .i64 i.1)],[(0, .box [.c (.int .u64 n.key), .c (.int .i64 n.up), .sl (u8s n.text)])],1⟩) (fun i=>l.length - i.1) ⟨0,by simp⟩ ?_ ?_
 ·simp [go_sem]
 ·rintro⟨i,hi,hall⟩
  refine ya kaa.toS kdi _ _ _ rfl ?_
  simp -implicitDefEqProofs only [cdA,go_sem,simprocAttr, -Int.reduceEq,List.cons.injEq,cdB]
  refine⟨fun h1=>⟨h1,fun h2=> ?_,fun h2=>⟨⟨i+1,by omega,fun j hj=> ?_⟩,by dsimp only;omega,i64_in _ (by omega)⟩⟩,fun h1=> ?_⟩
  ·exact(gbL (by omega) h2 hall).symm
  ·by_cases hji:j=i
   ·rw [hji];exact h2
   ·exact hall j (by omega)
  ·have hi':i=l.length:=by omega
   subst hi'
   exact(bbL hall).symm
def vt:List D→Option (Prop×D×Fr)
 |[.c (.sl z11), .agg [.c (.int .u64 z13), .c (.int .i64 z14), .c (.sl z15)]]=>some (z11=tms (qb z11)∧z13=(z13.toNat:Int)∧z15=u8s (vf z15),yaQ (qb z11) (⟨z13.toNat,z14,(vf z15)⟩:Tm),[])
 |_=>none
attribute [go_sem] vt
theorem zG:ga 172 vt:=by
 intro rs p r fr h hp
 unfold vt at h
 split at h<;>cases h
 obtain⟨hc0,hc1,hc2⟩:=hp
 rename_i z11 z13 z14 z15
 have:=xbu (qb z11) ⟨z13.toNat,z14,(vf z15)⟩
 rw [←hc0,←hc1,←hc2]at this
 exact this
theorem kbh {l:List Tm} {i:Nat} (hi:i<l.length) {k:NK} (hk:nmT (l.getD i default)=k):0≤jm l k∧jm l k≤i:=by
 obtain⟨v,h1,h2,h3⟩:=xaZ (o:=0) hi hk
 unfold jm
 rw [show alk k (bkA l)=some v from h1]
 exact⟨by dsimp only;omega,by dsimp only;omega⟩
theorem wb9 {l:List Tm} {k:NK} {i:Nat} (h1:0≤jm l k) (h2:jm l k<i) (hi:i≤l.length):k∈(l.take i).map nmT:=by
 unfold jm at h1 h2
 split at h1
 ·rename_i v hv
  rw [hv]at h2
  dsimp only at h2
  obtain⟨j,hj,hk,e⟩:=jbc (o:=0) (show alk k (bkO 0 l)=some v from hv)
  have hji:j<i:=by omega
  refine List.mem_map.2 ⟨l.getD j default, ?_,hk⟩
  rw [va]
  refine⟨j,by rw [List.length_take];omega, ?_⟩
  rw [List.getD_eq_getElem?_getD,List.getD_eq_getElem?_getD,List.getElem?_take_of_lt hji]
 ·omega
theorem zbM {l:List Tm} {k:NK} {i:Nat} (h:¬jm l k<i) (hi:i≤l.length):k∉(l.take i).map nmT:=by
 intro hm
 obtain⟨x,hx,e⟩:=List.mem_map.1 hm
 obtain⟨j,hj,rfl⟩:=va.1 hx
 rw [List.length_take]at hj
 have:nmT (l.getD j default)=k:=by
  rw [←e,List.getD_eq_getElem?_getD,List.getD_eq_getElem?_getD,List.getElem?_take_of_lt (by omega)]
 have:=kbh (l:=l) (i:=j) (by omega) this
 omega
@[go_sem] def uaP (a:Ar):D:= .int .i64 (ym a.l)
@[go_sem] abbrev kdn:FuncId:=87
@[go_sem] def gbO:Tab:=[(172,vt)]
theorem jaa:za Tryz.prog gbO:=(za.cons zG za.nil)
theorem bbt (a:Ar):ja Tryz.prog 87 [.agg [.sl (tms a.l)]] (uaP a):=by
 refine .of (wfp jaa (Nat.le_of_ble_eq_true rfl) ?_)
 simp -implicitDefEqProofs only [cdA,go_sem,Go.Proofs.Tryz.f87,simprocAttr, -Int.reduceEq,List.cons.injEq,cdB]
 have hbad:¬kH a.l→1=ym a.l:=fun h=>by rw [ym,zn,if_neg h]
 generalize a.l=l at*
 refine fun _=>⟨fun h1=>hbad fun h=>by have:=h.1;omega,fun h1 _=> ?_⟩
 refine SWp.loop (ι:={i:Nat // i≤l.length∧((l.take i).map nmT).Nodup∧∀j,j<i→bbg j (l.getD j default)}) (fun i=>⟨[(1, .ref 0 0),(10, .sl (tms l)),(11, .int .i64 l.length),(12, .int .i64 i.1)],[(0, .box [.sl (tms l)])],1⟩) (fun i=>l.length - i.1) ⟨0,by simp,by simp,by simp⟩ ?_ ?_
 ·simp [go_sem]
 ·rintro⟨i,hi,hnd,hall⟩
  refine ya jaa.toS kfa _ _ _ rfl ?_
  simp -implicitDefEqProofs only [cdA,go_sem,simprocAttr, -Int.reduceEq,List.cons.injEq,cdB]
  refine⟨fun h2=> ?_,fun h2=> ?_⟩
  rotate_left 1
  ·have hi':i=l.length:=by omega
   subst hi'
   rw [List.take_length]at hnd
   rw [ym,zn,if_pos ⟨by omega,hnd,fun j hj=>hall j (List.mem_range.1 hj)⟩]
  have hi':i<l.length:=by omega
  have hin:kH l→bbg i (l.getD i default):=fun h=>h.2.2 i (List.mem_range.2 hi')
  have hdup:jm l (nmT (l.getD i default))<i→1=ym l:=fun hp=>hbad fun ho=>by
   have h3:=wb9 (kbh hi' rfl).1 hp hi
   have h4:((l.take (i+1)).map nmT).Nodup:=((List.take_prefix _ _).map _).sublist.nodup ho.2.1
   rw [take_succ hi',List.map_append,List.nodup_append]at h4
   exact h4.2.2 _ h3 _ (by simp) rfl
  have hstep:¬jm l (nmT (l.getD i default))<i→bbg i (l.getD i default)→∃i_1:{i:Nat // i≤l.length∧((l.take i).map nmT).Nodup∧∀j,j<i→bbg j (l.getD j default)},l.length - i_1.val<l.length - i∧IntKind.i64.wrap ((i:Int)+1)=i_1.val:=fun hp hok=>by
   refine⟨⟨i+1,hi', ?_,fun j hj=> ?_⟩,by dsimp only;omega,i64_in _ (by omega)⟩
   ·rw [take_succ hi',List.map_append,List.nodup_append]
    refine⟨hnd,by simp,fun x hx y hy=> ?_⟩
    simp at hy
    rintro rfl
    exact zbM hp hi (by rw [List.getD_eq_getElem?_getD,←hy];exact hx)
   ·by_cases hji:j=i
    ·subst hji;exact hok
    ·exact hall j (by omega)
  refine⟨h2, ?_⟩
  generalize hx:l.getD i default=x at*
  have hb2:¬bbg i x→1=ym l:=fun h=>hbad fun ho=>h (hin ho)
  have hok:¬x.up< -1→¬(i:Int)≤x.up→(0≤x.up→(x.key:Int)=0)→¬4096<(x.text.length:Int)→bbg i x:=fun a b c d=>⟨by omega,by omega,fun h=>by have:=c (by omega);omega,by omega⟩
  refine⟨fun a=>⟨fun b=>⟨fun c=>⟨fun d _=>⟨fun e=>⟨hdup,fun f=>hstep f (hok a b (fun _=>d) e)⟩,fun e=>hb2 fun h=>by have:=h.2.2.2;omega⟩,fun d=>hb2 fun h=>by have:=h.2.2.1 (by omega);omega⟩,fun c _=>⟨fun e=>⟨hdup,fun f=>hstep f (hok a b (fun h=>absurd h c) e)⟩,fun e=>hb2 fun h=>by have:=h.2.2.2;omega⟩⟩,fun b=>hb2 fun h=>by have:=h.2.1;omega⟩,fun a=>hb2 fun h=>by have:=h.1;omega⟩
def qn:List D→Option (Prop×D×Fr)
 |[.agg [.c (.sl z17)]]=>some (z17=tms (qb z17),uaP (⟨(qb z17)⟩:Ar),[])
 |_=>none
attribute [go_sem] qn
theorem ur:ga 87 qn:=by
 intro rs p r fr h hp
 unfold qn at h
 split at h<;>cases h
 have hc0:=hp
 rename_i z17
 have:=bbt ⟨(qb z17)⟩
 rw [←hc0]at this
 exact this
@[go_sem] def ubi (a:Ar):D:= .agg [.vec 0 a.l.length]
@[go_sem] def gaP (a:Ar):Fr:=[(3,83,true,tms a.l)]
@[go_sem] abbrev vdS:FuncId:=68
@[go_sem] def bcb:Tab:=[]
theorem bQ:za Tryz.prog bcb:=za.nil
theorem baP (a:Ar) (hl:a.l.length≤1048577∧∀t∈a.l,t.text.length≤4096):zf Tryz.prog 68 [.agg [.sl (tms a.l)]] (ubi a) (gaP a):=by
 refine .of (zfo bQ (Nat.le_of_ble_eq_true rfl) ?_)
 simp -implicitDefEqProofs only [cdA,go_sem,Go.Proofs.Tryz.f68,simprocAttr, -Int.reduceEq,List.cons.injEq,cdB]
 refine fun _=>SWp.gcD 2 0 3 83 rfl rfl (Nat.zero_le _) ?_
 generalize a.l=l at*
 refine SWp.loop (ι:={i:Nat // i≤l.length}) (fun i=>⟨[(3, .ref 2 0),(2, .ref 1 0),(8, .sl (tms l)),(9, .int .i64 l.length),(10, .int .i64 i.1)],[(2, .box [.vec 3 i.1]),(1, .box [.nil]),(3, .vec true 3 83 (tms (l.take i.1)))],4⟩) (fun i=>l.length - i.1) ⟨0,by simp⟩ ?_ ?_
 ·simp [go_sem];rfl
 ·rintro⟨i,hi⟩
  refine ya bQ.toS ve9 _ _ _ rfl ?_
  simp -implicitDefEqProofs only [cdA,go_sem,simprocAttr, -Int.reduceEq,List.cons.injEq,cdB]
  refine⟨fun h1=>⟨h1, ?_⟩,fun h1=> ?_⟩
  ·have hi':i<l.length:=by omega
   refine xb.run bdx bQ qa (by kernel_rfl) (by kernel_rfl) ?_
   simp -implicitDefEqProofs only [cdA,go_sem,simprocAttr, -Int.reduceEq,List.cons.injEq,cdB]
   have h4:=hl.2 _ (va.2 ⟨i,hi',rfl⟩)
   exact⟨by omega,by rw [List.length_take];omega,⟨i+1,hi'⟩,by dsimp only;omega,i64_in _ (by omega),rfl,by dsimp only;rw [take_succ hi']⟩
  ·have hi':i=l.length:=by omega
   subst hi'
   exact⟨[some 3],by simp [go_sem],rfl,rfl⟩
@[go_sem] def zcc (a:Ar):Prop:=(a.l.length≤1048577∧∀t∈a.l,t.text.length≤4096)
def wW:List D→Option (Prop×D×Fr)
 |[.agg [.c (.sl z19)]]=>some (z19=tms (qb z19)∧zcc (⟨(qb z19)⟩:Ar),ubi (⟨(qb z19)⟩:Ar),gaP (⟨(qb z19)⟩:Ar))
 |_=>none
attribute [go_sem] wW
theorem qaV:ga 68 wW:=by
 intro rs p r fr h hp
 unfold wW at h
 split at h<;>cases h
 obtain⟨hc0,hp⟩:=hp
 rename_i z19
 have:=baP ⟨(qb z19)⟩ hp
 rw [←hc0]at this
 exact And.intro rfl this
@[go_sem] def zaQ (a:Ar):D:= .agg [.sl (tms a.l)]
@[go_sem] abbrev vdn:FuncId:=68
@[go_sem] def ydt:Tab:=[]
theorem zbu (a:Ar) (hl:a.l.length≤1048577∧∀t∈a.l,t.text.length≤4096):ja Tryz.prog 68 [.agg [.sl (tms a.l)]] (zaQ a):=by
 refine zf.toPure (baP a hl) ?_
 simp [go_sem,vbY,xap,gao,pw,news,lk]
@[go_sem] def bbO (a:Ar):Prop:=(a.l.length≤1048577∧∀t∈a.l,t.text.length≤4096)
def jN:List D→Option (Prop×D×Fr)
 |[.agg [.c (.sl z21)]]=>some (z21=tms (qb z21)∧bbO (⟨(qb z21)⟩:Ar),zaQ (⟨(qb z21)⟩:Ar),[])
 |_=>none
attribute [go_sem] jN
theorem jaF:ga 68 jN:=by
 intro rs p r fr h hp
 unfold jN at h
 split at h<;>cases h
 obtain⟨hc0,hp⟩:=hp
 rename_i z21
 have:=zbu ⟨(qb z21)⟩ hp
 rw [←hc0]at this
 exact this
@[go_sem] def zbj (a:Ar) (n:Tm):D:= .tup [.agg [.sl (tms (bh a.l n).1)], .int .i64 (bh a.l n).2.1, .int .i64 (bh a.l n).2.2]
@[go_sem] abbrev gdS:FuncId:=247
@[go_sem] def kcc:Tab:=[(87,qn),(68,wW),(172,vt)]
theorem gal:za Tryz.prog kcc:=(za.cons ur (za.cons qaV (za.cons zG za.nil)))
theorem kbP (a:Ar) (n:Tm) (h: -1≤n.up):ja Tryz.prog 247 [.agg [.sl (tms a.l)], .agg [.c (.int .u64 (n.key:Int)), .c (.int .i64 n.up), .sl (u8s n.text)]] (zbj a n):=by
 refine .of (uel gal (Nat.le_of_ble_eq_true rfl) ?_)
 simp -implicitDefEqProofs only [cdA,go_sem,Go.Proofs.Tryz.f247,simprocAttr, -Int.reduceEq,List.cons.injEq,cdB]
 have hbad:∀e:Int,bh a.l n=([],0,e)→tms (bh a.l n).1=[]∧0=(bh a.l n).2.1∧e=(bh a.l n).2.2:=fun e h=>by rw [h];exact⟨rfl,rfl,rfl⟩
 have hrz:ym a.l=0↔kH a.l:=by unfold ym zn;split<;>rename_i h<;>simp only [h]<;>decide
 refine⟨fun h0 _=> ?_,fun h0=>hbad 1 (by rw [bh,if_pos (.inl fun h=>h0 (hrz.2 h))])⟩
 have hok:=hrz.1 h0
 have hl:=hok.1
 have htx:∀x∈a.l,x.text.length≤4096:=fun x hx=>by
  obtain⟨j,hj,rfl⟩:=va.1 hx
  exact(hok.2.2 j (List.mem_range.2 hj)).2.2.2
 have hsome:∀v,alk (nmT n) (bkA a.l)=some v→¬(a.l.length:Int)≤n.up→n.text.length≤4096→bh a.l n=(a.l,v,0):=fun v hv h1 h2=>wcH hok hv (by omega) h2
 have hnone:alk (nmT n) (bkA a.l)=none→¬(a.l.length:Int)≤n.up→n.text.length≤4096→bh a.l n=if a.l.length=1048576 then([],0,7)else(a.l++[n],(a.l.length:Int),0):=fun hv h1 h2=>by
  rw [bh,if_neg (by rintro(h|h);exact h hok;exact h1 h),if_neg (by omega),hv]
 refine⟨fun h1=>⟨fun h2=>absurd h2 (by omega),fun _ _=>⟨fun h2=>hbad 4 (by rw [bh,if_neg (by rintro(h|h);exact h hok;exact h1 h),if_pos (by omega)]),fun h2=>⟨⟨by omega,htx⟩,fun h3=> ?_,fun h3 _=> ?_⟩⟩⟩,fun h1=>hbad 1 (by rw [bh,if_pos (.inr h1)])⟩
 ·unfold jm at h3⊢
  split at h3
  ·rename_i v hv
   rw [hsome v hv h1 (by omega)]
   exact⟨⟨rfl,_,_,_,rfl⟩,rfl,rfl⟩
  ·exact absurd h3 (by decide)
 ·have hn:alk (nmT n) (bkA a.l)=none:=by
   unfold jm at h3
   split at h3
   ·rename_i v hv
    exact absurd (ycr hok hv).1 h3
   ·rename_i hv;exact hv
  have hp:=hnone hn h1 (by omega)
  refine⟨fun h4=>hbad 7 (by rw [hp];exact if_pos (by omega)),fun h4=> ?_⟩
  rw [show bh a.l n=(a.l++[n],(a.l.length:Int),0) by rw [hp];exact if_neg (by omega)]
  refine⟨by omega,by omega, ?_⟩
  refine SWp.ufr 0 0 rfl rfl rfl (by simp) ?_
  simp -implicitDefEqProofs only [cdA,go_sem,simprocAttr, -Int.reduceEq,List.cons.injEq,cdB]
  refine xb.run kch gal qa (by kernel_rfl) (by kernel_rfl) ?_
  simp -implicitDefEqProofs only [cdA,go_sem,simprocAttr, -Int.reduceEq,List.cons.injEq,cdB]
  rw [i64_in _ (by omega)];omega
@[go_sem] def vcc (a:Ar) (n:Tm):Prop:=(-1≤n.up)
def zX:List D→Option (Prop×D×Fr)
 |[.agg [.c (.sl z23)], .agg [.c (.int .u64 z25), .c (.int .i64 z26), .c (.sl z27)]]=>some (z23=tms (qb z23)∧z25=(z25.toNat:Int)∧z27=u8s (vf z27)∧vcc (⟨(qb z23)⟩:Ar) (⟨z25.toNat,z26,(vf z27)⟩:Tm),zbj (⟨(qb z23)⟩:Ar) (⟨z25.toNat,z26,(vf z27)⟩:Tm),[])
 |_=>none
attribute [go_sem] zX
theorem vaV:ga 247 zX:=by
 intro rs p r fr h hp
 unfold zX at h
 split at h<;>cases h
 obtain⟨hc0,hc1,hc2,hp⟩:=hp
 rename_i z23 z25 z26 z27
 have:=kbP ⟨(qb z23)⟩ ⟨z25.toNat,z26,(vf z27)⟩ hp
 rw [←hc0,←hc1,←hc2]at this
 exact this
@[go_sem] def bbi (a:Ar) (key:Nat) (text:List UInt8):D:= .tup [.agg [.sl (tms (bh a.l ⟨key, -1,text⟩).1)], .int .i64 (bh a.l ⟨key, -1,text⟩).2.1, .int .i64 (bh a.l ⟨key, -1,text⟩).2.2]
@[go_sem] abbrev udS:FuncId:=218
@[go_sem] def jcc:Tab:=[(247,zX)]
theorem ba5:za Tryz.prog jcc:=(za.cons vaV za.nil)
theorem qbP (a:Ar) (key:Nat) (text:List UInt8):ja Tryz.prog 218 [.agg [.sl (tms a.l)], .c (.int .u64 (key:Int)), .sl (u8s text)] (bbi a key text):=by
 refine .of (qej ba5 (Nat.le_of_ble_eq_true rfl) ?_)
 simp -implicitDefEqProofs only [cdA,go_sem,Go.Proofs.Tryz.f218,simprocAttr, -Int.reduceEq,List.cons.injEq,cdB]
def bW:List D→Option (Prop×D×Fr)
 |[.agg [.c (.sl z29)], .c (.int .u64 z30), .c (.sl z31)]=>some (z29=tms (qb z29)∧z30=(z30.toNat:Int)∧z31=u8s (vf z31),bbi (⟨(qb z29)⟩:Ar) z30.toNat (vf z31),[])
 |_=>none
attribute [go_sem] bW
theorem kaV:ga 218 bW:=by
 intro rs p r fr h hp
 unfold bW at h
 split at h<;>cases h
 obtain⟨hc0,hc1,hc2⟩:=hp
 rename_i z29 z30 z31
 have:=qbP ⟨(qb z29)⟩ z30.toNat (vf z31)
 rw [←hc0,←hc1,←hc2]at this
 exact this
end Dm
namespace Dm
open Go Go.Proofs Go.IntWalk
@[go_sem] def zbR (l:List Rk) (key:Nat):D:= .bool (qZ l key)
@[go_sem] abbrev veM:FuncId:=156
@[go_sem] def bcI:Tab:=[]
theorem bax:za Tryz.prog bcI:=za.nil
theorem jcd (l:List Rk) (key:Nat):ja Tryz.prog 156 [.sl (rks l), .c (.int .u64 (key:Int))] (zbR l key):=by
 refine .of (jee bax (Nat.le_of_ble_eq_true rfl) ?_)
 simp -implicitDefEqProofs only [cdA,go_sem,Go.Proofs.Tryz.f156,simprocAttr, -Int.reduceEq,List.cons.injEq,cdB]
 refine fun _=>SWp.loop (ι:={i:Nat // i≤l.length∧∀j,j<i→(l.getD j default).key≠key}) (fun i=>⟨[(1, .c (.int .u64 key)),(7, .sl (rks l)),(8, .int .i64 l.length),(9, .int .i64 i.1)],[],0⟩) (fun i=>l.length - i.1) ⟨0,by simp⟩ ?_ ?_
 ·simp [go_sem]
 ·rintro⟨i,hi,hall⟩
  refine ya bax.toS zdi _ _ _ rfl ?_
  simp -implicitDefEqProofs only [cdA,go_sem,simprocAttr, -Int.reduceEq,List.cons.injEq,cdB]
  refine⟨fun h4=>⟨h4,fun h5=> ?_,fun h5=>⟨⟨i+1,by omega,fun j hj=> ?_⟩,by dsimp only;omega,i64_in _ (by omega)⟩⟩,fun h4=> ?_⟩
  ·exact(decide_eq_true ⟨_,va.2 ⟨i,by omega,rfl⟩,by omega⟩).symm
  ·by_cases hji:j=i
   ·subst hji;omega
   ·exact hall j (by omega)
  ·have hi':i=l.length:=by omega
   subst hi'
   refine(decide_eq_false ?_).symm
   rintro⟨r,hr,hk⟩
   obtain⟨j,hj,rfl⟩:=va.1 hr
   exact hall j hj hk
def gN:List D→Option (Prop×D×Fr)
 |[.c (.sl z1), .c (.int .u64 z2)]=>some (z1=rks (gb z1)∧z2=(z2.toNat:Int),zbR (gb z1) z2.toNat,[])
 |_=>none
attribute [go_sem] gN
theorem vR:ga 156 gN:=by
 intro rs p r fr h hp
 unfold gN at h
 split at h<;>cases h
 obtain⟨hc0,hc1⟩:=hp
 rename_i z1 z2
 have:=jcd (gb z1) z2.toNat
 rw [←hc0,←hc1]at this
 exact this
@[go_sem] def yaR (l:List Rk):D:= .int .i64 (wZ l)
@[go_sem] abbrev qdo:FuncId:=88
@[go_sem] def gbQ:Tab:=[(156,gN)]
theorem vI:za Tryz.prog gbQ:=(za.cons vR za.nil)
theorem jbv (l:List Rk):ja Tryz.prog 88 [.sl (rks l)] (yaR l):=by
 refine .of (ufp vI (Nat.le_of_ble_eq_true rfl) ?_)
 simp -implicitDefEqProofs only [cdA,go_sem,Go.Proofs.Tryz.f88,simprocAttr, -Int.reduceEq,List.cons.injEq,cdB]
 have hbad:¬kak l→1=wZ l:=fun h=>by rw [wZ,if_neg h]
 refine fun _=>⟨fun h1=>hbad fun h=>by have:=h.1;omega,fun h1 _=> ?_⟩
 refine SWp.loop (ι:={i:Nat // i≤l.length∧(∀j,j<i→0<j→(l.getD (j - 1) default).id<(l.getD j default).id)∧((l.take i).map Rk.key).Nodup}) (fun i=>⟨[(0, .sl (rks l)),(8, .sl (rks l)),(9, .int .i64 l.length),(10, .int .i64 i.1)],[],0⟩) (fun i=>l.length - i.1) ⟨0,by simp,by simp,by simp⟩ ?_ ?_
 ·simp [go_sem]
 ·rintro⟨i,hi,hall,hnd⟩
  refine ya vI.toS vfa _ _ _ rfl ?_
  simp -implicitDefEqProofs only [cdA,go_sem,simprocAttr, -Int.reduceEq,List.cons.injEq,cdB]
  refine⟨fun h2=>⟨h2, ?_⟩,fun h2=> ?_⟩
  ·refine xb.run wdy vI qa (by kernel_rfl) (by kernel_rfl) ?_
   simp -implicitDefEqProofs only [cdA,go_sem,simprocAttr, -Int.reduceEq,List.cons.injEq,cdB]
   have hi':i<l.length:=by omega
   have htk:=take_succ hi'
   have hnext:(0<i→(l.getD (i - 1) default).id<(l.getD i default).id)→(qZ (l.take i) (l.getD i default).key=true→1=wZ l)∧(qZ (l.take i) (l.getD i default).key=false→∃i_1:{i:Nat // i≤l.length∧(∀j,j<i→0<j→(l.getD (j - 1) default).id<(l.getD j default).id)∧((l.take i).map Rk.key).Nodup},l.length - i_1.val<l.length - i∧IntKind.i64.wrap ((i:Int)+1)=i_1.val):=fun ho=>by
    refine⟨fun h3=>hbad fun h=> ?_,fun h3=>⟨⟨i+1,hi',fun j hj h0=> ?_, ?_⟩,by dsimp only;omega,i64_in _ (by omega)⟩⟩
    ·obtain⟨r,hr,hk⟩:=of_decide_eq_true h3
     have h4:((l.take (i+1)).map Rk.key).Nodup:=((List.take_prefix _ _).map _).sublist.nodup h.2.2
     rw [htk,List.map_append,List.nodup_append]at h4
     exact h4.2.2 _ (List.mem_map.2 ⟨r,hr,hk⟩) _ (by simp) rfl
    ·by_cases hji:j=i
     ·subst hji;exact ho h0
     ·exact hall j (by omega) h0
    ·rw [htk,List.map_append,List.nodup_append]
     refine⟨hnd,by simp,fun x hx y hy=> ?_⟩
     simp at hy
     rintro rfl
     obtain⟨r,hr,hk⟩:=List.mem_map.1 hx
     exact of_decide_eq_false h3 ⟨r,hr,by rw [hk,hy,List.getD_eq_getElem?_getD]⟩
   refine⟨fun h3=> ?_,fun h3=>⟨by omega,hnext fun h=>absurd h (by omega)⟩⟩
   rw [i64_in _ (by omega),show((i:Int) - 1).toNat=i - 1 by omega]
   exact⟨by omega,fun h4=>⟨by omega,hnext fun _=>by omega⟩,fun h4=>hbad fun h=>by have:=h.2.1 i hi' (by omega);simp only [ltN]at this;omega⟩
  ·have hi':i=l.length:=by omega
   subst hi'
   rw [List.take_length]at hnd
   rw [wZ,if_pos ⟨by omega,fun j hj h0=>hall j hj h0,hnd⟩]
def zu:List D→Option (Prop×D×Fr)
 |[.c (.sl z3)]=>some (z3=rks (gb z3),yaR (gb z3),[])
 |_=>none
attribute [go_sem] zu
theorem qG:ga 88 zu:=by
 intro rs p r fr h hp
 unfold zu at h
 split at h<;>cases h
 have hc0:=hp
 rename_i z3
 have:=jbv (gb z3)
 rw [←hc0]at this
 exact this
def vcX (l:List Rk) (id:Nat):Rk:=(Srt.fnd Rk.id l id).getD ⟨0,0,false⟩
theorem gbn {l:List Rk} {i id:Nat} (hi:i<l.length) (h:(l.getD i default).id=id) (hall:∀j,j<i→(l.getD j default).id≠id):Srt.fnd Rk.id l id=some (l.getD i default):=by
 rw [Srt.fnd,List.find?_eq_some_iff_getElem]
 refine⟨decide_eq_true h,i,hi,(xe hi).symm,fun j hj=> ?_⟩
 have:=hall j hj
 rw [xe (by omega)]at this
 simpa using this
@[go_sem] def xbj (l:List Rk) (id:Nat):D:= .tup [.agg [.int .u64 (vcX l id).id, .int .u64 (vcX l id).key, .bool (vcX l id).gone], .bool (Srt.fnd Rk.id l id).isSome]
@[go_sem] abbrev zdT:FuncId:=146
@[go_sem] def qcd:Tab:=[]
theorem bal:za Tryz.prog qcd:=za.nil
theorem bbQ (l:List Rk) (id:Nat):ja Tryz.prog 146 [.sl (rks l), .c (.int .u64 (id:Int))] (xbj l id):=by
 refine .of (ved bal (Nat.le_of_ble_eq_true rfl) ?_)
 simp -implicitDefEqProofs only [cdA,go_sem,Go.Proofs.Tryz.f146,simprocAttr, -Int.reduceEq,List.cons.injEq,cdB]
 refine fun _=>SWp.loop (ι:={i:Nat // i≤l.length∧∀j,j<i→(l.getD j default).id≠id}) (fun i=>⟨[(1, .c (.int .u64 id)),(4, .ref 0 0),(8, .sl (rks l)),(9, .int .i64 l.length),(10, .int .i64 i.1)],[(0, .box [.c (.int .u64 0), .c (.int .u64 0), .c (.bool false)])],1⟩) (fun i=>l.length - i.1) ⟨0,by simp⟩ ?_ ?_
 ·simp [go_sem]
 ·rintro⟨i,hi,hall⟩
  refine ya bal.toS wdh _ _ _ rfl ?_
  simp -implicitDefEqProofs only [cdA,go_sem,simprocAttr, -Int.reduceEq,List.cons.injEq,cdB]
  have hne:∀{j:Nat},j<i→(l.getD j default).id≠id:=fun h=>hall _ h
  refine⟨fun h2=>⟨h2,fun h3=> ?_,fun h3=>⟨⟨i+1,by omega,fun j hj=> ?_⟩,by dsimp only;omega,i64_in _ (by omega)⟩⟩,fun h2=> ?_⟩
  ·have hf:Srt.fnd Rk.id l id=some (l.getD i default):=gbn (by omega) (by omega) hall
   rw [vcX,hf];exact⟨⟨rfl,rfl,rfl⟩,rfl⟩
  ·by_cases hji:j=i
   ·subst hji;omega
   ·exact hall j (by omega)
  ·have hi':i=l.length:=by omega
   subst hi'
   have hf:Srt.fnd Rk.id l id=none:=Srt.xaB.2 fun x hx=>by
    obtain⟨j,hj,rfl⟩:=va.1 hx
    exact hall j hj
   rw [vcX,hf];exact⟨⟨rfl,rfl,rfl⟩,rfl⟩
def yK:List D→Option (Prop×D×Fr)
 |[.c (.sl z4), .c (.int .u64 z5)]=>some (z4=rks (gb z4)∧z5=(z5.toNat:Int),xbj (gb z4) z5.toNat,[])
 |_=>none
attribute [go_sem] yK
theorem kab:ga 146 yK:=by
 intro rs p r fr h hp
 unfold yK at h
 split at h<;>cases h
 obtain⟨hc0,hc1⟩:=hp
 rename_i z4 z5
 have:=bbQ (gb z4) z5.toNat
 rw [←hc0,←hc1]at this
 exact this
@[go_sem] def jbj (l:List Rk) (r:Rk):D:= .sl (rks (l.filter (fun e=>decide (e.id<r.id))++r::l.filter (fun e=>decide (r.id<e.id))))
@[go_sem] abbrev xdT:FuncId:=157
@[go_sem] def wcd:Tab:=[]
theorem xR:za Tryz.prog wcd:=za.nil
theorem jbR (l:List Rk) (r:Rk) (hl:l.length≤1000000):ja Tryz.prog 157 [.sl (rks l), .agg [.c (.int .u64 (r.id:Int)), .c (.int .u64 (r.key:Int)), .c (.bool r.gone)]] (jbj l r):=by
 refine .of (kee xR (Nat.le_of_ble_eq_true rfl) ?_)
 simp -implicitDefEqProofs only [cdA,go_sem,Go.Proofs.Tryz.f157,simprocAttr, -Int.reduceEq,List.cons.injEq,cdB]
 refine fun _=>SWp.xaa 5 3 70 rfl (Nat.zero_le _) ?_
 refine SWp.loop (ι:={i:Nat // i≤l.length}) (fun i=>⟨[(5, .vec 1 ((l.take i.1).filter (fun e=>decide (e.id<r.id))).length),(0, .sl (rks l)),(3, .ref 0 0),(10, .sl (rks l)),(11, .int .i64 l.length),(12, .int .i64 i.1)],[(1, .vec true 3 70 (rks ((l.take i.1).filter (fun e=>decide (e.id<r.id))))),(0, .box [.c (.int .u64 r.id), .c (.int .u64 r.key), .c (.bool r.gone)])],2⟩) (fun i=>l.length - i.1) ⟨0,by simp⟩ ?_ ?_
 ·simp [go_sem];rfl
 ·rintro⟨i,hi⟩
  refine ya xR.toS xcC _ _ _ rfl ?_
  simp -implicitDefEqProofs only [cdA,go_sem,simprocAttr, -Int.reduceEq,List.cons.injEq,cdB]
  have hf:∀h:i<l.length,(l.take (i+1)).filter (fun e=>decide (e.id<r.id))=(l.take i).filter (fun e=>decide (e.id<r.id))++if(l.getD i default).id<r.id then [l.getD i default]else []:=fun h=>by
   rw [take_succ h,List.filter_append]
   congr 1
   by_cases hx:(l.getD i default).id<r.id
   ·rw [if_pos hx,List.filter_cons_of_pos (by simpa using hx)];rfl
   ·rw [if_neg hx,List.filter_cons_of_neg (by simpa using hx)];rfl
  have hlen:((l.take i).filter (fun e=>decide (e.id<r.id))).length≤i:=Nat.le_trans (List.length_filter_le _ _) (by rw [List.length_take];omega)
  refine⟨fun h2=>⟨h2,fun h3=>⟨by omega,⟨i+1,by omega⟩,by dsimp only;omega,⟨?_,i64_in _ (by omega)⟩, ?_⟩,fun h3=>⟨⟨i+1,by omega⟩,by dsimp only;omega,⟨?_,i64_in _ (by omega)⟩, ?_⟩⟩,fun h2=>⟨by omega,fun _=> ?_⟩⟩
  ·dsimp only;rw [hf (by omega),if_pos (by omega),List.length_append];rfl
  ·dsimp only;rw [hf (by omega),if_pos (by omega)]
  ·dsimp only;rw [hf (by omega),if_neg (by omega),List.append_nil]
  ·dsimp only;rw [hf (by omega),if_neg (by omega),List.append_nil]
  have hi':i=l.length:=by omega
  subst hi'
  rw [List.take_length]at hlen⊢
  generalize hA:l.filter (fun e=>decide (e.id<r.id))=A at*
  refine SWp.loop (ι:={i:Nat // i≤l.length}) (fun i=>⟨[(5, .vec 1 (A++r::(l.take i.1).filter (fun e=>decide (r.id<e.id))).length),(3, .ref 0 0),(30, .sl (rks l)),(31, .int .i64 l.length),(32, .int .i64 i.1)],[(1, .vec true 3 70 (rks (A++r::(l.take i.1).filter (fun e=>decide (r.id<e.id))))),(0, .box [.c (.int .u64 r.id), .c (.int .u64 r.key), .c (.bool r.gone)])],2⟩) (fun i=>l.length - i.1) ⟨0,by simp⟩ ?_ ?_
  ·simp [go_sem]
  ·rintro⟨i,hi⟩
   refine ya xR.toS xcC _ _ _ rfl ?_
   simp -implicitDefEqProofs only [cdA,go_sem,simprocAttr, -Int.reduceEq,List.cons.injEq,cdB]
   have hf:∀h:i<l.length,(l.take (i+1)).filter (fun e=>decide (r.id<e.id))=(l.take i).filter (fun e=>decide (r.id<e.id))++if r.id<(l.getD i default).id then [l.getD i default]else []:=fun h=>by
    rw [take_succ h,List.filter_append]
    congr 1
    by_cases hx:r.id<(l.getD i default).id
    ·rw [if_pos hx,List.filter_cons_of_pos (by simpa using hx)];rfl
    ·rw [if_neg hx,List.filter_cons_of_neg (by simpa using hx)];rfl
   have hlen2:((l.take i).filter (fun e=>decide (r.id<e.id))).length≤i:=Nat.le_trans (List.length_filter_le _ _) (by rw [List.length_take];omega)
   refine⟨fun h2=>⟨h2,fun h3=>⟨by omega,⟨i+1,by omega⟩,by dsimp only;omega,⟨?_,i64_in _ (by omega)⟩, ?_⟩,fun h3=>⟨⟨i+1,by omega⟩,by dsimp only;omega,⟨?_,i64_in _ (by omega)⟩, ?_⟩⟩,fun h2=> ?_⟩
   ·dsimp only;rw [hf (by omega),if_pos (by omega),List.length_append];rfl
   ·dsimp only;rw [hf (by omega),if_pos (by omega)]
   ·dsimp only;rw [hf (by omega),if_neg (by omega),List.append_nil]
   ·dsimp only;rw [hf (by omega),if_neg (by omega),List.append_nil]
   ·have hi':i=l.length:=by omega
    subst hi'
    rw [List.take_length]
    exact⟨rfl,_,_,_,rfl⟩
@[go_sem] def ucd (l:List Rk) (r:Rk):Prop:=(l.length≤1000000)
def qA:List D→Option (Prop×D×Fr)
 |[.c (.sl z6), .agg [.c (.int .u64 z8), .c (.int .u64 z9), .c (.bool z10)]]=>some (z6=rks (gb z6)∧z8=(z8.toNat:Int)∧z9=(z9.toNat:Int)∧ucd (gb z6) (⟨z8.toNat,z9.toNat,z10⟩:Rk),jbj (gb z6) (⟨z8.toNat,z9.toNat,z10⟩:Rk),[])
 |_=>none
attribute [go_sem] qA
theorem xK:ga 157 qA:=by
 intro rs p r fr h hp
 unfold qA at h
 split at h<;>cases h
 obtain⟨hc0,hc1,hc2,hp⟩:=hp
 rename_i z6 z8 z9 z10
 have:=jbR (gb z6) ⟨z8.toNat,z9.toNat,z10⟩ hp
 rw [←hc0,←hc1,←hc2]at this
 exact this
@[go_sem] def ubQ (l:List Rk) (id:Nat) (key:Nat):D:= .tup [.sl (rks (zh l id key).1), .int .i64 (zh l id key).2]
@[go_sem] abbrev keM:FuncId:=77
@[go_sem] def gcI:Tab:=[(88,zu),(146,yK),(156,gN),(157,qA)]
theorem xbv:za Tryz.prog gcI:=(za.cons qG (za.cons kab (za.cons vR (za.cons xK za.nil))))
theorem xcd (l:List Rk) (id:Nat) (key:Nat):ja Tryz.prog 77 [.sl (rks l), .c (.int .u64 (id:Int)), .c (.int .u64 (key:Int))] (ubQ l id key):=by
 refine .of (gfo xbv (Nat.le_of_ble_eq_true rfl) ?_)
 simp -implicitDefEqProofs only [cdA,go_sem,Go.Proofs.Tryz.f77,simprocAttr, -Int.reduceEq,List.cons.injEq,cdB]
 have hbad:∀e,qaI l id key=e→¬e=0→rks (zh l id key).1=[]∧e=(zh l id key).2:=fun e h1 h2=>by
  rw [zh,if_neg (by rw [h1];exact h2),h1];exact⟨rfl,rfl⟩
 have hcz:wZ l=0↔kak l:=by unfold wZ;split<;>simp_all
 refine⟨fun h0=> ?_,fun h0=>hbad 1 (by rw [qaI,if_pos fun h=>h0 (hcz.2 h)]) (by decide)⟩
 have hok:=hcz.1 h0
 have h64:=hok.1
 have hu:=kce hok
 have hth:(Srt.fnd Rk.id l id).isSome=Srt.thr Rk.id ltN l id:=by
  rw [Srt.xa0 (lt:=ltN) Srt.zH hu]
  cases Srt.thr Rk.id ltN l id<;>rfl
 rw [hth]
 refine⟨fun h1=>⟨fun h2=>hbad 6 (by rw [qaI,if_neg (fun h=>h hok),if_pos (.inr h2)]) (by decide),fun h2 _=>⟨fun h3=>hbad 7 ?_ (by decide),fun h3=>⟨by omega, ?_⟩⟩⟩,fun h1=>hbad 6 (by rw [qaI,if_neg (fun h=>h hok),if_pos (.inl h1)]) (by decide)⟩
 ·rw [qaI,if_neg (fun h=>h hok),if_neg (by rintro(h|h);rw [h1]at h;cases h;rw [h2]at h;cases h),if_pos (by omega)]
 ·have he:qaI l id key=0:=by rw [qaI,if_neg (fun h=>h hok),if_neg (by rintro(h|h);rw [h1]at h;cases h;rw [h2]at h;cases h),if_neg (by omega)]
  rw [zh,if_pos he]
  have:=Srt.yav (lt:=ltN) (key:=Rk.id) Srt.zH (x:=⟨id,key,false⟩) hu
  rw [Srt.put,if_neg (by rw [h1];decide)]at this
  exact⟨congrArg rks this,rfl⟩
def jag:List D→Option (Prop×D×Fr)
 |[.c (.sl z11), .c (.int .u64 z12), .c (.int .u64 z13)]=>some (z11=rks (gb z11)∧z12=(z12.toNat:Int)∧z13=(z13.toNat:Int),ubQ (gb z11) z12.toNat z13.toNat,[])
 |_=>none
attribute [go_sem] jag
theorem qba:ga 77 jag:=by
 intro rs p r fr h hp
 unfold jag at h
 split at h<;>cases h
 obtain⟨hc0,hc1,hc2⟩:=hp
 rename_i z11 z12 z13
 have:=xcd (gb z11) z12.toNat z13.toNat
 rw [←hc0,←hc1,←hc2]at this
 exact this
end Dm
namespace Dm
open Go Go.Proofs Go.IntWalk
theorem udu {l:List Ct} {root:Nat} {cav:List Cv} {n:Nat} (h:(js l root cav n).2=0):(vZ cav).2=0∧vk l=0∧n≤4611686018427387904∧(js l root cav n).1=(vZ cav).1.map (fun x=>(x.1,(wg l root x.1:Int)+n))∧
 ∀x∈(vZ cav).1,(wg l root x.1:Int)+n≤4611686018427387904∧(wg l root x.1:Int)+n≤x.2:=by
 unfold js at h⊢
 split at h
 ·rename_i hc
  rw [if_pos hc]
  split at h
  ·rename_i ha
   rw [if_pos ha]
   exact⟨hc.1,hc.2.1,hc.2.2,rfl,fun x hx=>by simpa using List.all_eq_true.1 ha x hx⟩
  ·cases h
 ·cases h
theorem qcs {b:Nat} {own:Cv} (hk:own.kind=4) (hb:own.b=b) (m:List (Nat×Int)):∃v,nlk b (xP m own)=some v∧v≤own.a:=by
 subst hb
 unfold xP
 rw [if_pos hk]
 cases hn:nlk own.b m with
 |none=>exact⟨own.a,by simp [uw],Int.le_refl _⟩
 |some n=>
  by_cases h:(own.a:Int)<n
  ·simp only [h,if_true];exact⟨own.a,by simp [uw],Int.le_refl _⟩
  ·simp only [h,if_false];exact⟨n,hn,by omega⟩
theorem jcs (l:List Cv):(∀x∈l.foldl xP [],∃c∈l,c.kind=4∧c.b=x.1∧(c.a:Int)=x.2)∧∀c∈l,c.kind=4→∃v,nlk c.b (l.foldl xP [])=some v∧v≤c.a:=by
 have nd:∀l:List Cv,((l.foldl xP []).map (·.1)).Nodup:=by
  intro l
  have:∀(l:List Cv) (m:List (Nat×Int)),(m.map (·.1)).Nodup→((l.foldl xP m).map (·.1)).Nodup:=by
   intro l
   induction l with
   |nil=>exact fun m h=>h
   |cons c l ih=>
    intro m h
    refine ih _ ?_
    unfold xP
    split
    ·split
     ·split
      ·exact jaC h
      ·exact h
     ·exact jaC h
    ·exact h
  exact this l [] (by simp)
 have rev:∀k:Nat,k≤l.length→(∀x∈(l.take k).foldl xP [],∃c∈l.take k,c.kind=4∧c.b=x.1∧(c.a:Int)=x.2)∧∀c∈l.take k,c.kind=4→∃v,nlk c.b ((l.take k).foldl xP [])=some v∧v≤c.a:=by
  intro k
  induction k with
  |zero=>intro _;simp
  |succ k ih=>
   intro hk
   obtain⟨h1,h2⟩:=ih (by omega)
   have e:(l.take (k+1)).foldl xP []=xP ((l.take k).foldl xP []) (l.getD k default):=by rw [take_succ (by omega),List.foldl_append];rfl
   have hnd:=nd (l.take k)
   have hnd':=nd (l.take (k+1))
   rw [e]at hnd'⊢
   rw [take_succ (by omega)]
   generalize l.getD k default=c at*
   generalize (l.take k).foldl xP []=m at*
   have hmem:∀x,x∈xP m c→x∈m∨(c.kind=4∧x=(c.b,(c.a:Int))):=fun x hx=>by
    have hx':=(yM (k:=x.1) (b:=x.2) hnd').2 hx
    unfold xP at hx'
    have hset:nlk x.1 (qaN c.b c.a m)=some x.2→c.kind=4→x∈m∨(c.kind=4∧x=(c.b,(c.a:Int))):=fun h hk4=>by
     rw [uw]at h
     split at h
     ·rename_i he;exact .inr ⟨hk4,Prod.ext he (Option.some.inj h).symm⟩
     ·exact .inl ((yM hnd).1 h)
    split at hx'
    ·rename_i hk4
     split at hx'
     ·split at hx'
      ·exact hset hx' hk4
      ·exact .inl ((yM hnd).1 hx')
     ·exact hset hx' hk4
    ·exact .inl ((yM hnd).1 hx')
   refine⟨fun x hx=> ?_,fun c' hc' hk4=> ?_⟩
   ·rcases hmem x hx with h|⟨h,rfl⟩
    ·obtain⟨c',q1,q2⟩:=h1 x h
     exact⟨c',List.mem_append_left _ q1,q2⟩
    ·exact⟨c,by simp,h,rfl,rfl⟩
   ·have step:∀{b:Nat} {v:Int},nlk b m=some v→∃u,nlk b (xP m c)=some u∧u≤v:=fun{b v} hv=>by
     unfold xP
     split
     ·split
      ·rename_i n hn
       split
       ·rename_i hlt
        rw [uw]
        split
        ·rename_i he;subst he;rw [hn]at hv;cases hv;exact⟨_,rfl,by omega⟩
        ·exact⟨v,hv,Int.le_refl _⟩
       ·exact⟨v,hv,Int.le_refl _⟩
      ·rename_i hn
       rw [uw]
       split
       ·rename_i he;subst he;rw [hn]at hv;cases hv
       ·exact⟨v,hv,Int.le_refl _⟩
     ·exact⟨v,hv,Int.le_refl _⟩
    rcases List.mem_append.1 hc' with hc'|hc'
    ·obtain⟨v,q1,q2⟩:=h2 c' hc' hk4
     obtain⟨u,q3,q4⟩:=step q1
     exact⟨u,q3,by omega⟩
    ·simp at hc';subst hc'
     exact qcs hk4 rfl m
 have:=rev l.length (Nat.le_refl _)
 rwa [List.take_length]at this
theorem ycg {l:List Ct} {root:Nat} {cav:List Cv} {n:Nat} (h1:(vZ cav).2=0) (h2:vk l=0) (h3:n≤4611686018427387904):
 (js l root cav n).2=0↔∀x∈(vZ cav).1,(wg l root x.1:Int)+n≤4611686018427387904∧(wg l root x.1:Int)+n≤x.2:=by
 refine⟨fun h=>(udu h).2.2.2.2,fun h=> ?_⟩
 rw [js,if_pos ⟨h1,h2,h3⟩,if_pos (List.all_eq_true.2 fun x hx=>by simpa using h x hx)]
theorem xcg {l:List Ct} {root:Nat} {cav:List Cv} {n:Nat} (h1:(vZ cav).2=0) (h2:vk l=0) (h3:n≤4611686018427387904):
 (js l root cav n).2=0↔∀c∈cav,c.kind=4→(wg l root c.b:Int)+n≤4611686018427387904∧(wg l root c.b:Int)+n≤c.a:=by
 rw [ycg h1 h2 h3]
 have hc:(vZ cav).1=cav.foldl xP []:=by
  unfold vZ at h1⊢
  split at h1
  ·rename_i h;rw [if_pos h]
  ·cases h1
 obtain⟨q1,q2⟩:=jcs cav
 rw [hc]
 have hnd:=vcj cav
 rw [hc]at hnd
 refine⟨fun h c hcm hk=> ?_,fun h x hx=> ?_⟩
 ·obtain⟨v,hv,hle⟩:=q2 c hcm hk
  have:=h (c.b,v) ((yM hnd).1 hv)
  dsimp only at this
  omega
 ·obtain⟨c,hcm,hk,hb,ha⟩:=q1 x hx
  have:=h c hcm hk
  rw [hb]at this
  omega
theorem xb0 {l:List Cv}:(vZ l).2=0↔l.length≤16∧l.all (fun c=>decide (ko c=0))=true:=by
 unfold vZ;split
 ·rename_i h;simp [h]
 ·rename_i h;simpa using h
theorem baW {l:List Ct} (h:vk l=0) (root b:Nat):gaW l root b=(wg l root b,0):=by rw [gaW,if_pos h]
@[go_sem] def jaQ (c:Cv):D:= .int .i64 (ko c)
@[go_sem] abbrev gdn:FuncId:=212
@[go_sem] def ubP:Tab:=[]
theorem qaQ:za Tryz.prog ubP:=za.nil
theorem jbu (c:Cv):ja Tryz.prog 212 [.agg [.c (.int .i64 c.kind), .c (.int .u64 (c.a:Int)), .c (.int .u64 (c.b:Int))]] (jaQ c):=by
 refine .of (bei qaQ (Nat.le_of_ble_eq_true rfl) ?_)
 simp -implicitDefEqProofs only [cdA,go_sem,Go.Proofs.Tryz.f212,simprocAttr, -Int.reduceEq,List.cons.injEq,cdB]
 unfold ko
 split<;>simp<;>omega
def bt:List D→Option (Prop×D×Fr)
 |[.agg [.c (.int .i64 z2), .c (.int .u64 z3), .c (.int .u64 z4)]]=>some (z3=(z3.toNat:Int)∧z4=(z4.toNat:Int),jaQ (⟨z2,z3.toNat,z4.toNat⟩:Cv),[])
 |_=>none
attribute [go_sem] bt
theorem yG:ga 212 bt:=by
 intro rs p r fr h hp
 unfold bt at h
 split at h<;>cases h
 obtain⟨hc0,hc1⟩:=hp
 rename_i z2 z3 z4
 have:=jbu ⟨z2,z3.toNat,z4.toNat⟩
 rw [←hc0,←hc1]at this
 exact this
@[go_sem] def gbP (l:List Cv):D:= .bool (decide (l.length≤16∧l.all (fun c=>decide (ko c=0))=true))
@[go_sem] abbrev xeM:FuncId:=145
@[go_sem] def kcI:Tab:=[(212,bt)]
theorem uax:za Tryz.prog kcI:=(za.cons yG za.nil)
theorem gcc (l:List Cv):ja Tryz.prog 145 [.sl (cvs l)] (gbP l):=by
 refine .of (ked uax (Nat.le_of_ble_eq_true rfl) ?_)
 simp -implicitDefEqProofs only [cdA,go_sem,Go.Proofs.Tryz.f145,simprocAttr, -Int.reduceEq,List.cons.injEq,cdB]
 refine fun hl=>SWp.loop (ι:={i:Nat // i≤l.length∧∀j,j<i→ko (l.getD j default)=0}) (fun i=>⟨[(0, .sl (cvs l)),(5, .sl (cvs l)),(6, .int .i64 l.length),(7, .int .i64 i.1)],[],0⟩) (fun i=>l.length - i.1) ⟨0,by simp⟩ ?_ ?_
 ·simp [go_sem]
 ·rintro⟨i,hi,hall⟩
  refine ya uax.toS vdh _ _ _ rfl ?_
  simp -implicitDefEqProofs only [cdA,go_sem,simprocAttr, -Int.reduceEq,List.cons.injEq,cdB]
  refine⟨fun h=>⟨by omega,fun h1=>⟨⟨i+1,by omega,fun j hj=> ?_⟩,by dsimp only;omega,i64_in _ (by omega)⟩,fun h1=> ?_⟩,fun h _=> ?_⟩
  ·by_cases hji:j=i
   ·subst hji;exact h1
   ·exact hall j (by omega)
  ·rw [eq_comm,decide_eq_false_iff_not]
   rintro⟨_,h2⟩
   have:=List.all_eq_true.1 h2 _ (va.2 ⟨i,by omega,rfl⟩)
   exact h1 (by simpa using this)
  ·refine decide_eq_decide.2 ⟨fun h=>⟨by omega,List.all_eq_true.2 fun x hx=> ?_⟩,fun h=>by omega⟩
   obtain⟨j,hj,rfl⟩:=va.1 hx
   simpa using hall j (by omega)
def vN:List D→Option (Prop×D×Fr)
 |[.c (.sl z5)]=>some (z5=cvs (uc z5),gbP (uc z5),[])
 |_=>none
attribute [go_sem] vN
theorem kR:ga 145 vN:=by
 intro rs p r fr h hp
 unfold vN at h
 split at h<;>cases h
 have hc0:=hp
 rename_i z5
 have:=gcc (uc z5)
 rw [←hc0]at this
 exact this
@[go_sem] def baO (a:Ct) (b:Ct):D:= .bool (decide (ltC a.key b.key))
@[go_sem] abbrev zdn:FuncId:=173
@[go_sem] def kbN:Tab:=[]
theorem gaO:za Tryz.prog kbN:=za.nil
theorem gbr (a:Ct) (b:Ct):ja Tryz.prog 173 [.agg [.c (.int .u64 (a.root:Int)), .c (.int .u64 (a.b:Int)), .c (.int .u64 (a.n:Int))], .agg [.c (.int .u64 (b.root:Int)), .c (.int .u64 (b.b:Int)), .c (.int .u64 (b.n:Int))]] (baO a b):=by
 refine .of (gef gaO (Nat.le_of_ble_eq_true rfl) ?_)
 simp -implicitDefEqProofs only [cdA,go_sem,Go.Proofs.Tryz.f173,simprocAttr, -Int.reduceEq,List.cons.injEq,cdB]
 have hk:ltC a.key b.key↔a.root<b.root∨(a.root=b.root∧a.b<b.b):=Iff.rfl
 refine⟨fun h=>⟨fun h1=>decide_eq_decide.2 (by rw [hk];omega),fun h1=> ?_⟩,fun h=> ?_⟩
 ·rw [decide_eq_false (by rw [hk];omega)]
 ·rw [decide_eq_true (by rw [hk];omega)]
def zN:List D→Option (Prop×D×Fr)
 |[.agg [.c (.int .u64 z7), .c (.int .u64 z8), .c (.int .u64 z9)], .agg [.c (.int .u64 z11), .c (.int .u64 z12), .c (.int .u64 z13)]]=>some (z7=(z7.toNat:Int)∧z8=(z8.toNat:Int)∧z9=(z9.toNat:Int)∧z11=(z11.toNat:Int)∧z12=(z12.toNat:Int)∧z13=(z13.toNat:Int),baO (⟨z7.toNat,z8.toNat,z9.toNat⟩:Ct) (⟨z11.toNat,z12.toNat,z13.toNat⟩:Ct),[])
 |_=>none
attribute [go_sem] zN
theorem zaF:ga 173 zN:=by
 intro rs p r fr h hp
 unfold zN at h
 split at h<;>cases h
 obtain⟨hc0,hc1,hc2,hc3,hc4,hc5⟩:=hp
 rename_i z7 z8 z9 z11 z12 z13
 have:=gbr ⟨z7.toNat,z8.toNat,z9.toNat⟩ ⟨z11.toNat,z12.toNat,z13.toNat⟩
 rw [←hc0,←hc1,←hc2,←hc3,←hc4,←hc5]at this
 exact this
@[go_sem] def qal (l:List Ct):D:= .int .i64 (vk l)
@[go_sem] abbrev kcD:FuncId:=90
@[go_sem] def ba3:Tab:=[(173,zN),(152,gi)]
theorem qy:za Tryz.prog ba3:=(za.cons zaF (za.cons zj za.nil))
theorem uaO (l:List Ct):ja Tryz.prog 90 [.sl (cts l)] (qal l):=by
 refine .of (bfp qy (Nat.le_of_ble_eq_true rfl) ?_)
 simp -implicitDefEqProofs only [cdA,go_sem,Go.Proofs.Tryz.f90,simprocAttr, -Int.reduceEq,List.cons.injEq,cdB]
 refine fun hl=>⟨fun h1=> ?_,fun h1 _=> ?_⟩
 ·rw [vk,if_neg (by omega)]
 ·refine SWp.loop (ι:={i:Nat // i≤l.length∧∀j,j<i→(0<j→ltC (l.getD (j - 1) default).key (l.getD j default).key)∧¬(l.getD j default).n=0∧(l.getD j default).n≤4611686018427387904}) (fun i=>⟨[(0, .sl (cts l)),(8, .sl (cts l)),(9, .int .i64 l.length),(10, .int .i64 i.1)],[],0⟩) (fun i=>l.length - i.1) ⟨0,by simp⟩ ?_ ?_
  ·simp [go_sem]
  ·rintro⟨i,hi,hall⟩
   refine ya qy.toS ufa _ _ _ rfl ?_
   simp -implicitDefEqProofs only [cdA,go_sem,simprocAttr, -Int.reduceEq,List.cons.injEq,cdB]
   refine⟨fun h=>⟨by omega, ?_⟩,fun h=> ?_⟩
   ·have hi':i<l.length:=by omega
    refine xb.run gdy qy qa (by kernel_rfl) (by kernel_rfl) ?_
    simp -implicitDefEqProofs only [cdA,go_sem,simprocAttr, -Int.reduceEq,List.cons.injEq,cdB]
    have hbad:¬((0<i→ltC (l.getD (i - 1) default).key (l.getD i default).key)∧¬(l.getD i default).n=0∧(l.getD i default).n≤4611686018427387904)→1=vk l:=fun hb=>by
     rw [vk,if_neg]
     rintro⟨_,h2,h3⟩
     exact hb ⟨fun h0=>h2 i hi' h0,h3 _ (va.2 ⟨i,hi',rfl⟩)⟩
    have hnext:(0<i→ltC (l.getD (i - 1) default).key (l.getD i default).key)→¬(l.getD i default).n=0∧(l.getD i default).n≤4611686018427387904→∃i_1:{i:Nat // i≤l.length∧∀j,j<i→(0<j→ltC (l.getD (j - 1) default).key (l.getD j default).key)∧¬(l.getD j default).n=0∧(l.getD j default).n≤4611686018427387904},l.length - i_1.val<l.length - i∧IntKind.i64.wrap (↑i+1)= ↑i_1.val:=fun ha hb=>
     ⟨⟨i+1,hi',fun j hj=>by
       by_cases hji:j=i
       ·subst hji;exact⟨ha,hb⟩
       ·exact hall j (by omega)⟩,by dsimp only;omega,i64_in _ (by omega)⟩
    rw [gG]
    have hin:ltC (l.getD (i - 1) default).key (l.getD i default).key∨¬0<i→(¬((l.getD i default).n:Int)=0→((l.getD i default).n≤4611686018427387904→∃i_1:{i:Nat // i≤l.length∧∀j,j<i→(0<j→ltC (l.getD (j - 1) default).key (l.getD j default).key)∧¬(l.getD j default).n=0∧(l.getD j default).n≤4611686018427387904},l.length - i_1.val<l.length - i∧IntKind.i64.wrap (↑i+1)= ↑i_1.val)∧(¬(l.getD i default).n≤4611686018427387904→1=vk l))∧(((l.getD i default).n:Int)=0→1=vk l):=fun hlt=>
     ⟨fun h2=>⟨fun h3=>hnext (fun h0=>hlt.resolve_right fun h=>h h0) ⟨by omega,h3⟩,fun h3=>hbad fun h=>h3 h.2.2⟩,fun h2=>hbad fun h=>h.2.1 (by omega)⟩
    refine⟨fun h2=> ?_,fun h2=>hin (.inr (by omega))⟩
    rw [i64_in _ (by omega),show((i:Int) - 1).toNat=i - 1 by omega]
    exact⟨by omega,fun h3=>hin (.inl h3),fun h3=>hbad fun h=>h3 (h.1 (by omega))⟩
   ·have hi':i=l.length:=by omega
    subst hi'
    rw [vk,if_pos]
    refine⟨by omega,fun j hj h0=>(hall j hj).1 h0,fun c hc=> ?_⟩
    obtain⟨j,hj,rfl⟩:=va.1 hc
    exact(hall j hj).2
def xk:List D→Option (Prop×D×Fr)
 |[.c (.sl z14)]=>some (z14=cts (qd z14),qal (qd z14),[])
 |_=>none
attribute [go_sem] xk
theorem qv:ga 90 xk:=by
 intro rs p r fr h hp
 unfold xk at h
 split at h<;>cases h
 have hc0:=hp
 rename_i z14
 have:=uaO (qd z14)
 rw [←hc0]at this
 exact this
theorem xdz {l:List Ct} (hu:Srt.Up Ct.key ltC l) {i:Nat} (hi:i<l.length) {root b:Nat} (h:(l.getD i default).root=root∧(l.getD i default).b=b):wg l root b=(l.getD i default).n:=by
 rw [wg,(Srt.qaB yc6 hu (x:=l.getD i default)).2 ⟨va.2 ⟨i,hi,rfl⟩,by rw [Ct.key,h.1,h.2]⟩];rfl
theorem qdz {l:List Ct} {root b:Nat} (h:∀j,j<l.length→¬((l.getD j default).root=root∧(l.getD j default).b=b)):wg l root b=0:=by
 rw [wg,Srt.xaB.2 fun x hx he=> ?_];rfl
 obtain⟨j,hj,rfl⟩:=va.1 hx
 simp only [Ct.key,Prod.mk.injEq]at he
 exact h j hj he
@[go_sem] def kaw (l:List Ct) (root:Nat) (b:Nat):D:= .tup [.int .u64 ((gaW l root b).1:Int), .int .i64 (gaW l root b).2]
@[go_sem] abbrev uc0:FuncId:=153
@[go_sem] def zbs:Tab:=[(90,xk)]
theorem xT:za Tryz.prog zbs:=(za.cons qv za.nil)
theorem ya4 (l:List Ct) (root:Nat) (b:Nat):ja Tryz.prog 153 [.sl (cts l), .c (.int .u64 (root:Int)), .c (.int .u64 (b:Int))] (kaw l root b):=by
 refine .of (xee xT (Nat.le_of_ble_eq_true rfl) ?_)
 simp -implicitDefEqProofs only [cdA,go_sem,Go.Proofs.Tryz.f153,simprocAttr, -Int.reduceEq,List.cons.injEq,cdB]
 refine⟨fun hc hl=> ?_,fun h=> ?_⟩
 ·rw [baW hc]
  have hu:=(jai hc).2.1
  refine SWp.loop (ι:={i:Nat // i≤l.length∧∀j,j<i→¬((l.getD j default).root=root∧(l.getD j default).b=b)}) (fun i=>⟨[(1, .int .u64 root),(2, .int .u64 b),(13, .sl (cts l)),(14, .int .i64 l.length),(15, .int .i64 i.1)],[],0⟩) (fun i=>l.length - i.1) ⟨0,by simp⟩ ?_ ?_
  ·simp [go_sem]
  ·rintro⟨i,hi,hall⟩
   refine ya xT.toS bdh _ _ _ rfl ?_
   simp -implicitDefEqProofs only [cdA,go_sem,simprocAttr, -Int.reduceEq,List.cons.injEq,cdB]
   have hnext:¬((l.getD i default).root=root∧(l.getD i default).b=b)→i<l.length→∃i_1:{i:Nat // i≤l.length∧∀j,j<i→¬((l.getD j default).root=root∧(l.getD j default).b=b)},l.length - i_1.val<l.length - i∧IntKind.i64.wrap (↑i+1)= ↑i_1.val:=fun hn hi'=>
    ⟨⟨i+1,hi',fun j hj=>by
      by_cases hji:j=i
      ·subst hji;exact hn
      ·exact hall j (by omega)⟩,by dsimp only;omega,i64_in _ (by omega)⟩
   refine⟨fun h=>⟨by omega,fun h1=>⟨fun h2=> ?_,fun h2=>hnext (fun h=>h2 (by omega)) (by omega)⟩,fun h1=>hnext (fun h=>h1 (by omega)) (by omega)⟩,fun h=> ?_⟩
   ·rw [xdz hu (i:=i) (by omega) ⟨by omega,by omega⟩]
   ·rw [qdz fun j hj=>hall j (by omega)];rfl
 ·rw [gaW,if_neg h];exact⟨rfl,rfl⟩
def yF:List D→Option (Prop×D×Fr)
 |[.c (.sl z17), .c (.int .u64 z18), .c (.int .u64 z19)]=>some (z17=cts (qd z17)∧z18=(z18.toNat:Int)∧z19=(z19.toNat:Int),kaw (qd z17) z18.toNat z19.toNat,[])
 |_=>none
attribute [go_sem] yF
theorem gaq:ga 153 yF:=by
 intro rs p r fr h hp
 unfold yF at h
 split at h<;>cases h
 obtain⟨hc0,hc1,hc2⟩:=hp
 rename_i z17 z18 z19
 have:=ya4 (qd z17) z18.toNat z19.toNat
 rw [←hc0,←hc1,←hc2]at this
 exact this
@[go_sem] def zbi (l:List Ct) (root:Nat) (cav:List Cv) (n:Nat):D:= .tup [.bool (uao l root cav n).1, .int .i64 (uao l root cav n).2]
@[go_sem] abbrev wdR:FuncId:=75
@[go_sem] def kca:Tab:=[(90,xk),(145,vN),(152,gi),(153,yF)]
theorem jal:za Tryz.prog kca:=(za.cons qv (za.cons kR (za.cons zj (za.cons gaq za.nil))))
theorem vbN (l:List Ct) (root:Nat) (cav:List Cv) (n:Nat):ja Tryz.prog 75 [.sl (cts l), .c (.int .u64 (root:Int)), .sl (cvs cav), .c (.int .u64 (n:Int))] (zbi l root cav n):=by
 refine .of (wfo jal (Nat.le_of_ble_eq_true rfl) ?_)
 simp -implicitDefEqProofs only [cdA,go_sem,Go.Proofs.Tryz.f75,simprocAttr, -Int.reduceEq,List.cons.injEq,cdB]
 rw [←xb0,gG]
 have hno:¬((vZ cav).2=0∧vk l=0∧n≤4611686018427387904)→uao l root cav n=(false,1):=fun h=>by
  have:(js l root cav n).2=1:=by rw [js,if_neg h]
  simp [uao,this]
 refine⟨fun h1=>⟨fun h2=>⟨fun h3 hl=> ?_,fun h3=> ?_⟩,fun h2=> ?_⟩,fun h1=> ?_⟩
 ·have hs:=xcg (l:=l) (root:=root) h2 h1 h3
  have hmay:(js l root cav n).2=0→uao l root cav n=(true,0):=fun h=>by simp [uao,h]
  have hover:¬(js l root cav n).2=0→uao l root cav n=(false,0):=fun h=>by
   have:(js l root cav n).2=8:=by
    rw [js,if_pos ⟨h2,h1,h3⟩]at h⊢
    split at h
    ·exact absurd rfl h
    ·rename_i hx;rw [if_neg hx]
   simp [uao,this]
  refine SWp.loop (ι:={i:Nat // i≤cav.length∧∀j,j<i→(cav.getD j default).kind=4→(wg l root (cav.getD j default).b:Int)+n≤4611686018427387904∧(wg l root (cav.getD j default).b:Int)+n≤(cav.getD j default).a}) (fun i=>⟨[(0, .sl (cts l)),(1, .int .u64 root),(3, .int .u64 n),(28, .sl (cvs cav)),(29, .int .i64 cav.length),(30, .int .i64 i.1)],[],0⟩) (fun i=>cav.length - i.1) ⟨0,by simp⟩ ?_ ?_
  ·simp [go_sem]
  ·rintro⟨i,hi,hall⟩
   refine ya jal.toS be9 _ _ _ rfl ?_
   simp -implicitDefEqProofs only [cdA,go_sem,simprocAttr, -Int.reduceEq,List.cons.injEq,cdB]
   rw [baW h1]
   have hw:=wco h1 root (cav.getD i default).b
   have hnext:i<cav.length→((cav.getD i default).kind=4→(wg l root (cav.getD i default).b:Int)+n≤4611686018427387904∧(wg l root (cav.getD i default).b:Int)+n≤(cav.getD i default).a)→∃i_1:{i:Nat // i≤cav.length∧∀j,j<i→(cav.getD j default).kind=4→(wg l root (cav.getD j default).b:Int)+n≤4611686018427387904∧(wg l root (cav.getD j default).b:Int)+n≤(cav.getD j default).a},cav.length - i_1.val<cav.length - i∧IntKind.i64.wrap (↑i+1)= ↑i_1.val:=fun hi' hn=>
    ⟨⟨i+1,hi',fun j hj=>by
      by_cases hji:j=i
      ·subst hji;exact hn
      ·exact hall j (by omega)⟩,by dsimp only;omega,i64_in _ (by omega)⟩
   have hbad:i<cav.length→(cav.getD i default).kind=4→¬((wg l root (cav.getD i default).b:Int)+n≤4611686018427387904∧(wg l root (cav.getD i default).b:Int)+n≤(cav.getD i default).a)→uao l root cav n=(false,0):=fun hi' hk hn=>
    hover fun h=>hn (hs.1 h _ (va.2 ⟨i,hi',rfl⟩) hk)
   dsimp only
   rw [u64_in (4611686018427387904 - _) (by omega)]
   refine⟨fun h=>⟨by omega,fun hk=>⟨fun h5=> ?_,fun h5=> ?_⟩,fun hk=>hnext (by omega) fun h=>absurd h hk⟩,fun h=> ?_⟩
   ·rw [u64_in _ (by omega)]
    refine⟨fun h6=> ?_,fun h6=>hnext (by omega) fun _=>⟨by omega,by omega⟩⟩
    rw [hbad (by omega) hk (by omega)];exact⟨rfl,rfl⟩
   ·rw [hbad (by omega) hk (by omega)];exact⟨rfl,rfl⟩
   ·rw [hmay (hs.2 fun c hc hk=>by obtain⟨j,hj,rfl⟩:=va.1 hc;exact hall j (by omega) hk)];exact⟨rfl,rfl⟩
 ·rw [hno (fun h=>h3 h.2.2)];exact⟨rfl,rfl⟩
 ·rw [hno (fun h=>h2 h.1)];exact⟨rfl,rfl⟩
 ·rw [hno (fun h=>h1 h.2.1)];exact⟨rfl,rfl⟩
def qW:List D→Option (Prop×D×Fr)
 |[.c (.sl z20), .c (.int .u64 z21), .c (.sl z22), .c (.int .u64 z23)]=>some (z20=cts (qd z20)∧z21=(z21.toNat:Int)∧z22=cvs (uc z22)∧z23=(z23.toNat:Int),zbi (qd z20) z21.toNat (uc z22) z23.toNat,[])
 |_=>none
attribute [go_sem] qW
theorem gaU:ga 75 qW:=by
 intro rs p r fr h hp
 unfold qW at h
 split at h<;>cases h
 obtain⟨hc0,hc1,hc2,hc3⟩:=hp
 rename_i z20 z21 z22 z23
 have:=vbN (qd z20) z21.toNat (uc z22) z23.toNat
 rw [←hc0,←hc1,←hc2,←hc3]at this
 exact this
end Dm
namespace Dm
open Go Go.Proofs Go.IntWalk
@[go_sem] def xal (l:List Ky):D:= .int .i64 (kaH l)
@[go_sem] abbrev jcD:FuncId:=89
@[go_sem] def va3:Tab:=[]
theorem xy:za Tryz.prog va3:=za.nil
theorem waO (l:List Ky):ja Tryz.prog 89 [.sl (kys l)] (xal l):=by
 refine .of (gfp xy (Nat.le_of_ble_eq_true rfl) ?_)
 simp -implicitDefEqProofs only [cdA,go_sem,Go.Proofs.Tryz.f89,simprocAttr, -Int.reduceEq,List.cons.injEq,cdB]
 have hbad:¬xcE l→1=kaH l:=fun h=>by rw [kaH,if_neg h]
 refine fun _=>⟨fun h1=>hbad fun h=>by have:=h.1;omega,fun h1 _=> ?_⟩
 refine SWp.loop (ι:={i:Nat // i≤l.length∧∀j,j<i→((l.getD j default).print.length≤4096∧(l.getD j default).reply.length≤4096)∧(0<j→(l.getD (j - 1) default).k<(l.getD j default).k)}) (fun i=>⟨[(0, .sl (kys l)),(8, .sl (kys l)),(9, .int .i64 l.length),(10, .int .i64 i.1)],[],0⟩) (fun i=>l.length - i.1) ⟨0,by simp⟩ ?_ ?_
 ·simp [go_sem]
 ·rintro⟨i,hi,hall⟩
  refine ya xy.toS wfa _ _ _ rfl ?_
  simp -implicitDefEqProofs only [cdA,go_sem,simprocAttr, -Int.reduceEq,List.cons.injEq,cdB]
  refine⟨fun h2=>⟨h2, ?_⟩,fun h2=> ?_⟩
  ·refine xb.run udy xy qa (by kernel_rfl) (by kernel_rfl) ?_
   simp -implicitDefEqProofs only [cdA,go_sem,simprocAttr, -Int.reduceEq,List.cons.injEq,cdB]
   have hi':i<l.length:=by omega
   have hin:xcE l→((l.getD i default).print.length≤4096∧(l.getD i default).reply.length≤4096)∧(0<i→(l.getD (i - 1) default).k<(l.getD i default).k):=fun h=>⟨h.2.1 _ (va.2 ⟨i,hi',rfl⟩),fun h0=>h.2.2 i hi' h0⟩
   have hnext:((l.getD i default).print.length≤4096∧(l.getD i default).reply.length≤4096)∧(0<i→(l.getD (i - 1) default).k<(l.getD i default).k)→∃i_1:{i:Nat // i≤l.length∧∀j,j<i→((l.getD j default).print.length≤4096∧(l.getD j default).reply.length≤4096)∧(0<j→(l.getD (j - 1) default).k<(l.getD j default).k)},l.length - i_1.val<l.length - i∧IntKind.i64.wrap ((i:Int)+1)=i_1.val:=fun hx=>⟨⟨i+1,hi',fun j hj=>by
    by_cases hji:j=i
    ·subst hji;exact hx
    ·exact hall j (by omega)⟩,by dsimp only;omega,i64_in _ (by omega)⟩
   have hb:¬(((l.getD i default).print.length≤4096∧(l.getD i default).reply.length≤4096)∧(0<i→(l.getD (i - 1) default).k<(l.getD i default).k))→1=kaH l:=fun hx=>hbad fun ho=>hx (hin ho)
   refine⟨fun h3=> ?_,fun h3=>⟨fun h5=>⟨fun h6=>hb fun h=>by have:=h.1.2;omega,fun h6=>hnext ⟨⟨by omega,by omega⟩,fun h=>absurd h (by omega)⟩⟩,fun h5=>hb fun h=>by have:=h.1.1;omega⟩⟩
   rw [i64_in _ (by omega),show((i:Int) - 1).toNat=i - 1 by omega]
   exact⟨by omega,fun h4=>⟨fun h5=>⟨fun h6=>hb fun h=>by have:=h.1.2;omega,fun h6=>hnext ⟨⟨by omega,by omega⟩,fun _=>by omega⟩⟩,fun h5=>hb fun h=>by have:=h.1.1;omega⟩,fun h4=>hb fun h=>by have:=h.2 (by omega);omega⟩
  ·have hi':i=l.length:=by omega
   subst hi'
   rw [kaH,if_pos]
   refine⟨by omega,fun x hx=> ?_,fun j hj h0=>(hall j hj).2 h0⟩
   obtain⟨j,hj,rfl⟩:=va.1 hx
   exact(hall j hj).1
def bw:List D→Option (Prop×D×Fr)
 |[.c (.sl z1)]=>some (z1=kys (je z1),xal (je z1),[])
 |_=>none
attribute [go_sem] bw
theorem jan:ga 89 bw:=by
 intro rs p r fr h hp
 unfold bw at h
 split at h<;>cases h
 have hc0:=hp
 rename_i z1
 have:=waO (je z1)
 rw [←hc0]at this
 exact this
@[go_sem] def kbj (c:Ch):D:= .agg [.int .u64 c.id, .int .u64 c.loc, .int .u64 c.rem, .int .u64 c.res, .int .u64 c.most, .sl (hds c.holds), .bool c.op]
@[go_sem] abbrev qdT:FuncId:=209
@[go_sem] def zce:Tab:=[]
theorem ka6:za Tryz.prog zce:=za.nil
theorem wbR (c:Ch) (h:c.holds.length≤1000000):ja Tryz.prog 209 [.agg [.c (.int .u64 (c.id:Int)), .c (.int .u64 (c.loc:Int)), .c (.int .u64 (c.rem:Int)), .c (.int .u64 (c.res:Int)), .c (.int .u64 (c.most:Int)), .sl (hds c.holds), .c (.bool c.op)]] (kbj c):=by
 refine .of (wei ka6 (Nat.le_of_ble_eq_true rfl) ?_)
 simp -implicitDefEqProofs only [cdA,go_sem,Go.Proofs.Tryz.f209,simprocAttr, -Int.reduceEq,List.cons.injEq,cdB]
 exact⟨by omega,_,_,_,rfl⟩
@[go_sem] def yce (c:Ch):Prop:=(c.holds.length≤1000000)
def wX:List D→Option (Prop×D×Fr)
 |[.agg [.c (.int .u64 z3), .c (.int .u64 z4), .c (.int .u64 z5), .c (.int .u64 z6), .c (.int .u64 z7), .c (.sl z8), .c (.bool z9)]]=>some (z3=(z3.toNat:Int)∧z4=(z4.toNat:Int)∧z5=(z5.toNat:Int)∧z6=(z6.toNat:Int)∧z7=(z7.toNat:Int)∧z8=hds (bn z8)∧yce (⟨z3.toNat,z4.toNat,z5.toNat,z6.toNat,z7.toNat,(bn z8),z9⟩:Ch),kbj (⟨z3.toNat,z4.toNat,z5.toNat,z6.toNat,z7.toNat,(bn z8),z9⟩:Ch),[])
 |_=>none
attribute [go_sem] wX
theorem uaV:ga 209 wX:=by
 intro rs p r fr h hp
 unfold wX at h
 split at h<;>cases h
 obtain⟨hc0,hc1,hc2,hc3,hc4,hc5,hp⟩:=hp
 rename_i z3 z4 z5 z6 z7 z8 z9
 have:=wbR ⟨z3.toNat,z4.toNat,z5.toNat,z6.toNat,z7.toNat,(bn z8),z9⟩ hp
 rw [←hc0,←hc1,←hc2,←hc3,←hc4,←hc5]at this
 exact this
@[go_sem] def qav (l:List Ch):D:= .vec 0 l.length
@[go_sem] def yal (l:List Ch):Fr:=[(7,86,true,chs l)]
@[go_sem] abbrev kcZ:FuncId:=140
@[go_sem] def kbq:Tab:=[(209,wX)]
theorem zT:za Tryz.prog kbq:=(za.cons uaV za.nil)
theorem va2 (l:List Ch) (h:l.length≤1000000∧∀c∈l,c.holds.length≤1000000):zf Tryz.prog 140 [.sl (chs l)] (qav l) (yal l):=by
 refine .of (yed zT (Nat.le_of_ble_eq_true rfl) ?_)
 simp -implicitDefEqProofs only [cdA,go_sem,Go.Proofs.Tryz.f140,simprocAttr, -Int.reduceEq,List.cons.injEq,cdB]
 refine fun _=>SWp.xaa 3 7 86 rfl (Nat.zero_le _) ?_
 refine SWp.loop (ι:={i:Nat // i≤l.length}) (fun i=>⟨[(3, .vec 0 i.1),(6, .sl (chs l)),(7, .int .i64 l.length),(8, .int .i64 i.1)],[(0, .vec true 7 86 (chs (l.take i.1)))],1⟩) (fun i=>l.length - i.1) ⟨0,by simp⟩ ?_ ?_
 ·simp [go_sem];rfl
 ·rintro⟨i,hi⟩
  refine ya zT.toS kdh _ _ _ rfl ?_
  simp -implicitDefEqProofs only [cdA,go_sem,simprocAttr, -Int.reduceEq,List.cons.injEq,cdB]
  refine⟨fun h1=>⟨h1,h.2 _ (va.2 ⟨i,by omega,rfl⟩),⟨by rw [List.length_take];omega,by rw [List.length_take];omega⟩,⟨i+1,by omega⟩,by dsimp only;omega,⟨rfl,i64_in _ (by omega)⟩,by dsimp only;rw [take_succ (by omega)]⟩,fun h1=> ?_⟩
  have hi':i=l.length:=by omega
  subst hi'
  rw [List.take_length]
  exact⟨[some 0],by simp [go_sem],rfl,rfl⟩
@[go_sem] def vbq (l:List Ch):Prop:=(l.length≤1000000∧∀c∈l,c.holds.length≤1000000)
def ba9:List D→Option (Prop×D×Fr)
 |[.c (.sl z10)]=>some (z10=chs (yb z10)∧vbq (yb z10),qav (yb z10),yal (yb z10))
 |_=>none
attribute [go_sem] ba9
@[go_sem] def jav (l:List Ch):D:= .sl (chs l)
@[go_sem] abbrev vcZ:FuncId:=140
@[go_sem] def yc5:Tab:=[]
theorem wa2 (l:List Ch) (h:l.length≤1000000∧∀c∈l,c.holds.length≤1000000):ja Tryz.prog 140 [.sl (chs l)] (jav l):=by
 refine zf.toPure (va2 l h) ?_
 simp [go_sem,vbY,xap,gao,pw,news,lk]
@[go_sem] def wbq (l:List Ch):Prop:=(l.length≤1000000∧∀c∈l,c.holds.length≤1000000)
def bD:List D→Option (Prop×D×Fr)
 |[.c (.sl z11)]=>some (z11=chs (yb z11)∧wbq (yb z11),jav (yb z11),[])
 |_=>none
attribute [go_sem] bD
theorem gap:ga 140 bD:=by
 intro rs p r fr h hp
 unfold bD at h
 split at h<;>cases h
 obtain⟨hc0,hp⟩:=hp
 rename_i z11
 have:=wa2 (yb z11) hp
 rw [←hc0]at this
 exact this
@[go_sem] def xaw (l:List Ky):D:= .sl (kys l)
@[go_sem] abbrev kc0:FuncId:=69
@[go_sem] def vbr:Tab:=[]
theorem yT:za Tryz.prog vbr:=za.nil
theorem wa3 (l:List Ky) (h:l.length≤1000000∧∀k∈l,k.print.length≤1000000∧k.reply.length≤1000000):ja Tryz.prog 69 [.sl (kys l)] (xaw l):=by
 refine .of (yfo yT (Nat.le_of_ble_eq_true rfl) ?_)
 simp -implicitDefEqProofs only [cdA,go_sem,Go.Proofs.Tryz.f69,simprocAttr, -Int.reduceEq,List.cons.injEq,cdB]
 refine fun _=>SWp.xaa 3 4 158 rfl (Nat.zero_le _) ?_
 refine SWp.loop (ι:={i:Nat // i≤l.length}) (fun i=>⟨[(3, .vec 0 i.1),(6, .sl (kys l)),(7, .int .i64 l.length),(8, .int .i64 i.1)],[(0, .vec true 4 158 (kys (l.take i.1)))],1⟩) (fun i=>l.length - i.1) ⟨0,by simp⟩ ?_ ?_
 ·simp [go_sem];rfl
 ·rintro⟨i,hi⟩
  refine ya yT.toS we9 _ _ _ rfl ?_
  simp -implicitDefEqProofs only [cdA,go_sem,simprocAttr, -Int.reduceEq,List.cons.injEq,cdB]
  refine⟨fun h1=> ?_,fun h1=> ?_⟩
  ·have h2:=h.2 _ (va.2 ⟨i,by omega,rfl⟩)
   exact⟨h1,by omega,by omega,⟨by rw [List.length_take];omega,by rw [List.length_take];omega⟩,⟨i+1,by omega⟩,by dsimp only;omega,⟨rfl,i64_in _ (by omega)⟩,by dsimp only;rw [take_succ (by omega)]⟩
  ·have hi':i=l.length:=by omega
   subst hi'
   rw [List.take_length]
   exact⟨rfl,_,_,_,rfl⟩
@[go_sem] def wbr (l:List Ky):Prop:=(l.length≤1000000∧∀k∈l,k.print.length≤1000000∧k.reply.length≤1000000)
def gE:List D→Option (Prop×D×Fr)
 |[.c (.sl z12)]=>some (z12=kys (je z12)∧wbr (je z12),xaw (je z12),[])
 |_=>none
attribute [go_sem] gE
theorem vaq:ga 69 gE:=by
 intro rs p r fr h hp
 unfold gE at h
 split at h<;>cases h
 obtain⟨hc0,hp⟩:=hp
 rename_i z12
 have:=wa3 (je z12) hp
 rw [←hc0]at this
 exact this
theorem vcn {l:List Rk} {id:Nat}:(bao l id).2=(vp l id).2:=by
 unfold bao;split
 ·rename_i h;exact h.symm
 ·rfl
theorem gcJ {l:List Rk} {id:Nat} (h:¬kak l):bao l id=(0,1):=by
 have:vp l id=(0,1):=by rw [vp,if_pos h]
 rw [bao,this];exact if_neg (by decide)
theorem bcJ {l:List Rk} {id:Nat} (h:kak l):bao l id=if Srt.thr Rk.id ltN l id=false then(0,5)else if(l.getD (Srt.pos Rk.id ltN l id) default).gone=true then(0,13)else((l.getD (Srt.pos Rk.id ltN l id) default).key,0):=by
 have hg:vp l id=if Srt.thr Rk.id ltN l id=false then(0,5)else if(l.getD (Srt.pos Rk.id ltN l id) default).gone=true then(0,13)else(Srt.pos Rk.id ltN l id,0):=by rw [vp,if_neg fun h'=>h' h]
 rw [bao,hg]
 split
 ·exact if_neg (by decide)
 ·split
  ·exact if_neg (by decide)
  ·rfl
theorem ubM {l:List Rk} {id:Nat} (h:(vp l id).2=0) {x:Rk} (hx:x.id=id):l.filter (fun e=>decide (e.id<id))++x::l.filter (fun e=>decide (id<e.id))=l.set (Srt.pos Rk.id ltN l id) x:=by
 obtain⟨hok,e,_⟩:=vb4 h hx
 rw [e]
 have:=Srt.yav (lt:=ltN) (key:=Rk.id) Srt.zH (x:=x) (kce hok)
 rw [hx]at this
 exact this
@[go_sem] def ybR (l:List Rk) (id:Nat):D:= .tup [.int .u64 (bao l id).1, .int .i64 (bao l id).2]
@[go_sem] abbrev weM:FuncId:=72
@[go_sem] def zcJ:Tab:=[(88,zu),(146,yK)]
theorem kbv:za Tryz.prog zcJ:=(za.cons qG (za.cons kab za.nil))
theorem kcd (l:List Rk) (id:Nat):ja Tryz.prog 72 [.sl (rks l), .c (.int .u64 (id:Int))] (ybR l id):=by
 refine .of (jfo kbv (Nat.le_of_ble_eq_true rfl) ?_)
 simp -implicitDefEqProofs only [cdA,go_sem,Go.Proofs.Tryz.f72,simprocAttr, -Int.reduceEq,List.cons.injEq,cdB]
 have hcz:wZ l=0↔kak l:=by unfold wZ;split<;>simp_all
 refine⟨fun h0=> ?_,fun h0=>by rw [gcJ fun h=>h0 (hcz.2 h)];exact⟨rfl,rfl⟩⟩
 have hok:=hcz.1 h0
 have hf:=Srt.xa0 (lt:=ltN) (key:=Rk.id) Srt.zH (kce hok) (k:=id)
 rw [vcX,hf,bcJ hok]
 cases Srt.thr Rk.id ltN l id with
 |true=>
  refine⟨fun _=>⟨fun h1=> ?_,fun h1=> ?_⟩,fun h=>by cases h⟩
  ·have h1:(l.getD (Srt.pos Rk.id ltN l id) default).gone=true:=h1
   rw [if_neg (show¬true=false by decide),if_pos h1];exact⟨rfl,rfl⟩
  ·have h1:(l.getD (Srt.pos Rk.id ltN l id) default).gone=false:=h1
   rw [if_neg (show¬true=false by decide),if_neg (show¬(l.getD (Srt.pos Rk.id ltN l id) default).gone=true by rw [h1];decide)];exact⟨rfl,rfl⟩
 |false=>exact⟨fun h=>(by cases h),fun _=>⟨rfl,rfl⟩⟩
def bN:List D→Option (Prop×D×Fr)
 |[.c (.sl z13), .c (.int .u64 z14)]=>some (z13=rks (gb z13)∧z14=(z14.toNat:Int),ybR (gb z13) z14.toNat,[])
 |_=>none
attribute [go_sem] bN
theorem wR:ga 72 bN:=by
 intro rs p r fr h hp
 unfold bN at h
 split at h<;>cases h
 obtain⟨hc0,hc1⟩:=hp
 rename_i z13 z14
 have:=kcd (gb z13) z14.toNat
 rw [←hc0,←hc1]at this
 exact this
@[go_sem] def qbj (l:List Rk) (id:Nat) (key:Nat):D:= .tup [.sl (rks (uf l id key).1), .int .i64 (uf l id key).2]
@[go_sem] abbrev ydT:FuncId:=79
@[go_sem] def vcd:Tab:=[(72,bN),(156,gN),(157,qA)]
theorem xa6:za Tryz.prog vcd:=(za.cons wR (za.cons vR (za.cons xK za.nil)))
theorem qbR (l:List Rk) (id:Nat) (key:Nat):ja Tryz.prog 79 [.sl (rks l), .c (.int .u64 (id:Int)), .c (.int .u64 (key:Int))] (qbj l id key):=by
 refine .of (bfo xa6 (Nat.le_of_ble_eq_true rfl) ?_)
 simp -implicitDefEqProofs only [cdA,go_sem,Go.Proofs.Tryz.f79,simprocAttr, -Int.reduceEq,List.cons.injEq,cdB]
 rw [vcn]
 refine⟨fun h0=> ?_,fun h0=>by rw [uf,if_pos h0];exact⟨rfl,rfl⟩⟩
 have h64:=(vr h0).1.1
 refine⟨fun h1=>by rw [uf,if_neg (fun h=>h h0),if_pos h1];exact⟨rfl,rfl⟩,fun h1=>⟨by omega, ?_⟩⟩
 rw [uf,if_neg (fun h=>h h0),if_neg (by rw [h1];decide)]
 exact⟨congrArg rks (ubM h0 (x:=⟨id,key,false⟩) rfl),rfl⟩
def kX:List D→Option (Prop×D×Fr)
 |[.c (.sl z15), .c (.int .u64 z16), .c (.int .u64 z17)]=>some (z15=rks (gb z15)∧z16=(z16.toNat:Int)∧z17=(z17.toNat:Int),qbj (gb z15) z16.toNat z17.toNat,[])
 |_=>none
attribute [go_sem] kX
theorem waV:ga 79 kX:=by
 intro rs p r fr h hp
 unfold kX at h
 split at h<;>cases h
 obtain⟨hc0,hc1,hc2⟩:=hp
 rename_i z15 z16 z17
 have:=qbR (gb z15) z16.toNat z17.toNat
 rw [←hc0,←hc1,←hc2]at this
 exact this
@[go_sem] def zay (l:List Rk) (id:Nat):D:= .tup [.sl (rks (waH l id).1), .int .i64 (waH l id).2]
@[go_sem] abbrev bc1:FuncId:=80
@[go_sem] def vbv:Tab:=[(72,bN),(157,qA)]
theorem xaD:za Tryz.prog vbv:=(za.cons wR (za.cons xK za.nil))
theorem ya6 (l:List Rk) (id:Nat):ja Tryz.prog 80 [.sl (rks l), .c (.int .u64 (id:Int))] (zay l id):=by
 refine .of (zfp xaD (Nat.le_of_ble_eq_true rfl) ?_)
 simp -implicitDefEqProofs only [cdA,go_sem,Go.Proofs.Tryz.f80,simprocAttr, -Int.reduceEq,List.cons.injEq,cdB]
 rw [vcn]
 refine⟨fun h0=> ?_,fun h0=>by rw [waH,if_pos h0];exact⟨rfl,rfl⟩⟩
 have h64:=(vr h0).1.1
 refine⟨by omega, ?_⟩
 rw [waH,if_neg (fun h=>h h0)]
 have e:(bao l id).1=(l.getD (Srt.pos Rk.id ltN l id) default).key:=by rw [bao,if_pos h0,(vr h0).2.1]
 rw [e]
 exact⟨congrArg rks (ubM h0 (x:=⟨id,_,true⟩) rfl),rfl⟩
def jG:List D→Option (Prop×D×Fr)
 |[.c (.sl z18), .c (.int .u64 z19)]=>some (z18=rks (gb z18)∧z19=(z19.toNat:Int),zay (gb z18) z19.toNat,[])
 |_=>none
attribute [go_sem] jG
theorem bar:ga 80 jG:=by
 intro rs p r fr h hp
 unfold jG at h
 split at h<;>cases h
 obtain⟨hc0,hc1⟩:=hp
 rename_i z18 z19
 have:=ya6 (gb z18) z19.toNat
 rw [←hc0,←hc1]at this
 exact this
end Dm
namespace Dm
open Go Go.Proofs Go.IntWalk
@[go_sem] def kcJ:Tab:=[ovk 216]
theorem k7:za Tryz.prog kcJ:= .cons (veO 216) .nil
@[go_sem] def vcJ:Tab:=[fg 12]
theorem ybw:za Tryz.prog vcJ:= .cons (zew 12) .nil
theorem waR (l:List Rk):bf 3 (rks l):=of_eq_true (wce l)
theorem wcJ (l:List Rk) (x:Rk) (i:Nat) (hi:i≤l.length) (hl:l.length≤1000000):
 jk Tryz.prog 155 [.vec 0 l.length, .int .i64 i, .vec 1 1] [(1, .vec true 3 70 (rks [x])),(0, .vec true 3 70 (rks l))] 2 fun d os _=>Grown 3 70 (rks (Srt.ins l i x)) d os:=by
 have hil:(Srt.ins l i x).length=l.length+1:=Srt.va0
 have hq:∀j os,lk j os=some (.vec true 3 70 (rks (Srt.ins l i x)))→Grown 3 70 (rks (Srt.ins l i x)) (.vec j (l.length+1)) os:=fun j os h=>⟨j,by rw [vh,hil],h⟩
 by_cases hin:i=l.length
 ·refine bc7 ybw (Nat.le_of_ble_eq_true rfl) ?_
  have e4:((1:Int)=0)=False:=eq_false (by decide)
  subst hin
  simp -implicitDefEqProofs only [cdA,go_sem,Go.Proofs.Tryz.f155,e4,decide_true,reduceIte,reduceCtorEq,Nat.reduceEqDiff,Nat.reduceAdd,Nat.reduceLeDiff,Nat.reduceSub,Nat.reduceMul,Nat.reduceLT,Nat.reduceShiftRight,Nat.reduceMod,Int.reduceLE,Int.reduceLT,Int.reduceToNat,List.cons.injEq,cdB]
  refine⟨Int.le_refl _,fun h=>h.elim,fun _=>⟨by omega,hq _ _ ?_⟩⟩
  rw [zb,if_neg (by decide),xcB]
  simp [Srt.ins]
 ·have hlt:i<l.length:=by omega
  refine jk.opn 0 rfl (by rw [vh];omega) fun c hc hcm=> ?_
  refine jk.sld ?_
  rw [vh]at hc
  refine bc7 k7 (Nat.le_of_ble_eq_true rfl) ?_
  have e1:IntKind.i64.wrap ((l.length:Int)+1)=((l.length+1:Nat):Int):=by rw [i64_in _ (by omega)];omega
  have e2:IntKind.i64.wrap ((i:Int)+1)=((i+1:Nat):Int):=by rw [i64_in _ (by omega)];omega
  have e3:((i:Int)=(l.length:Int))=False:=eq_false (by omega)
  have e4:((1:Int)=0)=False:=eq_false (by decide)
  have e5:IntKind.i64.wrap ((l.length:Int)+1 - (i:Int))=((l.length+1 - i:Nat):Int):=by rw [i64_in _ (by omega)];omega
  have e6:((l.length:Int)+1).toNat=l.length+1:=by omega
  have e7:((i:Int)+1).toNat=i+1:=by omega
  have e8:i+(l.length+1 - i)=l.length+1:=by omega
  simp -implicitDefEqProofs only [cdA,go_sem,Go.Proofs.Tryz.f155,e3,e4,e1,e2,e5,e6,e7,e8,decide_false,reduceIte,reduceCtorEq,Nat.reduceEqDiff,Nat.reduceAdd,Nat.reduceLeDiff,Nat.reduceSub,Nat.reduceMul,Nat.reduceLT,Nat.reduceShiftRight,Nat.reduceMod,Int.reduceLE,Int.reduceLT,Int.reduceToNat,List.cons.injEq,cdB]
  refine⟨by omega,fun _=>⟨fun h1=>⟨by omega,by omega,fun c1 h2 h3=>⟨by omega, ?_⟩⟩,fun h1=>⟨by omega,by omega, ?_, ?_⟩⟩⟩
  ·refine xb.run ych k7 qa (by kernel_rfl) (by kernel_rfl) ?_
   simp -implicitDefEqProofs only [cdA,go_sem,e1,e2,e5,e6,e7,e8,reduceIte,reduceCtorEq,Nat.reduceEqDiff,Nat.reduceAdd,Nat.reduceLeDiff,Nat.reduceSub,Nat.reduceMul,Nat.reduceLT,Nat.reduceShiftRight,Nat.reduceMod,Int.reduceLE,Int.reduceLT,Int.reduceToNat,List.cons.injEq,cdB]
   refine⟨by omega,by omega,fun y hy=>vL (waR l) y (List.mem_of_mem_take (List.mem_of_mem_drop hy)), ?_⟩
   have:=zcA (sz:=3) (c:=c) (c1:=c1) (i:=i) (E:=rks l) (x:=x.enc) (z:=[C.int .u64 0,C.int .u64 0,C.bool false]) (by rw [vh];exact hlt) (by rw [vh];exact hc) (by rw [vh];exact h2)
   rw [vh]at this
   refine hq _ _ ?_
   rw [xcB]
   congr 2
   rw [show rks (List.take (l.length+1 - i) [x])=List.take (l.length+1 - i) [x.enc] by simp [rks],this]
   simp [rks,Srt.ins]
  ·exact⟨_,44,4,_,rfl,rfl,rfl,rfl,by kernel_rfl,wct⟩
  ·refine xb.run xch k7 qa (by kernel_rfl) (by kernel_rfl) ?_
   simp -implicitDefEqProofs only [cdA,go_sem,e1,e2,e5,e6,e7,e8,reduceIte,reduceCtorEq,Nat.reduceEqDiff,Nat.reduceAdd,Nat.reduceLeDiff,Nat.reduceSub,Nat.reduceMul,Nat.reduceLT,Nat.reduceShiftRight,Nat.reduceMod,Int.reduceLE,Int.reduceLT,Int.reduceToNat,List.cons.injEq,cdB]
   refine⟨by omega,by omega,fun y hy=>vL (waR l) y (List.mem_of_mem_take (List.mem_of_mem_drop hy)),by omega, ?_⟩
   have:=ycA (sz:=3) (c:=c) (i:=i) (E:=rks l) (x:=x.enc) (by rw [vh];exact hlt) (by rw [vh];omega)
   rw [vh]at this
   refine hq _ _ ?_
   rw [xcB]
   congr 2
   rw [show rks (List.take (l.length+1 - i) [x])=List.take (l.length+1 - i) [x.enc] by simp [rks],this]
   simp [rks,Srt.ins]
@[go_sem] def jcn (l:List Rk) (id:Nat) (key:Nat):D:= .tup [.sl (rks (zh l id key).1), .int .i64 (zh l id key).2]
@[go_sem] abbrev yfd:FuncId:=76
@[go_sem] def xdt:Tab:=[(154,jK),(139,yu),(134,vn)]
theorem bbR:za Tryz.prog xdt:=(za.cons vab (za.cons kG (za.cons br za.nil)))
theorem xcJ (l:List Rk) (id:Nat) (key:Nat):ja Tryz.prog 76 [.sl (rks l), .c (.int .u64 (id:Int)), .c (.int .u64 (key:Int))] (jcn l id key):=by
 refine .of (ufo bbR (Nat.le_of_ble_eq_true rfl) ?_)
 simp -implicitDefEqProofs only [cdA,go_sem,Go.Proofs.Tryz.f76,simprocAttr, -Int.reduceEq,List.cons.injEq,cdB]
 have hbad:∀e,qaI l id key=e→¬e=0→rks (zh l id key).1=[]∧e=(zh l id key).2:=fun e h1 h2=>by
  rw [zh,if_neg (by rw [h1];exact h2),h1];exact⟨rfl,rfl⟩
 by_cases hok:kak l
 rotate_left 1
 ·have ef:x7 l id=(0,false,1):=by rw [x7,if_neg hok]
  rw [ef]
  exact⟨fun h=>absurd (show(1:Int)=0 from h) (by decide),fun _=>hbad 1 (by rw [qaI,if_pos hok]) (by decide)⟩
 have ef:x7 l id=(Srt.pos Rk.id ltN l id,Srt.thr Rk.id ltN l id,0):=by rw [x7,if_pos hok]
 have h256:=hok.1
 rw [ef]
 refine⟨fun _=>⟨fun h1=>⟨fun h2=>hbad 6 (by rw [qaI,if_neg (fun h=>h hok),if_pos (.inr h2)]) (by decide),fun h2 _=>⟨fun h3=>hbad 7 ?_ (by decide),fun h3=>⟨by omega, ?_⟩⟩⟩,fun h1=>hbad 6 (by rw [qaI,if_neg (fun h=>h hok),if_pos (.inl h1)]) (by decide)⟩,fun h=>absurd rfl h⟩
 ·dsimp only at h1
  rw [qaI,if_neg (fun h=>h hok),if_neg (by rintro(h|h);rw [h1]at h;cases h;rw [h2]at h;cases h),if_pos (by omega)]
 dsimp only at h1⊢
 have hpos:Srt.pos Rk.id ltN l id≤l.length:=Srt.ycn
 refine jk.grow (mid:=[.int .i64 _]) (wcJ l ⟨id,key,false⟩ (Srt.pos Rk.id ltN l id) hpos (by omega)) rfl rfl (by decide) (by simp [Srt.va0]) (fun d hd g g' w v hv=> ?_) ?_
 ·simp at hd;subst hd
  cases hv with
  |c _ _ h=>cases h;exact .c _ _ (.int _ _)
 ·simp -implicitDefEqProofs only [cdA,go_sem,simprocAttr, -Int.reduceEq,List.cons.injEq,cdB]
  have he:qaI l id key=0:=by rw [qaI,if_neg (fun h=>h hok),if_neg (by rintro(h|h);rw [h1]at h;cases h;rw [h2]at h;cases h),if_neg (by omega)]
  rw [zh,if_pos he]
  exact⟨⟨rfl,_,_,_,rfl⟩,rfl⟩
def gaF:List D→Option (Prop×D×Fr)
 |[.c (.sl z66), .c (.int .u64 z67), .c (.int .u64 z68)]=>some (z66=rks (gb z66)∧z67=(z67.toNat:Int)∧z68=(z68.toNat:Int),jcn (gb z66) z67.toNat z68.toNat,[])
 |_=>none
attribute [go_sem] gaF
theorem jby:ga 76 gaF:=by
 intro rs p r fr h hp
 unfold gaF at h
 split at h<;>cases h
 obtain⟨hc0,hc1,hc2⟩:=hp
 rename_i z66 z67 z68
 have:=xcJ (gb z66) z67.toNat z68.toNat
 rw [←hc0,←hc1,←hc2]at this
 exact this
theorem qU {b:Bk} (hb:yS b=0):kay b:=by
 obtain⟨h1,h2,h3,h4,h5⟩:=vas.1 hb
 have hk:xcE b.k:=by unfold kaH at h4;split at h4;assumption;cases h4
 have hs:=jai h5
 have hal:=h2.1
 have hrl:=h3.1
 have hkl:=hk.1
 have hsl:=hs.1
 refine⟨jbk (zck.1 h1),⟨by omega,fun t ht=> ?_⟩,by omega,⟨by omega,fun k hm=> ?_⟩,by omega⟩
 ·obtain⟨j,hj,rfl⟩:=va.1 ht
  have:=(h2.2.2 j (List.mem_range.2 hj)).2.2.2;omega
 ·have:=hk.2.1 k hm;omega
theorem waS {b:Bk} {l:List Rk} {t:Tm} (hb:yS b=0) (hl:l.length≤64) (hp:(bh b.a.l t).2.2=0) (ht: -1≤t.up∧(-1<t.up→t.key=0)):kay ⟨b.w,⟨(bh b.a.l t).1⟩,l,b.k,b.s⟩:=by
 have h1:=qU (wcs hb hp ht)
 exact⟨h1.1,h1.2.1,by show l.length≤_;omega,h1.2.2.2⟩
theorem wq {b:Bk} {id key:Nat} {l:List Rk×Int} {e:Int} (h:ud b id key l=(wB,⟨0,[],0⟩,e)):(chs (ud b id key l).1.w.c=[]∧wts (ud b id key l).1.w.w=[]∧ivs (ud b id key l).1.w.i=[]∧pys (ud b id key l).1.w.p=[]∧0=((ud b id key l).1.w.f.next:Int)∧evs (ud b id key l).1.w.f.l=[]∧0=((ud b id key l).1.w.next:Int)∧0=((ud b id key l).1.w.tick:Int)∧tms (ud b id key l).1.a.l=[]∧rks (ud b id key l).1.r=[]∧kys (ud b id key l).1.k=[]∧cts (ud b id key l).1.s=[])∧(0=((ud b id key l).2.1.root:Int)∧cvs (ud b id key l).2.1.l=[]∧0=(ud b id key l).2.1.tag)∧e=(ud b id key l).2.2:=by
 rw [h];exact⟨⟨rfl,rfl,rfl,rfl,rfl,rfl,rfl,rfl,rfl,rfl,rfl,rfl⟩,⟨rfl,rfl,rfl⟩,rfl⟩
theorem wbA {l:List Rk} {id key:Nat} (h:(zh l id key).2=0):(zh l id key).1.length≤64:=by
 unfold zh at h⊢
 split at h
 ·rename_i h1
  rw [if_pos h1]
  unfold qaI at h1
  split at h1
  ·cases h1
  rename_i h2
  have:=(Classical.not_not.1 h2).1
  split at h1
  ·cases h1
  split at h1
  ·cases h1
  rename_i h4
  dsimp only
  rw [Srt.va0];omega
 ·rename_i h1;exact absurd h h1
theorem jbl {l:List Rk} {id key:Nat} (h:(uf l id key).2=0):(uf l id key).1.length≤64:=by
 unfold uf at h⊢
 split at h
 ·rename_i h1;exact absurd h h1
 rename_i h1
 have:=(vr (Classical.not_not.1 h1)).1.1
 split at h
 ·cases h
 rename_i h2
 rw [if_neg h1,if_neg h2]
 dsimp only
 rw [List.length_set];exact this
theorem ybS {l:List Rk} {id:Nat} (h:(waH l id).2=0):(waH l id).1.length≤64:=by
 unfold waH at h⊢
 split at h
 ·rename_i h1;exact absurd h h1
 rename_i h1
 have:=(vr (Classical.not_not.1 h1)).1.1
 rw [if_neg h1]
 dsimp only
 rw [List.length_set];exact this
@[go_sem] def jbe (b:Bk) (id:Nat) (key:Nat):D:= .tup [.agg [.sl (chs (ud b id key (zh b.r id key)).1.w.c), .sl (wts (ud b id key (zh b.r id key)).1.w.w), .sl (ivs (ud b id key (zh b.r id key)).1.w.i), .sl (pys (ud b id key (zh b.r id key)).1.w.p), .int .u64 (ud b id key (zh b.r id key)).1.w.f.next, .sl (evs (ud b id key (zh b.r id key)).1.w.f.l), .int .u64 (ud b id key (zh b.r id key)).1.w.next, .int .u64 (ud b id key (zh b.r id key)).1.w.tick, .vec 0 (ud b id key (zh b.r id key)).1.a.l.length, .vec 1 (ud b id key (zh b.r id key)).1.r.length, .sl (kys (ud b id key (zh b.r id key)).1.k), .sl (cts (ud b id key (zh b.r id key)).1.s)], .agg [.int .u64 (ud b id key (zh b.r id key)).2.1.root, .sl (cvs (ud b id key (zh b.r id key)).2.1.l), .int .i64 (ud b id key (zh b.r id key)).2.1.tag], .int .i64 (ud b id key (zh b.r id key)).2.2]
@[go_sem] def qaK (b:Bk) (id:Nat) (key:Nat):Fr:=[(3,83,true,tms (ud b id key (zh b.r id key)).1.a.l),(3,70,true,rks (ud b id key (zh b.r id key)).1.r)]
@[go_sem] abbrev xdQ:FuncId:=26
@[go_sem] def gb4:Tab:=[(31,bp),(76,gaF),(19,uY),(64,uU)]
theorem yC:za Tryz.prog gb4:=(za.cons zq (za.cons jby (za.cons uan (za.cons zan za.nil))))
theorem jaK (b:Bk) (id:Nat) (key:Nat) (h:b.w.f.next≤18446744073709551615):zf Tryz.prog 26 [.agg [.sl (chs b.w.c), .sl (wts b.w.w), .sl (ivs b.w.i), .sl (pys b.w.p), .c (.int .u64 (b.w.f.next:Int)), .sl (evs b.w.f.l), .c (.int .u64 (b.w.next:Int)), .c (.int .u64 (b.w.tick:Int)), .sl (tms b.a.l), .sl (rks b.r), .sl (kys b.k), .sl (cts b.s)], .c (.int .u64 (id:Int)), .c (.int .u64 (key:Int))] (jbe b id key) (qaK b id key):=by
 refine .of (kfk yC (Nat.le_of_ble_eq_true rfl) ?_)
 simp -implicitDefEqProofs only [cdA,go_sem,Go.Proofs.Tryz.f26,simprocAttr, -Int.reduceEq,List.cons.injEq,cdB]
 refine je4 yC (Nat.le_of_ble_eq_true rfl) ?_
 simp -implicitDefEqProofs only [cdA,go_sem,Go.Proofs.Tryz.f65,simprocAttr, -Int.reduceEq,List.cons.injEq,cdB]
 refine⟨h,fun h1=>⟨fun h2=>⟨fun h3=> ?_,fun h3=> ?_⟩,fun h2=> ?_⟩,fun h1=> ?_⟩
 ·refine xb.run vbW yC qa (by kernel_rfl) (by kernel_rfl) ?_
  simp -implicitDefEqProofs only [cdA,go_sem,simprocAttr, -Int.reduceEq,List.cons.injEq,cdB]
  refine xb.run wbW yC qa (by kernel_rfl) (by kernel_rfl) ?_
  simp -implicitDefEqProofs only [cdA,go_sem,simprocAttr, -Int.reduceEq,List.cons.injEq,cdB]
  refine⟨waS h1 (wbA h2) h3 ⟨Int.le_refl _,fun h=>absurd h (Int.lt_irrefl _)⟩, ?_⟩
  have e:ud b id key (zh b.r id key)=(⟨b.w,⟨(bh b.a.l ⟨key, -1,gm [id]⟩).1⟩,(zh b.r id key).1,b.k,b.s⟩,⟨id,[],(bh b.a.l ⟨key, -1,gm [id]⟩).2.1⟩,0):=by
   rw [ud,if_neg (fun h=>h h1),if_neg (fun h=>h h2),if_neg (fun h=>h h3)]
  rw [e,if_pos h3]
  exact⟨[some 9,some 10],by simp [go_sem],⟨⟨rfl,rfl,_,_,_,rfl⟩,rfl,rfl,rfl,rfl,rfl,rfl,rfl,⟨rfl,rfl⟩,⟨rfl,rfl⟩,rfl,rfl⟩,⟨rfl,rfl,rfl⟩,rfl⟩
 ·have e:ud b id key (zh b.r id key)=(wB,⟨0,[],0⟩,(bh b.a.l ⟨key, -1,gm [id]⟩).2.2):=by rw [ud,if_neg (fun h=>h h1),if_neg (fun h=>h h2),if_pos h3]
  obtain⟨a,c⟩:=wq e
  rw [e]at a c⊢
  exact⟨[none,none],by simp [go_sem,wB,tms,rks],⟨a.1,a.2.1,a.2.2.1,a.2.2.2.1,a.2.2.2.2.1,a.2.2.2.2.2.1,a.2.2.2.2.2.2.1,a.2.2.2.2.2.2.2.1,⟨rfl,rfl⟩,⟨rfl,rfl⟩,rfl,rfl⟩,c⟩
 ·have e:ud b id key (zh b.r id key)=(wB,⟨0,[],0⟩,(zh b.r id key).2):=by rw [ud,if_neg (fun h=>h h1),if_pos h2]
  obtain⟨a,c⟩:=wq e
  rw [e]at a c⊢
  exact⟨[none,none],by simp [go_sem,wB,tms,rks],⟨a.1,a.2.1,a.2.2.1,a.2.2.2.1,a.2.2.2.2.1,a.2.2.2.2.2.1,a.2.2.2.2.2.2.1,a.2.2.2.2.2.2.2.1,⟨rfl,rfl⟩,⟨rfl,rfl⟩,rfl,rfl⟩,c⟩
 ·have e:ud b id key (zh b.r id key)=(wB,⟨0,[],0⟩,yS b):=by rw [ud,if_pos h1]
  obtain⟨a,c⟩:=wq e
  rw [e]at a c⊢
  exact⟨[none,none],by simp [go_sem,wB,tms,rks],⟨a.1,a.2.1,a.2.2.1,a.2.2.2.1,a.2.2.2.2.1,a.2.2.2.2.2.1,a.2.2.2.2.2.2.1,a.2.2.2.2.2.2.2.1,⟨rfl,rfl⟩,⟨rfl,rfl⟩,rfl,rfl⟩,c⟩
@[go_sem] def bb4 (b:Bk) (id:Nat) (key:Nat):Prop:=(b.w.f.next≤18446744073709551615)
def gU:List D→Option (Prop×D×Fr)
 |[.agg [.c (.sl z71), .c (.sl z72), .c (.sl z73), .c (.sl z74), .c (.int .u64 z76), .c (.sl z77), .c (.int .u64 z78), .c (.int .u64 z79), .c (.sl z81), .c (.sl z82), .c (.sl z83), .c (.sl z84)], .c (.int .u64 z85), .c (.int .u64 z86)]=>some (z71=chs (yb z71)∧z72=wts (jd z72)∧z73=ivs (qc z73)∧z74=pys (vb z74)∧z76=(z76.toNat:Int)∧z77=evs (jb z77)∧z78=(z78.toNat:Int)∧z79=(z79.toNat:Int)∧z81=tms (qb z81)∧z82=rks (gb z82)∧z83=kys (je z83)∧z84=cts (qd z84)∧z85=(z85.toNat:Int)∧z86=(z86.toNat:Int)∧bb4 (⟨(⟨(yb z71),(jd z72),(qc z73),(vb z74),(⟨z76.toNat,(jb z77)⟩:Fd),z78.toNat,z79.toNat⟩:Wl),(⟨(qb z81)⟩:Ar),(gb z82),(je z83),(qd z84)⟩:Bk) z85.toNat z86.toNat,jbe (⟨(⟨(yb z71),(jd z72),(qc z73),(vb z74),(⟨z76.toNat,(jb z77)⟩:Fd),z78.toNat,z79.toNat⟩:Wl),(⟨(qb z81)⟩:Ar),(gb z82),(je z83),(qd z84)⟩:Bk) z85.toNat z86.toNat,qaK (⟨(⟨(yb z71),(jd z72),(qc z73),(vb z74),(⟨z76.toNat,(jb z77)⟩:Fd),z78.toNat,z79.toNat⟩:Wl),(⟨(qb z81)⟩:Ar),(gb z82),(je z83),(qd z84)⟩:Bk) z85.toNat z86.toNat)
 |_=>none
attribute [go_sem] gU
theorem waT:ga 26 gU:=by
 intro rs p r fr h hp
 unfold gU at h
 split at h<;>cases h
 obtain⟨hc0,hc1,hc2,hc3,hc4,hc5,hc6,hc7,hc8,hc9,hc10,hc11,hc12,hc13,hp⟩:=hp
 rename_i z71 z72 z73 z74 z76 z77 z78 z79 z81 z82 z83 z84 z85 z86
 have:=jaK ⟨⟨(yb z71),(jd z72),(qc z73),(vb z74),⟨z76.toNat,(jb z77)⟩,z78.toNat,z79.toNat⟩,⟨(qb z81)⟩,(gb z82),(je z83),(qd z84)⟩ z85.toNat z86.toNat hp
 rw [←hc0,←hc1,←hc2,←hc3,←hc4,←hc5,←hc6,←hc7,←hc8,←hc9,←hc10,←hc11,←hc12,←hc13]at this
 exact And.intro rfl this
@[go_sem] def gbF (b:Bk) (id:Nat) (key:Nat):D:= .tup [.agg [.sl (chs (ud b id key (zh b.r id key)).1.w.c), .sl (wts (ud b id key (zh b.r id key)).1.w.w), .sl (ivs (ud b id key (zh b.r id key)).1.w.i), .sl (pys (ud b id key (zh b.r id key)).1.w.p), .int .u64 (ud b id key (zh b.r id key)).1.w.f.next, .sl (evs (ud b id key (zh b.r id key)).1.w.f.l), .int .u64 (ud b id key (zh b.r id key)).1.w.next, .int .u64 (ud b id key (zh b.r id key)).1.w.tick, .sl (tms (ud b id key (zh b.r id key)).1.a.l), .sl (rks (ud b id key (zh b.r id key)).1.r), .sl (kys (ud b id key (zh b.r id key)).1.k), .sl (cts (ud b id key (zh b.r id key)).1.s)], .agg [.int .u64 (ud b id key (zh b.r id key)).2.1.root, .sl (cvs (ud b id key (zh b.r id key)).2.1.l), .int .i64 (ud b id key (zh b.r id key)).2.1.tag], .int .i64 (ud b id key (zh b.r id key)).2.2]
@[go_sem] abbrev geK:FuncId:=26
@[go_sem] def kew:Tab:=[]
theorem ub4 (b:Bk) (id:Nat) (key:Nat) (h:b.w.f.next≤18446744073709551615):ja Tryz.prog 26 [.agg [.sl (chs b.w.c), .sl (wts b.w.w), .sl (ivs b.w.i), .sl (pys b.w.p), .c (.int .u64 (b.w.f.next:Int)), .sl (evs b.w.f.l), .c (.int .u64 (b.w.next:Int)), .c (.int .u64 (b.w.tick:Int)), .sl (tms b.a.l), .sl (rks b.r), .sl (kys b.k), .sl (cts b.s)], .c (.int .u64 (id:Int)), .c (.int .u64 (key:Int))] (gbF b id key):=by
 refine zf.toPure (jaK b id key h) ?_
 simp [go_sem,vbY,xap,gao,pw,news,lk]
@[go_sem] def gcy (b:Bk) (id:Nat) (key:Nat):Prop:=(b.w.f.next≤18446744073709551615)
def xaf:List D→Option (Prop×D×Fr)
 |[.agg [.c (.sl z89), .c (.sl z90), .c (.sl z91), .c (.sl z92), .c (.int .u64 z94), .c (.sl z95), .c (.int .u64 z96), .c (.int .u64 z97), .c (.sl z99), .c (.sl z100), .c (.sl z101), .c (.sl z102)], .c (.int .u64 z103), .c (.int .u64 z104)]=>some (z89=chs (yb z89)∧z90=wts (jd z90)∧z91=ivs (qc z91)∧z92=pys (vb z92)∧z94=(z94.toNat:Int)∧z95=evs (jb z95)∧z96=(z96.toNat:Int)∧z97=(z97.toNat:Int)∧z99=tms (qb z99)∧z100=rks (gb z100)∧z101=kys (je z101)∧z102=cts (qd z102)∧z103=(z103.toNat:Int)∧z104=(z104.toNat:Int)∧gcy (⟨(⟨(yb z89),(jd z90),(qc z91),(vb z92),(⟨z94.toNat,(jb z95)⟩:Fd),z96.toNat,z97.toNat⟩:Wl),(⟨(qb z99)⟩:Ar),(gb z100),(je z101),(qd z102)⟩:Bk) z103.toNat z104.toNat,gbF (⟨(⟨(yb z89),(jd z90),(qc z91),(vb z92),(⟨z94.toNat,(jb z95)⟩:Fd),z96.toNat,z97.toNat⟩:Wl),(⟨(qb z99)⟩:Ar),(gb z100),(je z101),(qd z102)⟩:Bk) z103.toNat z104.toNat,[])
 |_=>none
attribute [go_sem] xaf
theorem ba8:ga 26 xaf:=by
 intro rs p r fr h hp
 unfold xaf at h
 split at h<;>cases h
 obtain⟨hc0,hc1,hc2,hc3,hc4,hc5,hc6,hc7,hc8,hc9,hc10,hc11,hc12,hc13,hp⟩:=hp
 rename_i z89 z90 z91 z92 z94 z95 z96 z97 z99 z100 z101 z102 z103 z104
 have:=ub4 ⟨⟨(yb z89),(jd z90),(qc z91),(vb z92),⟨z94.toNat,(jb z95)⟩,z96.toNat,z97.toNat⟩,⟨(qb z99)⟩,(gb z100),(je z101),(qd z102)⟩ z103.toNat z104.toNat hp
 rw [←hc0,←hc1,←hc2,←hc3,←hc4,←hc5,←hc6,←hc7,←hc8,←hc9,←hc10,←hc11,←hc12,←hc13]at this
 exact this
@[go_sem] def zbG (b:Bk) (id:Nat) (key:Nat):D:= .tup [.agg [.sl (chs (ud b id key (uf b.r id key)).1.w.c), .sl (wts (ud b id key (uf b.r id key)).1.w.w), .sl (ivs (ud b id key (uf b.r id key)).1.w.i), .sl (pys (ud b id key (uf b.r id key)).1.w.p), .int .u64 (ud b id key (uf b.r id key)).1.w.f.next, .sl (evs (ud b id key (uf b.r id key)).1.w.f.l), .int .u64 (ud b id key (uf b.r id key)).1.w.next, .int .u64 (ud b id key (uf b.r id key)).1.w.tick, .sl (tms (ud b id key (uf b.r id key)).1.a.l), .sl (rks (ud b id key (uf b.r id key)).1.r), .sl (kys (ud b id key (uf b.r id key)).1.k), .sl (cts (ud b id key (uf b.r id key)).1.s)], .agg [.int .u64 (ud b id key (uf b.r id key)).2.1.root, .sl (cvs (ud b id key (uf b.r id key)).2.1.l), .int .i64 (ud b id key (uf b.r id key)).2.1.tag], .int .i64 (ud b id key (uf b.r id key)).2.2]
@[go_sem] abbrev zeL:FuncId:=22
@[go_sem] def zcz:Tab:=[(31,bp),(66,bag),(19,uY),(64,xaE)]
theorem wL:za Tryz.prog zcz:=(za.cons zq (za.cons gba (za.cons uan (za.cons bbx za.nil))))
theorem yb5 (b:Bk) (id:Nat) (key:Nat) (h:b.w.f.next≤18446744073709551615):ja Tryz.prog 22 [.agg [.sl (chs b.w.c), .sl (wts b.w.w), .sl (ivs b.w.i), .sl (pys b.w.p), .c (.int .u64 (b.w.f.next:Int)), .sl (evs b.w.f.l), .c (.int .u64 (b.w.next:Int)), .c (.int .u64 (b.w.tick:Int)), .sl (tms b.a.l), .sl (rks b.r), .sl (kys b.k), .sl (cts b.s)], .c (.int .u64 (id:Int)), .c (.int .u64 (key:Int))] (zbG b id key):=by
 refine .of (yfk wL (Nat.le_of_ble_eq_true rfl) ?_)
 simp -implicitDefEqProofs only [cdA,go_sem,Go.Proofs.Tryz.f22,simprocAttr, -Int.reduceEq,List.cons.injEq,cdB]
 refine je4 wL (Nat.le_of_ble_eq_true rfl) ?_
 simp -implicitDefEqProofs only [cdA,go_sem,Go.Proofs.Tryz.f65,simprocAttr, -Int.reduceEq,List.cons.injEq,cdB]
 refine⟨h,fun h1=>⟨fun h2=>⟨fun h3=> ?_,fun h3=> ?_⟩,fun h2=> ?_⟩,fun h1=> ?_⟩
 ·refine xb.run vbW wL qa (by kernel_rfl) (by kernel_rfl) ?_
  simp -implicitDefEqProofs only [cdA,go_sem,simprocAttr, -Int.reduceEq,List.cons.injEq,cdB]
  refine xb.run wbW wL qa (by kernel_rfl) (by kernel_rfl) ?_
  simp -implicitDefEqProofs only [cdA,go_sem,simprocAttr, -Int.reduceEq,List.cons.injEq,cdB]
  refine⟨waS h1 (jbl h2) h3 ⟨Int.le_refl _,fun h=>absurd h (Int.lt_irrefl _)⟩, ?_⟩
  have e:ud b id key (uf b.r id key)=(⟨b.w,⟨(bh b.a.l ⟨key, -1,gm [id]⟩).1⟩,(uf b.r id key).1,b.k,b.s⟩,⟨id,[],(bh b.a.l ⟨key, -1,gm [id]⟩).2.1⟩,0):=by
   rw [ud,if_neg (fun h=>h h1),if_neg (fun h=>h h2),if_neg (fun h=>h h3)]
  rw [e,if_pos h3]
  exact⟨⟨rfl,rfl,rfl,rfl,rfl,rfl,rfl,rfl,rfl,rfl,rfl,rfl⟩,⟨rfl,rfl,rfl⟩,rfl⟩
 ·exact wq (by rw [ud,if_neg (fun h=>h h1),if_neg (fun h=>h h2),if_pos h3])
 ·exact wq (by rw [ud,if_neg (fun h=>h h1),if_pos h2])
 ·exact wq (by rw [ud,if_pos h1])
@[go_sem] def ycz (b:Bk) (id:Nat) (key:Nat):Prop:=(b.w.f.next≤18446744073709551615)
def jaf:List D→Option (Prop×D×Fr)
 |[.agg [.c (.sl z107), .c (.sl z108), .c (.sl z109), .c (.sl z110), .c (.int .u64 z112), .c (.sl z113), .c (.int .u64 z114), .c (.int .u64 z115), .c (.sl z117), .c (.sl z118), .c (.sl z119), .c (.sl z120)], .c (.int .u64 z121), .c (.int .u64 z122)]=>some (z107=chs (yb z107)∧z108=wts (jd z108)∧z109=ivs (qc z109)∧z110=pys (vb z110)∧z112=(z112.toNat:Int)∧z113=evs (jb z113)∧z114=(z114.toNat:Int)∧z115=(z115.toNat:Int)∧z117=tms (qb z117)∧z118=rks (gb z118)∧z119=kys (je z119)∧z120=cts (qd z120)∧z121=(z121.toNat:Int)∧z122=(z122.toNat:Int)∧ycz (⟨(⟨(yb z107),(jd z108),(qc z109),(vb z110),(⟨z112.toNat,(jb z113)⟩:Fd),z114.toNat,z115.toNat⟩:Wl),(⟨(qb z117)⟩:Ar),(gb z118),(je z119),(qd z120)⟩:Bk) z121.toNat z122.toNat,zbG (⟨(⟨(yb z107),(jd z108),(qc z109),(vb z110),(⟨z112.toNat,(jb z113)⟩:Fd),z114.toNat,z115.toNat⟩:Wl),(⟨(qb z117)⟩:Ar),(gb z118),(je z119),(qd z120)⟩:Bk) z121.toNat z122.toNat,[])
 |_=>none
attribute [go_sem] jaf
theorem ya9:ga 22 jaf:=by
 intro rs p r fr h hp
 unfold jaf at h
 split at h<;>cases h
 obtain⟨hc0,hc1,hc2,hc3,hc4,hc5,hc6,hc7,hc8,hc9,hc10,hc11,hc12,hc13,hp⟩:=hp
 rename_i z107 z108 z109 z110 z112 z113 z114 z115 z117 z118 z119 z120 z121 z122
 have:=yb5 ⟨⟨(yb z107),(jd z108),(qc z109),(vb z110),⟨z112.toNat,(jb z113)⟩,z114.toNat,z115.toNat⟩,⟨(qb z117)⟩,(gb z118),(je z119),(qd z120)⟩ z121.toNat z122.toNat hp
 rw [←hc0,←hc1,←hc2,←hc3,←hc4,←hc5,←hc6,←hc7,←hc8,←hc9,←hc10,←hc11,←hc12,←hc13]at this
 exact this
@[go_sem] def ubF (b:Bk) (id:Nat):D:= .tup [.agg [.vec 0 (vq b id).1.w.c.length, .sl (wts (vq b id).1.w.w), .sl (ivs (vq b id).1.w.i), .sl (pys (vq b id).1.w.p), .int .u64 (vq b id).1.w.f.next, .sl (evs (vq b id).1.w.f.l), .int .u64 (vq b id).1.w.next, .int .u64 (vq b id).1.w.tick, .sl (tms (vq b id).1.a.l), .sl (rks (vq b id).1.r), .sl (kys (vq b id).1.k), .sl (cts (vq b id).1.s)], .int .i64 (vq b id).2]
@[go_sem] def qbe (b:Bk) (id:Nat):Fr:=[(7,86,true,chs (vq b id).1.w.c)]
@[go_sem] abbrev ueK:FuncId:=21
@[go_sem] def wcy:Tab:=[(31,bp),(63,yaG),(64,uU)]
theorem qbo:za Tryz.prog wcy:=(za.cons zq (za.cons vby (za.cons zan za.nil)))
theorem wb4 (b:Bk) (id:Nat) (h:b.w.f.next≤18446744073709551615):zf Tryz.prog 21 [.agg [.sl (chs b.w.c), .sl (wts b.w.w), .sl (ivs b.w.i), .sl (pys b.w.p), .c (.int .u64 (b.w.f.next:Int)), .sl (evs b.w.f.l), .c (.int .u64 (b.w.next:Int)), .c (.int .u64 (b.w.tick:Int)), .sl (tms b.a.l), .sl (rks b.r), .sl (kys b.k), .sl (cts b.s)], .c (.int .u64 (id:Int))] (ubF b id) (qbe b id):=by
 refine .of (zfk qbo (Nat.le_of_ble_eq_true rfl) ?_)
 simp -implicitDefEqProofs only [cdA,go_sem,Go.Proofs.Tryz.f21,simprocAttr, -Int.reduceEq,List.cons.injEq,cdB]
 refine⟨h,fun h1=>⟨fun h2=> ?_,fun h2=> ?_⟩,fun h1=> ?_⟩
 ·have h3:=qU h1
  refine⟨⟨h3.1,h3.2.1,by show(waH b.r id).1.length≤_;have:=ybS h2;omega,h3.2.2.2⟩, ?_⟩
  have e:vq b id=(⟨b.w,b.a,(waH b.r id).1,b.k,b.s⟩,0):=by rw [vq,if_neg (fun h=>h h1),if_neg (fun h=>h h2)]
  rw [e]
  exact⟨[some 2],by simp [go_sem],⟨⟨rfl,rfl⟩,rfl,rfl,rfl,rfl,rfl,rfl,rfl,⟨rfl,rfl,_,_,_,rfl⟩,⟨rfl,rfl,_,_,_,rfl⟩,rfl,rfl⟩,rfl⟩
 ·rw [show vq b id=(wB,(waH b.r id).2) by rw [vq,if_neg (fun h=>h h1),if_pos h2]]
  exact⟨[none],by simp [go_sem,wB,zbY,chs],⟨⟨rfl,rfl⟩,rfl,rfl,rfl,rfl,rfl,rfl,rfl,rfl,rfl,rfl,rfl⟩,rfl⟩
 ·rw [show vq b id=(wB,yS b) by rw [vq,if_pos h1]]
  exact⟨[none],by simp [go_sem,wB,zbY,chs],⟨⟨rfl,rfl⟩,rfl,rfl,rfl,rfl,rfl,rfl,rfl,rfl,rfl,rfl,rfl⟩,rfl⟩
@[go_sem] def ucy (b:Bk) (id:Nat):Prop:=(b.w.f.next≤18446744073709551615)
def yaf:List D→Option (Prop×D×Fr)
 |[.agg [.c (.sl z125), .c (.sl z126), .c (.sl z127), .c (.sl z128), .c (.int .u64 z130), .c (.sl z131), .c (.int .u64 z132), .c (.int .u64 z133), .c (.sl z135), .c (.sl z136), .c (.sl z137), .c (.sl z138)], .c (.int .u64 z139)]=>some (z125=chs (yb z125)∧z126=wts (jd z126)∧z127=ivs (qc z127)∧z128=pys (vb z128)∧z130=(z130.toNat:Int)∧z131=evs (jb z131)∧z132=(z132.toNat:Int)∧z133=(z133.toNat:Int)∧z135=tms (qb z135)∧z136=rks (gb z136)∧z137=kys (je z137)∧z138=cts (qd z138)∧z139=(z139.toNat:Int)∧ucy (⟨(⟨(yb z125),(jd z126),(qc z127),(vb z128),(⟨z130.toNat,(jb z131)⟩:Fd),z132.toNat,z133.toNat⟩:Wl),(⟨(qb z135)⟩:Ar),(gb z136),(je z137),(qd z138)⟩:Bk) z139.toNat,ubF (⟨(⟨(yb z125),(jd z126),(qc z127),(vb z128),(⟨z130.toNat,(jb z131)⟩:Fd),z132.toNat,z133.toNat⟩:Wl),(⟨(qb z135)⟩:Ar),(gb z136),(je z137),(qd z138)⟩:Bk) z139.toNat,qbe (⟨(⟨(yb z125),(jd z126),(qc z127),(vb z128),(⟨z130.toNat,(jb z131)⟩:Fd),z132.toNat,z133.toNat⟩:Wl),(⟨(qb z135)⟩:Ar),(gb z136),(je z137),(qd z138)⟩:Bk) z139.toNat)
 |_=>none
attribute [go_sem] yaf
theorem ga8:ga 21 yaf:=by
 intro rs p r fr h hp
 unfold yaf at h
 split at h<;>cases h
 obtain⟨hc0,hc1,hc2,hc3,hc4,hc5,hc6,hc7,hc8,hc9,hc10,hc11,hc12,hp⟩:=hp
 rename_i z125 z126 z127 z128 z130 z131 z132 z133 z135 z136 z137 z138 z139
 have:=wb4 ⟨⟨(yb z125),(jd z126),(qc z127),(vb z128),⟨z130.toNat,(jb z131)⟩,z132.toNat,z133.toNat⟩,⟨(qb z135)⟩,(gb z136),(je z137),(qd z138)⟩ z139.toNat hp
 rw [←hc0,←hc1,←hc2,←hc3,←hc4,←hc5,←hc6,←hc7,←hc8,←hc9,←hc10,←hc11,←hc12]at this
 exact And.intro rfl this
end Dm
namespace Dm
open Go Go.Proofs Go.IntWalk
def gc9:Bk:=⟨⟨[],[],[],[],⟨1,[]⟩,1,0⟩,⟨[]⟩,[],[],[]⟩
def zy (keys:List Nat):Nat→Bk×List Tk×Int
 |0=>(gc9,[],0)
 |n+1=>if(zy keys n).2.2≠0 then zy keys n else
  if(ud (zy keys n).1 (n+1) (keys.getD n default) (zh (zy keys n).1.r (n+1) (keys.getD n default))).2.2=0 then
   ((ud (zy keys n).1 (n+1) (keys.getD n default) (zh (zy keys n).1.r (n+1) (keys.getD n default))).1,(zy keys n).2.1++[(ud (zy keys n).1 (n+1) (keys.getD n default) (zh (zy keys n).1.r (n+1) (keys.getD n default))).2.1],0)
  else(wB,[],(ud (zy keys n).1 (n+1) (keys.getD n default) (zh (zy keys n).1.r (n+1) (keys.getD n default))).2.2)
theorem xaC {keys:List Nat}:∀{n:Nat},(zy keys n).2.2=0→(zy keys n).2.1.length=n
 |0,_=>rfl
 |n+1,h=>by
  rw [zy]at h⊢
  split at h
  ·rename_i h1;exact absurd h h1
  rename_i h1
  rw [if_neg h1]
  split at h
  ·rename_i h2
   rw [if_pos h2]
   dsimp only
   rw [List.length_append,xaC (Classical.not_not.1 h1)];rfl
  ·rename_i h2;exact absurd h h2
theorem yaN {keys:List Nat} {n:Nat} (h:¬(zy keys n).2.2=0):∀{m:Nat},n≤m→zy keys m=zy keys n
 |0,hm=>by rw [show n=0 by omega]
 |m+1,hm=>by
  by_cases e:n=m+1
  ·rw [e]
  ·have ih:=yaN h (m:=m) (by omega)
   rw [zy,if_pos (by rw [ih];exact h),ih]
theorem keq {b:Bk} {id key:Nat} {l:List Rk×Int} (h:(ud b id key l).2.2=0):(ud b id key l).1.w=b.w:=by
 unfold ud at h⊢
 split at h
 ·rename_i h1;exact absurd h h1
 split at h
 ·rename_i h1;exact absurd h h1
 split at h
 ·rename_i h1;exact absurd h h1
 rename_i h1 h2 h3
 rw [if_neg h1,if_neg h2,if_neg h3]
def zaN (keys:List Nat):Bk×List Tk×Int:=zy keys keys.length
@[go_sem] def bck (keys:List Nat):D:= .tup [.agg [.sl (chs (zaN keys).1.w.c), .sl (wts (zaN keys).1.w.w), .sl (ivs (zaN keys).1.w.i), .sl (pys (zaN keys).1.w.p), .int .u64 (zaN keys).1.w.f.next, .sl (evs (zaN keys).1.w.f.l), .int .u64 (zaN keys).1.w.next, .int .u64 (zaN keys).1.w.tick, .sl (tms (zaN keys).1.a.l), .sl (rks (zaN keys).1.r), .sl (kys (zaN keys).1.k), .sl (cts (zaN keys).1.s)], .sl (tks (zaN keys).2.1), .int .i64 (zaN keys).2.2]
@[go_sem] abbrev kfc:FuncId:=10
@[go_sem] def gde:Tab:=[(35,waG),(26,xaf)]
theorem gH:za Tryz.prog gde:=(za.cons bby (za.cons ba8 za.nil))
theorem qcy (keys:List Nat) (hl:keys.length≤1000000):ja Tryz.prog 10 [.sl (qo keys)] (bck keys):=by
 refine .of (yfj gH (Nat.le_of_ble_eq_true rfl) ?_)
 simp -implicitDefEqProofs only [cdA,go_sem,Go.Proofs.Tryz.f10,simprocAttr, -Int.reduceEq,List.cons.injEq,cdB]
 refine xb.run jdw gH qa (by kernel_rfl) (by kernel_rfl) ?_
 simp -implicitDefEqProofs only [cdA,go_sem,simprocAttr, -Int.reduceEq,List.cons.injEq,cdB]
 refine⟨⟨Int.le_refl _,by omega⟩,fun _=> ?_⟩
 refine SWp.xdq 2 rfl ?_
 refine SWp.loop (ι:={i:Nat // i≤keys.length∧(zy keys i).2.2=0∧(zy keys i).1.w.f.next≤18446744073709551615}) (fun i=>⟨[(2, .ref 0 0),(5, .ref 2 0),(6, .vec 1 keys.length),(17, .sl (qo keys)),(18, .int .i64 keys.length),(19, .int .i64 i.1)],[(1, .vec true 3 26 (tks ((zy keys i.1).2.1++List.replicate (keys.length - i.1) ⟨0,[],0⟩))),(2, .box [.sl (chs (zy keys i.1).1.w.c), .sl (wts (zy keys i.1).1.w.w), .sl (ivs (zy keys i.1).1.w.i), .sl (pys (zy keys i.1).1.w.p), .c (.int .u64 (zy keys i.1).1.w.f.next), .sl (evs (zy keys i.1).1.w.f.l), .c (.int .u64 (zy keys i.1).1.w.next), .c (.int .u64 (zy keys i.1).1.w.tick), .sl (tms (zy keys i.1).1.a.l), .sl (rks (zy keys i.1).1.r), .sl (kys (zy keys i.1).1.k), .sl (cts (zy keys i.1).1.s)]),(0, .box [.nil, .nil, .nil, .nil, .c (.int .u64 0), .nil, .c (.int .u64 0), .c (.int .u64 0), .nil, .nil, .nil, .nil])],3⟩) (fun i=>keys.length - i.1) ⟨0,Nat.zero_le _,rfl,by show(1:Nat)≤_;decide⟩ ?_ ?_
 ·simp [go_sem,slD,zy,gc9,tks]
  exact⟨.inr rfl,rfl,rfl,rfl,rfl⟩
 ·rintro⟨i,hi,he,hf⟩
  have e1:i<keys.length→IntKind.u64.wrap (IntKind.u64.wrap (i:Int)+1)=((i+1:Nat):Int):=fun h=>by rw [u64_in (i:Int) (by omega),u64_in _ (by omega)];omega
  by_cases hlt:i<keys.length
  rotate_left 1
  ·have hie:i=keys.length:=by omega
   subst hie
   have hb:((keys.length:Int)<(keys.length:Int))=False:=eq_false (by omega)
   refine ya gH.toS yeA _ _ _ rfl ?_
   simp -implicitDefEqProofs only [cdA,go_sem,hb,cdN,simprocAttr, -Int.reduceEq,List.cons.injEq,cdB]
   exact⟨⟨rfl,rfl,rfl,rfl,rfl,rfl,rfl,rfl,rfl,rfl,rfl,rfl⟩,⟨(xaC he).symm,_,_,_,by rw [Nat.sub_self,List.replicate_zero,List.append_nil];rfl⟩,he.symm⟩
  have e2:=e1 hlt
  have hb:((i:Int)<(keys.length:Int))=True:=eq_true (by omega)
  have e3:((i:Int)+1).toNat=i+1:=by omega
  have e4:((i:Int)+1=((i+1:Nat):Int))=True:=eq_true (by omega)
  refine ya gH.toS yeA _ _ _ rfl ?_
  simp -implicitDefEqProofs only [cdA,go_sem,e2,e3,e4,hb,Int.toNat_natCast,cdN,simprocAttr, -Int.reduceEq,List.cons.injEq,cdB]
  generalize hc:ud (zy keys i).1 (i+1) (keys.getD i default) (zh (zy keys i).1.r (i+1) (keys.getD i default))=c at*
  refine⟨hf,fun hc0=> ?_,fun hc0=> ?_⟩
  ·have e5:zy keys (i+1)=(c.1,(zy keys i).2.1++[c.2.1],0):=by rw [zy,if_neg (fun h=>h he),hc,if_pos hc0]
   have hw:c.1.w=(zy keys i).1.w:=by rw [←hc]at hc0⊢;exact keq hc0
   have hlen:=xaC he
   refine xb.run kdw gH qa (by kernel_rfl) (by kernel_rfl) ?_
   simp -implicitDefEqProofs only [cdA,go_sem,simprocAttr, -Int.reduceEq,List.cons.injEq,cdB]
   refine⟨by omega,⟨by rw [hlen,List.length_replicate];omega,hlt⟩,⟨i+1,hlt,by rw [e5],by rw [e5,hw];exact hf⟩,by dsimp only;omega,i64_in _ (by omega), ?_⟩
   dsimp only
   rw [e5]
   refine⟨?_,rfl,rfl,rfl,rfl,rfl,rfl,rfl,rfl,rfl,rfl,rfl,rfl⟩
   congr 2
   obtain⟨k,hk⟩:∃k,keys.length - i=k+1:=⟨keys.length - i - 1,by omega⟩
   rw [hk,show keys.length - (i+1)=k by omega,List.set_append_right _ _ (by omega),hlen,Nat.sub_self,List.replicate_succ,List.set_cons_zero,List.append_assoc];rfl
  ·have e5:zy keys (i+1)=(wB,[],c.2.2):=by rw [zy,if_neg (fun h=>h he),hc,if_neg hc0]
   have e6:zaN keys=(wB,[],c.2.2):=by
    rw [zaN,yaN (n:=i+1) (by rw [e5];exact hc0) hlt,e5]
   rw [e6]
   exact⟨⟨rfl,rfl,rfl,rfl,rfl,rfl,rfl,rfl,rfl,rfl,rfl,rfl⟩,rfl,rfl⟩
@[go_sem] def bde (keys:List Nat):Prop:=(keys.length≤1000000)
def yaE:List D→Option (Prop×D×Fr)
 |[.c (.sl z1)]=>some (z1=qo (wk z1)∧bde (wk z1),bck (wk z1),[])
 |_=>none
attribute [go_sem] yaE
theorem gbx:ga 10 yaE:=by
 intro rs p r fr h hp
 unfold yaE at h
 split at h<;>cases h
 obtain⟨hc0,hp⟩:=hp
 rename_i z1
 have:=qcy (wk z1) hp
 rw [←hc0]at this
 exact this
end Dm
namespace Dm
open Go Go.Proofs Go.IntWalk
theorem yfs:zaN [9]=(⟨⟨[],[],[],[],⟨1,[]⟩,1,0⟩,⟨[⟨9, -1,[1]⟩]⟩,[⟨1,9,false⟩],[],[]⟩,[⟨1,[],0⟩],0):=by kernel_rfl
theorem ve8:gB [⟨9, -1,[1]⟩] ⟨1,[],0⟩ ⟨1,0,0⟩=([⟨9, -1,[1]⟩,⟨0,0,[1,0]⟩],⟨1,[⟨1,0,0⟩],1⟩,0):=by kernel_rfl
theorem xfs:jao ⟨[],[],[],[],⟨1,[]⟩,1,0⟩ 1=(⟨[],[],[],[],⟨1,[]⟩,1,1⟩,0):=by kernel_rfl
theorem qfs:qau ⟨⟨[],[],[],[],⟨1,[]⟩,1,0⟩,⟨[⟨9, -1,[1]⟩,⟨0,0,[1,0]⟩]⟩,[⟨1,9,false⟩],[],[]⟩ ⟨0,7,0,⟨1,[⟨1,0,0⟩],1⟩,0,0,0,[],[]⟩ 0=(true,0):=by kernel_rfl
theorem jfs:qau ⟨⟨[],[],[],[],⟨1,[]⟩,1,1⟩,⟨[⟨9, -1,[1]⟩,⟨0,0,[1,0]⟩]⟩,[⟨1,9,false⟩],[],[]⟩ ⟨0,7,0,⟨1,[⟨1,0,0⟩],1⟩,0,0,0,[],[]⟩ 0=(false,0):=by kernel_rfl
@[go_sem] def vbF:D:= .bool true
@[go_sem] abbrev veK:FuncId:=8
@[go_sem] def ycy:Tab:=[(10,yaE),(16,yah),(14,bam),(34,bY)]
theorem vat:za Tryz.prog ycy:=(za.cons gbx (za.cons zbb (za.cons bay (za.cons jaW za.nil))))
theorem kb4:ja Tryz.prog 8 [] (vbF):=by
 refine .of (ac8 vat (Nat.le_of_ble_eq_true rfl) ?_)
 simp -implicitDefEqProofs only [cdA,go_sem,Go.Proofs.Tryz.f8,simprocAttr, -Int.reduceEq,List.cons.injEq,cdB]
 rw [yfs]
 refine⟨fun _ _=>⟨fun _=> ?_,fun h=>h rfl⟩,fun h=>h rfl⟩
 refine xb.run xeX vat qa (by kernel_rfl) (by kernel_rfl) ?_
 simp -implicitDefEqProofs only [cdA,go_sem,ve8,simprocAttr, -Int.reduceEq,List.cons.injEq,cdB]
 simp only [show([⟨1,[],0⟩]:List Tk).getD 0 default=⟨1,[],0⟩from rfl,show zk []=[]from rfl,show uc []=[]from rfl,ve8,xfs,qfs,jfs]
 exact⟨⟨rfl,rfl⟩,⟨rfl,rfl,by decide⟩,fun _=>⟨fun _=>⟨fun _=>⟨fun _=>⟨fun _=>rfl,fun h=>Bool.noConfusion h⟩,fun h=>h trivial⟩,fun h=>h trivial⟩,fun h=>h trivial⟩,fun h=>h trivial⟩
def zaf:List D→Option (Prop×D×Fr)
 |[]=>some (True,vbF,[])
 |_=>none
attribute [go_sem] zaf
theorem ua8:∀rs p r fr,zaf rs=some (p,r,fr)→p→gaH Tryz.prog 8 rs r fr:=by
 intro rs p r fr h hp
 unfold zaf at h
 split at h<;>cases h
 exact kb4
end Dm
namespace Dm
open Go Go.Proofs Go.IntWalk
@[go_sem] def jbE (w:Wl):D:= .bool (decide (((∀c∈w.c,c.holds.length≤20)∧w.c.length≤34)∧w.w.length≤40∧w.i.length≤40∧(w.p.length≤40∨256≤w.p.length∧w.p.length≤258)∧w.f.l.length≤70))
@[go_sem] abbrev zeK:FuncId:=49
@[go_sem] def kcu:Tab:=[(115,vbk)]
theorem jbn:za Tryz.prog kcu:=(za.cons xbU za.nil)
theorem yb3 (w:Wl):ja Tryz.prog 49 [.agg [.sl (chs w.c), .sl (wts w.w), .sl (ivs w.i), .sl (pys w.p), .c (.int .u64 (w.f.next:Int)), .sl (evs w.f.l), .c (.int .u64 (w.next:Int)), .c (.int .u64 (w.tick:Int))]] (jbE w):=by
 refine .of (kfm jbn (Nat.le_of_ble_eq_true rfl) ?_)
 simp -implicitDefEqProofs only [cdA,go_sem,Go.Proofs.Tryz.f49,simprocAttr, -Int.reduceEq,List.cons.injEq,cdB]
 refine⟨fun hq _=>⟨fun h1 _=>⟨fun h2 _=>⟨fun h3 _=>⟨fun h4 _=>⟨fun h5 _=> ?_,fun h5=>(decide_eq_false fun h=>by have:=h.2;omega).symm⟩,fun h4=>(decide_eq_false fun h=>by have:=h.2;omega).symm⟩,fun h3 _=> ?_⟩,fun h2=>(decide_eq_false fun h=>by have:=h.2;omega).symm⟩,fun h1=>(decide_eq_false fun h=>by have:=h.2;omega).symm⟩,fun hq=>(decide_eq_false fun h=>hq h.1).symm⟩
 ·rw [decide_eq_decide];exact⟨fun h=>⟨hq,by omega,by omega,by omega,by omega⟩,fun h=>by have:=h.2;omega⟩
 ·rw [decide_eq_decide];exact⟨fun h=>⟨hq,by omega,by omega,by omega,by omega⟩,fun h=>by have:=h.2;omega⟩
def kae:List D→Option (Prop×D×Fr)
 |[.agg [.c (.sl z2), .c (.sl z3), .c (.sl z4), .c (.sl z5), .c (.int .u64 z7), .c (.sl z8), .c (.int .u64 z9), .c (.int .u64 z10)]]=>some (z2=chs (yb z2)∧z3=wts (jd z3)∧z4=ivs (qc z4)∧z5=pys (vb z5)∧z7=(z7.toNat:Int)∧z8=evs (jb z8)∧z9=(z9.toNat:Int)∧z10=(z10.toNat:Int),jbE (⟨(yb z2),(jd z3),(qc z4),(vb z5),(⟨z7.toNat,(jb z8)⟩:Fd),z9.toNat,z10.toNat⟩:Wl),[])
 |_=>none
attribute [go_sem] kae
theorem xa8:ga 49 kae:=by
 intro rs p r fr h hp
 unfold kae at h
 split at h<;>cases h
 obtain⟨hc0,hc1,hc2,hc3,hc4,hc5,hc6,hc7⟩:=hp
 rename_i z2 z3 z4 z5 z7 z8 z9 z10
 have:=yb3 ⟨(yb z2),(jd z3),(qc z4),(vb z5),⟨z7.toNat,(jb z8)⟩,z9.toNat,z10.toNat⟩
 rw [←hc0,←hc1,←hc2,←hc3,←hc4,←hc5,←hc6,←hc7]at this
 exact this
@[go_sem] def vck (a:Ar):D:= .bool (decide ((∀t∈a.l,t.text.length≤200)∧a.l.length≤80))
@[go_sem] abbrev xfc:FuncId:=50
@[go_sem] def gdd:Tab:=[]
theorem zaK:za Tryz.prog gdd:=za.nil
theorem ucu (a:Ar):ja Tryz.prog 50 [.agg [.sl (tms a.l)]] (vck a):=by
 refine .of (vfm zaK (Nat.le_of_ble_eq_true rfl) ?_)
 simp -implicitDefEqProofs only [cdA,go_sem,Go.Proofs.Tryz.f50,simprocAttr, -Int.reduceEq,List.cons.injEq,cdB]
 generalize a.l=l at*
 refine fun hl=>SWp.loop (ι:={i:Nat // i≤l.length∧∀j,j<i→(l.getD j default).text.length≤200}) (fun i=>⟨[(1, .ref 0 0),(6, .sl (tms l)),(7, .int .i64 l.length),(8, .int .i64 i.1)],[(0, .box [.sl (tms l)])],1⟩) (fun i=>l.length - i.1) ⟨0,by simp⟩ ?_ ?_
 ·simp [go_sem]
 ·rintro⟨i,hi,hall⟩
  refine ya zaK.toS je9 _ _ _ rfl ?_
  simp -implicitDefEqProofs only [cdA,go_sem,simprocAttr, -Int.reduceEq,List.cons.injEq,cdB]
  refine⟨fun h=>⟨by omega,fun _=>⟨fun h1=> ?_,fun h1=>⟨⟨i+1,by omega,fun j hj=> ?_⟩,by dsimp only;omega,i64_in _ (by omega)⟩⟩⟩,fun h=> ?_⟩
  ·rw [eq_comm,decide_eq_false_iff_not]
   intro h2
   have:=h2.1 _ (va.2 ⟨i,by omega,rfl⟩)
   omega
  ·by_cases hji:j=i
   ·subst hji;omega
   ·exact hall j (by omega)
  ·intro _
   have:(∀t∈l,t.text.length≤200):=fun c hc=>by obtain⟨j,hj,rfl⟩:=va.1 hc;exact hall j (by omega)
   rw [decide_eq_decide]
   exact⟨fun h=>⟨this,by omega⟩,fun h=>by omega⟩
def baD:List D→Option (Prop×D×Fr)
 |[.agg [.c (.sl z12)]]=>some (z12=tms (qb z12),vck (⟨(qb z12)⟩:Ar),[])
 |_=>none
attribute [go_sem] baD
theorem vbx:ga 50 baD:=by
 intro rs p r fr h hp
 unfold baD at h
 split at h<;>cases h
 have hc0:=hp
 rename_i z12
 have:=ucu ⟨(qb z12)⟩
 rw [←hc0]at this
 exact this
def jb3 (k:Ky):Prop:=¬(60<k.print.length∧k.print.length<4096)∧¬4100<k.print.length∧¬(60<k.reply.length∧k.reply.length<4096)∧¬4100<k.reply.length
instance (k:Ky):Decidable (jb3 k):=by unfold jb3;infer_instance
@[go_sem] def qbE (l:List Ky):D:= .bool (decide ((∀k∈l,jb3 k)∧(l.length≤20∨128≤l.length∧l.length≤130)))
@[go_sem] abbrev beJ:FuncId:=51
@[go_sem] def jcu:Tab:=[]
theorem xat:za Tryz.prog jcu:=za.nil
theorem zb3 (l:List Ky):ja Tryz.prog 51 [.sl (kys l)] (qbE l):=by
 refine .of (wfm xat (Nat.le_of_ble_eq_true rfl) ?_)
 simp -implicitDefEqProofs only [cdA,go_sem,Go.Proofs.Tryz.f51,simprocAttr, -Int.reduceEq,List.cons.injEq,cdB]
 refine fun hl=>SWp.loop (ι:={i:Nat // i≤l.length∧∀j,j<i→jb3 (l.getD j default)}) (fun i=>⟨[(0, .sl (kys l)),(5, .sl (kys l)),(6, .int .i64 l.length),(7, .int .i64 i.1)],[],0⟩) (fun i=>l.length - i.1) ⟨0,by simp⟩ ?_ ?_
 ·simp [go_sem]
 ·rintro⟨i,hi,hall⟩
  refine ya xat.toS ke9 _ _ _ rfl ?_
  simp -implicitDefEqProofs only [cdA,go_sem,simprocAttr, -Int.reduceEq,List.cons.injEq,cdB]
  refine⟨fun h=> ?_,fun h _=> ?_⟩
  ·have hi':i<l.length:=by omega
   have hb:¬((¬(60<(l.getD i default).print.length∧(l.getD i default).print.length<4096)∧¬4100<(l.getD i default).print.length)∧¬(60<(l.getD i default).reply.length∧(l.getD i default).reply.length<4096)∧¬4100<(l.getD i default).reply.length)→false=decide ((∀k∈l,jb3 k)∧(l.length≤20∨128≤l.length∧l.length≤130)):=fun hx=>(decide_eq_false fun h=>hx (by
    have:=h.1 _ (va.2 ⟨i,hi',rfl⟩)
    exact⟨⟨this.1,this.2.1⟩,this.2.2⟩)).symm
   have hn:((¬(60<(l.getD i default).print.length∧(l.getD i default).print.length<4096)∧¬4100<(l.getD i default).print.length)∧¬(60<(l.getD i default).reply.length∧(l.getD i default).reply.length<4096)∧¬4100<(l.getD i default).reply.length)→∃i_1:{i:Nat // i≤l.length∧∀j,j<i→jb3 (l.getD j default)},l.length - i_1.val<l.length - i∧IntKind.i64.wrap ((i:Int)+1)=i_1.val:=fun hx=>⟨⟨i+1,hi',fun j hj=>by
    by_cases hji:j=i
    ·subst hji;exact⟨hx.1.1,hx.1.2,hx.2⟩
    ·exact hall j (by omega)⟩,by dsimp only;omega,i64_in _ (by omega)⟩
   refine⟨h,fun _=> ?_⟩
   generalize (l.getD i default).print.length=p at*
   generalize (l.getD i default).reply.length=q at*
   exact⟨fun a _=>⟨fun b _=>⟨fun c _=>⟨fun d _=>⟨fun e _=>⟨fun f=>hb (by omega),fun f=>hn (by omega)⟩,fun e=>hb (by omega)⟩,fun d _=>⟨fun f=>hb (by omega),fun f=>hn (by omega)⟩⟩,fun c=>hb (by omega)⟩,fun b=>hb (by omega)⟩,fun a _=>⟨fun c _=>⟨fun d _=>⟨fun e _=>⟨fun f=>hb (by omega),fun f=>hn (by omega)⟩,fun e=>hb (by omega)⟩,fun d _=>⟨fun f=>hb (by omega),fun f=>hn (by omega)⟩⟩,fun c=>hb (by omega)⟩⟩
  ·have hi':i=l.length:=by omega
   subst hi'
   have hk:∀k∈l,jb3 k:=fun c hc=>by obtain⟨j,hj,rfl⟩:=va.1 hc;exact hall j (by omega)
   refine⟨fun h1 _=>⟨fun h2 _=>decide_eq_decide.2 ⟨fun h3=>⟨hk,by omega⟩,fun h3=>by have:=h3.2;omega⟩,fun h2=>(decide_eq_false fun h3=>by have:=h3.2;omega).symm⟩,fun h1=>(decide_eq_true ⟨hk,by omega⟩).symm⟩
def jae:List D→Option (Prop×D×Fr)
 |[.c (.sl z13)]=>some (z13=kys (je z13),qbE (je z13),[])
 |_=>none
attribute [go_sem] jae
theorem ya8:ga 51 jae:=by
 intro rs p r fr h hp
 unfold jae at h
 split at h<;>cases h
 have hc0:=hp
 rename_i z13
 have:=zb3 (je z13)
 rw [←hc0]at this
 exact this
@[go_sem] def vbE (b:Bk):D:= .bool (decide ((((∀c∈b.w.c,c.holds.length≤20)∧b.w.c.length≤34)∧b.w.w.length≤40∧b.w.i.length≤40∧(b.w.p.length≤40∨256≤b.w.p.length∧b.w.p.length≤258)∧b.w.f.l.length≤70)∧((∀t∈b.a.l,t.text.length≤200)∧b.a.l.length≤80)∧b.r.length≤70∧((∀k∈b.k,jb3 k)∧(b.k.length≤20∨128≤b.k.length∧b.k.length≤130))∧b.s.length≤130))
@[go_sem] abbrev xeK:FuncId:=15
@[go_sem] def wcu:Tab:=[(49,kae),(50,baD),(51,jae)]
theorem vbn:za Tryz.prog wcu:=(za.cons xa8 (za.cons vbx (za.cons ya8 za.nil)))
theorem qb3 (b:Bk):ja Tryz.prog 15 [.agg [.sl (chs b.w.c), .sl (wts b.w.w), .sl (ivs b.w.i), .sl (pys b.w.p), .c (.int .u64 (b.w.f.next:Int)), .sl (evs b.w.f.l), .c (.int .u64 (b.w.next:Int)), .c (.int .u64 (b.w.tick:Int)), .sl (tms b.a.l), .sl (rks b.r), .sl (kys b.k), .sl (cts b.s)]] (vbE b):=by
 refine .of (jfj vbn (Nat.le_of_ble_eq_true rfl) ?_)
 simp -implicitDefEqProofs only [cdA,go_sem,Go.Proofs.Tryz.f15,simprocAttr, -Int.reduceEq,List.cons.injEq,cdB]
 refine⟨fun hA=>⟨fun hB hr=>⟨fun hr1=>⟨fun hD hs=>decide_eq_decide.2 ⟨fun h=>⟨hA,hB,by omega,hD,by omega⟩,fun h=>by have:=h.2.2.2.2;omega⟩,fun hD=>(decide_eq_false fun h=>hD h.2.2.2.1).symm⟩,fun hr1=>(decide_eq_false fun h=>hr1 (by have:=h.2.2.1;omega)).symm⟩,fun hB=>(decide_eq_false fun h=>hB h.2.1).symm⟩,fun hA=>(decide_eq_false fun h=>hA h.1).symm⟩
def wae:List D→Option (Prop×D×Fr)
 |[.agg [.c (.sl z16), .c (.sl z17), .c (.sl z18), .c (.sl z19), .c (.int .u64 z21), .c (.sl z22), .c (.int .u64 z23), .c (.int .u64 z24), .c (.sl z26), .c (.sl z27), .c (.sl z28), .c (.sl z29)]]=>some (z16=chs (yb z16)∧z17=wts (jd z17)∧z18=ivs (qc z18)∧z19=pys (vb z19)∧z21=(z21.toNat:Int)∧z22=evs (jb z22)∧z23=(z23.toNat:Int)∧z24=(z24.toNat:Int)∧z26=tms (qb z26)∧z27=rks (gb z27)∧z28=kys (je z28)∧z29=cts (qd z29),vbE (⟨(⟨(yb z16),(jd z17),(qc z18),(vb z19),(⟨z21.toNat,(jb z22)⟩:Fd),z23.toNat,z24.toNat⟩:Wl),(⟨(qb z26)⟩:Ar),(gb z27),(je z28),(qd z29)⟩:Bk),[])
 |_=>none
attribute [go_sem] wae
theorem ja8:ga 15 wae:=by
 intro rs p r fr h hp
 unfold wae at h
 split at h<;>cases h
 obtain⟨hc0,hc1,hc2,hc3,hc4,hc5,hc6,hc7,hc8,hc9,hc10,hc11⟩:=hp
 rename_i z16 z17 z18 z19 z21 z22 z23 z24 z26 z27 z28 z29
 have:=qb3 ⟨⟨(yb z16),(jd z17),(qc z18),(vb z19),⟨z21.toNat,(jb z22)⟩,z23.toNat,z24.toNat⟩,⟨(qb z26)⟩,(gb z27),(je z28),(qd z29)⟩
 rw [←hc0,←hc1,←hc2,←hc3,←hc4,←hc5,←hc6,←hc7,←hc8,←hc9,←hc10,←hc11]at this
 exact this
@[go_sem] def kbE (r:Rq):D:= .bool (decide (r.t.l.length≤20∧r.items.length≤20∧r.l.length≤20))
@[go_sem] abbrev yeK:FuncId:=9
@[go_sem] def vcu:Tab:=[]
theorem kbn:za Tryz.prog vcu:=za.nil
theorem xb3 (r:Rq):ja Tryz.prog 9 [.agg [.c (.int .u64 (r.id:Int)), .c (.int .i64 r.method), .c (.int .u64 (r.key:Int)), .c (.int .u64 (r.t.root:Int)), .sl (cvs r.t.l), .c (.int .i64 r.t.tag), .c (.int .u64 (r.a:Int)), .c (.int .u64 (r.n:Int)), .c (.int .u64 (r.till:Int)), .sl (its r.items), .sl (cvs r.l)]] (kbE r):=by
 refine .of (ac9 kbn (Nat.le_of_ble_eq_true rfl) ?_)
 simp -implicitDefEqProofs only [cdA,go_sem,Go.Proofs.Tryz.f9,simprocAttr, -Int.reduceEq,List.cons.injEq,cdB]
 exact fun _=>⟨fun h1 _=>⟨fun h2 _=>decide_eq_decide.2 ⟨fun h=>⟨by omega,by omega,by omega⟩,fun h=>by omega⟩,fun h2=>(decide_eq_false fun h=>by omega).symm⟩,fun h1=>(decide_eq_false fun h=>by omega).symm⟩
def vae:List D→Option (Prop×D×Fr)
 |[.agg [.c (.int .u64 z31), .c (.int .i64 z32), .c (.int .u64 z33), .c (.int .u64 z35), .c (.sl z36), .c (.int .i64 z37), .c (.int .u64 z38), .c (.int .u64 z39), .c (.int .u64 z40), .c (.sl z41), .c (.sl z42)]]=>some (z31=(z31.toNat:Int)∧z33=(z33.toNat:Int)∧z35=(z35.toNat:Int)∧z36=cvs (uc z36)∧z38=(z38.toNat:Int)∧z39=(z39.toNat:Int)∧z40=(z40.toNat:Int)∧z41=its (zk z41)∧z42=cvs (uc z42),kbE (⟨z31.toNat,z32,z33.toNat,(⟨z35.toNat,(uc z36),z37⟩:Tk),z38.toNat,z39.toNat,z40.toNat,(zk z41),(uc z42)⟩:Rq),[])
 |_=>none
attribute [go_sem] vae
theorem qa8:ga 9 vae:=by
 intro rs p r fr h hp
 unfold vae at h
 split at h<;>cases h
 obtain⟨hc0,hc1,hc2,hc3,hc4,hc5,hc6,hc7,hc8⟩:=hp
 rename_i z31 z32 z33 z35 z36 z37 z38 z39 z40 z41 z42
 have:=xb3 ⟨z31.toNat,z32,z33.toNat,⟨z35.toNat,(uc z36),z37⟩,z38.toNat,z39.toNat,z40.toNat,(zk z41),(uc z42)⟩
 rw [←hc0,←hc1,←hc2,←hc3,←hc4,←hc5,←hc6,←hc7,←hc8]at this
 exact this
end Dm
namespace Dm
open Go Go.Proofs Go.IntWalk
end Dm
