import Derived.Test.YthcioaapafehhaaGreatDoorP9

set_option linter.unusedSimpArgs false
set_option linter.unusedVariables false
set_option linter.unusedSectionVars false
set_option linter.defProp false
set_option maxRecDepth 20000
set_option maxHeartbeats 4000000
namespace Dm
open Go Go.Proofs Go.IntWalk
theorem Cv.eqD {a b:Cv}:eqD Tryz.prog 59 [D.c (.int .i64 a.kind),D.c (.int .u64 a.a),D.c (.int .u64 a.b)] [D.c (.int .i64 b.kind),D.c (.int .u64 b.a),D.c (.int .u64 b.b)]=some (decide (a=b)):=by
 cases a;cases b
 simp only [Dm.eqD,uct,vm,eqC,List.getElem?_cons_zero,List.getElem?_cons_succ,if_true,Option.some.injEq,Cv.mk.injEq]
 rw [Bool.eq_iff_iff]
 simp [Int.ofNat_inj]
attribute [go_sem] Cv.eqD
end Dm
namespace Dm
open Go Go.Proofs Go.IntWalk
theorem gbZ {n:Nat} (h:n<253):wbm n=[UInt8.ofNat n]:=by
 have h1:jP n=n:=by rw [jP,if_pos h]
 rw [wbm,wbE,qbc,h1]
 rw [show qac n=0 by rw [qac,if_pos h]];rfl
end Dm
namespace Dm
open Go Go.Proofs Go.IntWalk
def hiB:Nat→Nat→List UInt8
 |_,0=>[]
 |n,w+1=>hiB (n / 256) w++[w8 (n:Int)]
theorem jaj:∀{w n:Nat},(hiB n w).length=w
 |0,n=>rfl
 |w+1,n=>by rw [hiB,List.length_append,jaj];rfl
attribute [go_sem] jaj
def xan (N:Nat):List D→Option (Prop×D×Fr)
 |[.c (.int .u64 z1), .c (.int .i64 z2)]=>some (z1=(z1.toNat:Int)∧z2=(z2.toNat:Int)∧z2.toNat≤N∧z1.toNat≤18446744073709551615, .vec 0 z2.toNat,[(1,5,true,u8s (hiB z1.toNat z2.toNat))])
 |_=>none
attribute [go_sem] xan
@[go_sem] def zex (N:Nat):Tab:=[(245,xan N)]
theorem yaz {N:Nat} (ih:∀n w:Nat,w≤N→n≤18446744073709551615→zf Tryz.prog 245 [.c (.int .u64 (n:Int)), .c (.int .i64 (w:Int))] (.vec 0 w) [(1,5,true,u8s (hiB n w))]):∀rs p r fr,xan N rs=some (p,r,fr)→p→gaH Tryz.prog 245 rs r fr:=by
 intro rs p r fr h hp
 unfold xan at h
 split at h<;>cases h
 obtain⟨h1,h2,h3,h4⟩:=hp
 rename_i z1 z2
 obtain⟨z1,rfl⟩:∃m:Nat,z1=m:=⟨_,h1⟩
 obtain⟨z2,rfl⟩:∃m:Nat,z2=m:=⟨_,h2⟩
 simp only [Int.toNat_natCast]at h3 h4⊢
 exact(show gaH _ _ _ _ _ from And.intro rfl (ih z1 z2 h3 h4))
theorem qcz:∀N:Nat,N≤8→∀n w:Nat,w≤N→n≤18446744073709551615→zf Tryz.prog 245 [.c (.int .u64 (n:Int)), .c (.int .i64 (w:Int))] (.vec 0 w) [(1,5,true,u8s (hiB n w))]:=by
 intro N
 induction N with
 |zero=>
  intro _ n w hw hn
  refine .of (qc8 za.nil (Nat.le_of_ble_eq_true rfl) ?_)
  simp -implicitDefEqProofs only [cdA,go_sem,Go.Proofs.Tryz.f245,simprocAttr, -Int.reduceEq,List.cons.injEq,cdB]
  have h0:w=0:=by omega
  subst h0
  exact⟨fun _=>⟨[none],by simp [go_sem,hiB,u8s],rfl,rfl⟩,fun h=>absurd rfl h⟩
 |succ N ih=>
  intro hN n w hw hn
  refine .of (qc8 (za.cons (yaz (ih (by omega))) za.nil:za Tryz.prog (zex N)) (Nat.le_of_ble_eq_true rfl) ?_)
  simp -implicitDefEqProofs only [cdA,go_sem,Go.Proofs.Tryz.f245,simprocAttr, -Int.reduceEq,List.cons.injEq,cdB]
  have e1:IntKind.u64.wrap ((n:Int).tdiv 256)=((n / 256:Nat):Int):=by
   rw [Int.tdiv_eq_ediv_of_nonneg (by omega),u64_in _ (by omega)];omega
  have e3:w8 ((n:Int).tmod 256)=w8 (n:Int):=by
   rw [Int.tmod_eq_emod_of_nonneg (by omega),w8,w8];congr 2;omega
  refine⟨fun h=>⟨[none], ?_,rfl,by omega⟩,fun h=>⟨by decide, ?_⟩⟩
  ·have h0:w=0:=by omega
   subst h0
   simp [go_sem,hiB,u8s]
  obtain⟨v,rfl⟩:∃v,w=v+1:=⟨w - 1,by omega⟩
  have e2:IntKind.i64.wrap (((v+1:Nat):Int) - 1)=(v:Int):=by rw [i64_in _ (by omega)];omega
  rw [e1,e2,e3,Int.toNat_natCast,Int.toNat_natCast]
  refine⟨⟨rfl,rfl,by omega,by omega⟩,by decide,by omega,[some 0], ?_,rfl,rfl⟩
  simp [go_sem,hiB]
theorem jbG:∀{w n:Nat},hiB n w=(List.range w).map fun k=>w8 ((n:Int) / 2^(8*(w - 1 - k)))
 |0,n=>rfl
 |w+1,n=>by
  rw [hiB,jbG,List.range_succ,List.map_append]
  congr 1
  ·refine List.map_congr_left fun k hk=> ?_
   rw [List.mem_range]at hk
   congr 1
   rw [show 8*(w+1 - 1 - k)=8+8*(w - 1 - k) by omega]
   have e:n / 256 / 2^(8*(w - 1 - k))=n / 2^(8+8*(w - 1 - k)):=by rw [Nat.div_div_eq_div_mul,Nat.pow_add]
   exact_mod_cast e
  ·show _=[w8 _]
   rw [show 8*(w+1 - 1 - w)=0 by omega]
   simp
theorem yda (n:Nat):wbm n=if n<253 then [w8 (n:Int)]else if n<65536 then 253::hiB n 2 else if n<4294967296 then 254::hiB n 4 else 255::hiB n 8:=by
 have hT:∀f:Nat,jP n=f→wbm n=UInt8.ofNat f::hiB n (qac f):=fun f hf=>by
  rw [wbm,qbc,wbE,hf,←jbG]
 split
 ·rename_i h
  rw [gbZ h]
  congr 1
  unfold w8
  congr 1
  omega
 split
 ·rename_i h1 h2
  rw [hT 253 (by rw [jP,if_neg h1,if_pos h2])];rfl
 split
 ·rename_i h1 h2 h3
  rw [hT 254 (by rw [jP,if_neg h1,if_neg h2,if_pos h3])];rfl
 ·rename_i h1 h2 h3
  rw [hT 255 (by rw [jP,if_neg h1,if_neg h2,if_neg h3])];rfl
@[go_sem] abbrev wbk:=xan 8
theorem xa9:∀rs p r fr,wbk rs=some (p,r,fr)→p→gaH Tryz.prog 245 rs r fr:=yaz (qcz 8 (by decide))
@[go_sem] def xbi (n:Nat):D:= .vec 0 (wbm n).length
@[go_sem] def jaP (n:Nat):Fr:=[(1,5,true,u8s (wbm n))]
@[go_sem] abbrev zdS:FuncId:=213
@[go_sem] def gca:Tab:=[(245,wbk)]
theorem za5:za Tryz.prog gca:=(za.cons xa9 za.nil)
theorem bbN (n:Nat) (h:n≤18446744073709551615):zf Tryz.prog 213 [.c (.int .u64 (n:Int))] (xbi n) (jaP n):=by
 refine .of (zej za5 (Nat.le_of_ble_eq_true rfl) ?_)
 simp -implicitDefEqProofs only [cdA,go_sem,Go.Proofs.Tryz.f213,simprocAttr, -Int.reduceEq,List.cons.injEq,cdB]
 rw [yda]
 refine⟨fun h1=> ?_,fun h1=>⟨fun h2=>⟨h, ?_⟩,fun h2=>⟨fun h3=>⟨h, ?_⟩,fun h3=>⟨h, ?_⟩⟩⟩⟩
 ·rw [if_pos (by omega)];exact⟨[some 0],by simp [go_sem],rfl,rfl⟩
 ·rw [if_neg (by omega),if_pos (by omega)];exact⟨[some 0],by simp [go_sem,u8s],rfl,by simp [jaj]⟩
 ·rw [if_neg (by omega),if_neg (by omega),if_pos (by omega)];exact⟨[some 0],by simp [go_sem,u8s],rfl,by simp [jaj]⟩
 ·rw [if_neg (by omega),if_neg (by omega),if_neg (by omega)];exact⟨[some 0],by simp [go_sem,u8s],rfl,by simp [jaj]⟩
@[go_sem] def bca (n:Nat):Prop:=(n≤18446744073709551615)
def jW:List D→Option (Prop×D×Fr)
 |[.c (.int .u64 z20)]=>some (z20=(z20.toNat:Int)∧bca z20.toNat,xbi z20.toNat,jaP z20.toNat)
 |_=>none
attribute [go_sem] jW
theorem zaV:ga 213 jW:=by
 intro rs p r fr h hp
 unfold jW at h
 split at h<;>cases h
 obtain⟨hc0,hp⟩:=hp
 rename_i z20
 have:=bbN z20.toNat hp
 rw [←hc0]at this
 exact And.intro rfl this
@[go_sem] def qbi (l:List Nat):D:= .sl (u8s (gm l))
@[go_sem] abbrev ydS:FuncId:=149
@[go_sem] def zcb:Tab:=[(213,jW)]
theorem wal:za Tryz.prog zcb:=(za.cons zaV za.nil)
theorem zbO (l:List Nat) (h:l.length≤1000∧∀n∈l,n≤18446744073709551615):ja Tryz.prog 149 [.sl (qo l)] (qbi l):=by
 refine .of (ged wal (Nat.le_of_ble_eq_true rfl) ?_)
 simp -implicitDefEqProofs only [cdA,go_sem,Go.Proofs.Tryz.f149,simprocAttr, -Int.reduceEq,List.cons.injEq,cdB]
 obtain⟨hl,hn⟩:=h
 refine fun _=>SWp.xaa 3 1 5 rfl (Nat.zero_le _) ?_
 refine SWp.loop (ι:={i:Nat // i≤l.length}) (fun i=>⟨[(3, .vec 0 (gm (l.take i.1)).length),(6, .sl (qo l)),(7, .int .i64 l.length),(8, .int .i64 i.1)],[(0, .vec true 1 5 (u8s (gm (l.take i.1))))],1⟩) (fun i=>l.length - i.1) ⟨0,by simp⟩ ?_ ?_
 ·simp [go_sem,gm];rfl
 ·rintro⟨i,hi⟩
  refine ya wal.toS udh _ _ _ rfl ?_
  simp -implicitDefEqProofs only [cdA,go_sem,simprocAttr, -Int.reduceEq,List.cons.injEq,cdB]
  have hs:∀h:i<l.length,gm (l.take (i+1))=gm (l.take i)++wbm (l.getD i default):=fun h=>by rw [jaO h];rfl
  have hle:=qad (l:=l) (i:=i)
  have hle2:=qad (l:=l) (i:=i+1)
  refine⟨fun h1=> ?_,fun h1=> ?_⟩
  ·have h2:=hn _ (va.2 ⟨i,by omega,rfl⟩)
   have h3:=hs (by omega)
   rw [h3,List.length_append]at hle2
   refine⟨h1,h2,by omega,⟨i+1,by omega⟩,by dsimp only;omega,⟨?_,i64_in _ (by omega)⟩, ?_⟩
   ·dsimp only;rw [hs (by omega),List.length_append]
   ·dsimp only;rw [hs (by omega)]
  ·have hi':i=l.length:=by omega
   subst hi'
   rw [List.take_length]
   exact⟨rfl,_,_,_,rfl⟩
@[go_sem] def ycb (l:List Nat):Prop:=(l.length≤1000∧∀n∈l,n≤18446744073709551615)
def bz:List D→Option (Prop×D×Fr)
 |[.c (.sl z21)]=>some (z21=qo (wk z21)∧ycb (wk z21),qbi (wk z21),[])
 |_=>none
attribute [go_sem] bz
theorem uJ:ga 149 bz:=by
 intro rs p r fr h hp
 unfold bz at h
 split at h<;>cases h
 obtain⟨hc0,hp⟩:=hp
 rename_i z21
 have:=zbO (wk z21) hp
 rw [←hc0]at this
 exact this
@[go_sem] def xbQ (c:Cv):D:= .tup [.sl (u8s (qP c)), .int .i64 (ko c)]
@[go_sem] abbrev jeM:FuncId:=147
@[go_sem] def wcI:Tab:=[(212,bt),(149,bz)]
theorem wbu:za Tryz.prog wcI:=(za.cons yG (za.cons uJ za.nil))
theorem zcd (c:Cv) (h:c.a≤18446744073709551615∧c.b≤18446744073709551615):ja Tryz.prog 147 [.agg [.c (.int .i64 c.kind), .c (.int .u64 (c.a:Int)), .c (.int .u64 (c.b:Int))]] (xbQ c):=by
 refine .of (wed wbu (Nat.le_of_ble_eq_true rfl) ?_)
 simp -implicitDefEqProofs only [cdA,go_sem,Go.Proofs.Tryz.f147,simprocAttr, -Int.reduceEq,List.cons.injEq,cdB]
 refine⟨fun h0=> ?_,fun h0=>by rw [qP,if_neg h0,wcj h0];exact⟨rfl,rfl⟩⟩
 have hk:0≤c.kind∧c.kind≤5:=by
  unfold ko at h0
  split at h0
  ·rename_i h1;omega
  ·cases h0
 have hw:IntKind.u64.wrap c.kind=c.kind:=u64_in _ (by omega)
 rw [qP,if_pos h0,hw,h0]
 refine⟨fun h1=>⟨fun n hn=> ?_,by rw [if_pos h1,h1];rfl,rfl⟩,fun h1=>⟨fun n hn=> ?_,by rw [if_neg h1],rfl⟩⟩
 ·simp at hn;omega
 ·simp at hn;omega
@[go_sem] def ucI (c:Cv):Prop:=(c.a≤18446744073709551615∧c.b≤18446744073709551615)
def qag:List D→Option (Prop×D×Fr)
 |[.agg [.c (.int .i64 z23), .c (.int .u64 z24), .c (.int .u64 z25)]]=>some (z24=(z24.toNat:Int)∧z25=(z25.toNat:Int)∧ucI (⟨z23,z24.toNat,z25.toNat⟩:Cv),xbQ (⟨z23,z24.toNat,z25.toNat⟩:Cv),[])
 |_=>none
attribute [go_sem] qag
theorem xba:ga 147 qag:=by
 intro rs p r fr h hp
 unfold qag at h
 split at h<;>cases h
 obtain⟨hc0,hc1,hp⟩:=hp
 rename_i z23 z24 z25
 have:=zcd ⟨z23,z24.toNat,z25.toNat⟩ hp
 rw [←hc0,←hc1]at this
 exact this
@[go_sem] def ybQ (u:Us):D:= .bool (jbA u)
@[go_sem] abbrev qeM:FuncId:=150
@[go_sem] def vcI:Tab:=[]
theorem vbu:za Tryz.prog vcI:=za.nil
theorem bcc (u:Us):ja Tryz.prog 150 [.agg [.c (.int .u64 (u.tick:Int)), .c (.int .i64 u.method), .c (.int .u64 (u.amount:Int)), .c (.int .u64 (u.who:Int))]] (ybQ u):=by
 refine .of (bed vbu (Nat.le_of_ble_eq_true rfl) ?_)
 simp -implicitDefEqProofs only [cdA,go_sem,Go.Proofs.Tryz.f150,simprocAttr, -Int.reduceEq,List.cons.injEq,cdB]
 unfold jbA
 refine⟨fun h1=>⟨fun h2=>decide_eq_decide.2 ⟨fun h=>⟨h1,by omega,by omega⟩,fun h=>by have:=h.2.2;omega⟩,fun h2=>(decide_eq_false fun h=>h2 (by have:=h.2.1;omega)).symm⟩,fun h1=>(decide_eq_false fun h=>h1 h.1).symm⟩
def yX:List D→Option (Prop×D×Fr)
 |[.agg [.c (.int .u64 z27), .c (.int .i64 z28), .c (.int .u64 z29), .c (.int .u64 z30)]]=>some (z27=(z27.toNat:Int)∧z29=(z29.toNat:Int)∧z30=(z30.toNat:Int),ybQ (⟨z27.toNat,z28,z29.toNat,z30.toNat⟩:Us),[])
 |_=>none
attribute [go_sem] yX
theorem wan:ga 150 yX:=by
 intro rs p r fr h hp
 unfold yX at h
 split at h<;>cases h
 obtain⟨hc0,hc1,hc2⟩:=hp
 rename_i z27 z28 z29 z30
 have:=bcc ⟨z27.toNat,z28,z29.toNat,z30.toNat⟩
 rw [←hc0,←hc1,←hc2]at this
 exact this
@[go_sem] def wbP (n:Nat) (k:Int):D:= .bool (decide (n / 2^k.toNat % 2=1))
@[go_sem] abbrev yeM:FuncId:=214
@[go_sem] def qcI:Tab:=[]
theorem wax:za Tryz.prog qcI:=za.nil
theorem ucc (n:Nat) (k:Int) (h:0≤k∧k≤64∧n≤18446744073709551615):ja Tryz.prog 214 [.c (.int .u64 (n:Int)), .c (.int .i64 k)] (wbP n k):=by
 refine .of (yej wax (Nat.le_of_ble_eq_true rfl) ?_)
 simp -implicitDefEqProofs only [cdA,go_sem,Go.Proofs.Tryz.f214,simprocAttr, -Int.reduceEq,List.cons.injEq,cdB]
 obtain⟨h0,h1,hn⟩:=h
 refine SWp.loop (ι:={i:Nat // (i:Int)≤k}) (fun i=>⟨[(0, .c (.int .u64 (n / 2^i.1:Nat))),(5, .c (.int .i64 k)),(6, .int .i64 i.1)],[],0⟩) (fun i=>k.toNat - i.1) ⟨0,by omega⟩ ?_ ?_
 ·simp [go_sem]
 ·rintro⟨i,hi⟩
  refine ya wax.toS udj _ _ _ rfl ?_
  simp -implicitDefEqProofs only [cdA,go_sem,simprocAttr, -Int.reduceEq,List.cons.injEq,cdB]
  have hle:n / 2^i≤18446744073709551615:=Nat.le_trans (Nat.div_le_self _ _) hn
  refine⟨fun h=>⟨by decide,⟨i+1,by omega⟩,by dsimp only;omega, ?_,i64_in _ (by omega)⟩,fun h=>⟨by decide, ?_⟩⟩
  ·have e:n / 2^i / 2=n / 2^(i+1):=by rw [Nat.div_div_eq_div_mul,Nat.pow_succ]
   dsimp only
   rw [←e]
   generalize n / 2^i=m at*
   rw [Int.tdiv_eq_ediv_of_nonneg (Int.natCast_nonneg m),u64_in _ (by omega)];omega
  ·have hik:k.toNat=i:=by omega
   rw [hik]
   generalize n / 2^i=m at*
   rw [Int.tmod_eq_emod_of_nonneg (Int.natCast_nonneg m)]
   exact decide_eq_decide.2 ⟨fun h=>by omega,fun h=>by omega⟩
@[go_sem] def jcI (n:Nat) (k:Int):Prop:=(0≤k∧k≤64∧n≤18446744073709551615)
def xag:List D→Option (Prop×D×Fr)
 |[.c (.int .u64 z31), .c (.int .i64 z32)]=>some (z31=(z31.toNat:Int)∧jcI z31.toNat z32,wbP z31.toNat z32,[])
 |_=>none
attribute [go_sem] xag
theorem yba:ga 214 xag:=by
 intro rs p r fr h hp
 unfold xag at h
 split at h<;>cases h
 obtain⟨hc0,hp⟩:=hp
 rename_i z31 z32
 have:=ucc z31.toNat z32 hp
 rw [←hc0]at this
 exact this
@[go_sem] def vaQ (c:Cv) (u:Us):D:= .tup [.bool (uo c u).1, .int .i64 (uo c u).2]
@[go_sem] abbrev bdn:FuncId:=151
@[go_sem] def bbP:Tab:=[(212,bt),(150,yX),(214,xag)]
theorem kaQ:za Tryz.prog bbP:=(za.cons yG (za.cons wan (za.cons yba za.nil)))
theorem kbu (c:Cv) (u:Us) (h:c.a≤18446744073709551615):ja Tryz.prog 151 [.agg [.c (.int .i64 c.kind), .c (.int .u64 (c.a:Int)), .c (.int .u64 (c.b:Int))], .agg [.c (.int .u64 (u.tick:Int)), .c (.int .i64 u.method), .c (.int .u64 (u.amount:Int)), .c (.int .u64 (u.who:Int))]] (vaQ c u):=by
 refine .of (zee kaQ (Nat.le_of_ble_eq_true rfl) ?_)
 simp -implicitDefEqProofs only [cdA,go_sem,Go.Proofs.Tryz.f151,simprocAttr, -Int.reduceEq,List.cons.injEq,cdB]
 have hbad:¬(ko c=0∧jbA u=true)→false=(uo c u).1∧1=(uo c u).2:=fun h=>by rw [uo,if_neg h];exact⟨rfl,rfl⟩
 refine⟨fun h1=>⟨fun h2=> ?_,fun h2=>hbad fun h=>by rw [h2]at h;exact absurd h.2 (by decide)⟩,fun h1=>hbad fun h=>h1 h.1⟩
 have hfin:uo c u=(gn c u,0):=by rw [uo,if_pos ⟨h1,h2⟩]
 have hu:=of_decide_eq_true h2
 rw [hfin]
 unfold gn
 have hks:c.kind=3∨c.kind=4∨c.kind=1∨c.kind=2∨c.kind=5:=by
  unfold ko at h1
  split at h1
  ·rename_i h;omega
  ·cases h1
 refine⟨fun k1=> ?_,fun k1=>⟨fun k2=>⟨⟨hu.1,by omega,h⟩, ?_⟩,fun k2=>⟨fun k5=> ?_,fun k5=> ?_⟩⟩⟩
 ·rw [if_pos k1];exact⟨by rw [decide_eq_decide];omega,rfl⟩
 ·rw [if_neg k1,if_pos k2];exact⟨rfl,rfl⟩
 ·rw [if_neg k1,if_neg k2,if_neg (by omega)];exact⟨by rw [decide_eq_decide];omega,rfl⟩
 ·rw [if_neg k1,if_neg k2,if_pos (by omega)];exact⟨by rw [decide_eq_decide];omega,rfl⟩
@[go_sem] def zbQ (c:Cv) (u:Us):Prop:=(c.a≤18446744073709551615)
def uN:List D→Option (Prop×D×Fr)
 |[.agg [.c (.int .i64 z34), .c (.int .u64 z35), .c (.int .u64 z36)], .agg [.c (.int .u64 z38), .c (.int .i64 z39), .c (.int .u64 z40), .c (.int .u64 z41)]]=>some (z35=(z35.toNat:Int)∧z36=(z36.toNat:Int)∧z38=(z38.toNat:Int)∧z40=(z40.toNat:Int)∧z41=(z41.toNat:Int)∧zbQ (⟨z34,z35.toNat,z36.toNat⟩:Cv) (⟨z38.toNat,z39,z40.toNat,z41.toNat⟩:Us),vaQ (⟨z34,z35.toNat,z36.toNat⟩:Cv) (⟨z38.toNat,z39,z40.toNat,z41.toNat⟩:Us),[])
 |_=>none
attribute [go_sem] uN
theorem vaF:ga 151 uN:=by
 intro rs p r fr h hp
 unfold uN at h
 split at h<;>cases h
 obtain⟨hc0,hc1,hc2,hc3,hc4,hp⟩:=hp
 rename_i z34 z35 z36 z38 z39 z40 z41
 have:=kbu ⟨z34,z35.toNat,z36.toNat⟩ ⟨z38.toNat,z39,z40.toNat,z41.toNat⟩ hp
 rw [←hc0,←hc1,←hc2,←hc3,←hc4]at this
 exact this
@[go_sem] def vbP (l:List Cv) (u:Us):D:= .tup [.bool (kao l u).1, .int .i64 (kao l u).2]
@[go_sem] abbrev zeM:FuncId:=74
@[go_sem] def ycI:Tab:=[(151,uN),(150,yX)]
theorem vax:za Tryz.prog ycI:=(za.cons vaF (za.cons wan za.nil))
theorem wcc (l:List Cv) (u:Us) (h:∀c∈l,c.a≤18446744073709551615):ja Tryz.prog 74 [.sl (cvs l), .agg [.c (.int .u64 (u.tick:Int)), .c (.int .i64 u.method), .c (.int .u64 (u.amount:Int)), .c (.int .u64 (u.who:Int))]] (vbP l u):=by
 refine .of (vfo vax (Nat.le_of_ble_eq_true rfl) ?_)
 simp -implicitDefEqProofs only [cdA,go_sem,Go.Proofs.Tryz.f74,simprocAttr, -Int.reduceEq,List.cons.injEq,cdB]
 have hbad:¬(l.length≤16∧jbA u=true∧∀c∈l,ko c=0)→false=(kao l u).1∧1=(kao l u).2:=fun h=>by rw [kao,if_neg h];exact⟨rfl,rfl⟩
 refine fun _=>⟨fun h1=>⟨fun h2 _=> ?_,fun h2=>hbad fun h=>by rw [h2]at h;exact absurd h.2.1 (by decide)⟩,fun h1=>hbad fun h=>by have:=h.1;omega⟩
 refine SWp.loop (ι:={i:Nat // i≤l.length∧∀j,j<i→ko (l.getD j default)=0}) (fun i=>⟨[(3, .ref 0 0),(6, .bool ((l.take i.1).all fun c=>gn c u)),(19, .sl (cvs l)),(20, .int .i64 l.length),(21, .int .i64 i.1)],
  [(0, .box [.c (.int .u64 u.tick), .c (.int .i64 u.method), .c (.int .u64 u.amount), .c (.int .u64 u.who)])],1⟩) (fun i=>l.length - i.1) ⟨0,by simp⟩ ?_ ?_
 ·simp [go_sem]
 ·rintro⟨i,hi,hall⟩
  refine ya vax.toS ge9 _ _ _ rfl ?_
  simp -implicitDefEqProofs only [cdA,go_sem,simprocAttr, -Int.reduceEq,List.cons.injEq,cdB]
  have hh:ko (l.getD i default)=0→uo (l.getD i default) u=(gn (l.getD i default) u,0):=fun h=>by rw [uo,if_pos ⟨h,h2⟩]
  have hh1:(uo (l.getD i default) u).2=0→ko (l.getD i default)=0:=fun h=>by
   unfold uo at h
   split at h
   ·rename_i h3;exact h3.1
   ·cases h
  refine⟨fun h3=>⟨h3,h _ (va.2 ⟨i,by omega,rfl⟩),fun h4=> ?_,fun h4=> ?_⟩,fun h3=> ?_⟩
  ·have hi':i<l.length:=by omega
   have hc:=hh1 h4
   have htk:=take_succ hi'
   have hnx:∀j,j<i+1→ko (l.getD j default)=0:=fun j hj=>by
    by_cases hji:j=i
    ·subst hji;exact hc
    ·exact hall j (by omega)
   refine⟨fun h5=>⟨⟨i+1,hi',hnx⟩,by dsimp only;omega, ?_,i64_in _ (by omega)⟩,fun h5=>⟨⟨i+1,hi',hnx⟩,by dsimp only;omega, ?_,i64_in _ (by omega)⟩⟩
   ·dsimp only;rw [htk,List.all_append,h5,hh hc];simp
   ·dsimp only;rw [htk,List.all_append,h5];rfl
  ·have hc:¬ko (l.getD i default)=0:=fun h=>h4 (by rw [hh h])
   have e:uo (l.getD i default) u=(false,1):=by rw [uo,if_neg fun h=>hc h.1]
   rw [e]
   exact hbad fun h=>hc (h.2.2 _ (va.2 ⟨i,by omega,rfl⟩))
  ·have hi':i=l.length:=by omega
   subst hi'
   have:kao l u=(l.all fun c=>gn c u,0):=by
    rw [kao,if_pos ⟨by omega,h2,fun c hc=>by obtain⟨j,hj,rfl⟩:=va.1 hc;exact hall j hj⟩]
   rw [this,List.take_length];exact⟨rfl,rfl⟩
@[go_sem] def xcI (l:List Cv) (u:Us):Prop:=(∀c∈l,c.a≤18446744073709551615)
def yag:List D→Option (Prop×D×Fr)
 |[.c (.sl z42), .agg [.c (.int .u64 z44), .c (.int .i64 z45), .c (.int .u64 z46), .c (.int .u64 z47)]]=>some (z42=cvs (uc z42)∧z44=(z44.toNat:Int)∧z46=(z46.toNat:Int)∧z47=(z47.toNat:Int)∧xcI (uc z42) (⟨z44.toNat,z45,z46.toNat,z47.toNat⟩:Us),vbP (uc z42) (⟨z44.toNat,z45,z46.toNat,z47.toNat⟩:Us),[])
 |_=>none
attribute [go_sem] yag
theorem zba:ga 74 yag:=by
 intro rs p r fr h hp
 unfold yag at h
 split at h<;>cases h
 obtain⟨hc0,hc1,hc2,hc3,hp⟩:=hp
 rename_i z42 z44 z45 z46 z47
 have:=wcc (uc z42) ⟨z44.toNat,z45,z46.toNat,z47.toNat⟩ hp
 rw [←hc0,←hc1,←hc2,←hc3]at this
 exact this
@[go_sem] def uaQ (t:Tk):D:= .int .i64 (yac t)
@[go_sem] abbrev zdo:FuncId:=141
@[go_sem] def jbQ:Tab:=[(145,vN)]
theorem waQ:za Tryz.prog jbQ:=(za.cons kR za.nil)
theorem ubu (t:Tk):ja Tryz.prog 141 [.agg [.c (.int .u64 (t.root:Int)), .sl (cvs t.l), .c (.int .i64 t.tag)]] (uaQ t):=by
 refine .of (xed waQ (Nat.le_of_ble_eq_true rfl) ?_)
 simp -implicitDefEqProofs only [cdA,go_sem,Go.Proofs.Tryz.f141,simprocAttr, -Int.reduceEq,List.cons.injEq,cdB]
 have hbad:¬vaY t→1=yac t:=fun h=>by rw [yac,if_neg h]
 refine⟨fun h1=>⟨fun h2=>⟨fun h3=>hbad fun h=>by have:=h.2.2.1;omega,fun h3=> ?_⟩,fun h2=>hbad fun h=>by have:=h.2.1;omega⟩,fun h1=>hbad fun h=>h1 ⟨h.1,List.all_eq_true.2 fun c hc=>decide_eq_true (h.2.2.2 c hc)⟩⟩
 rw [yac,if_pos ⟨h1.1,by omega,by omega,fun c hc=>of_decide_eq_true (List.all_eq_true.1 h1.2 c hc)⟩]
def zA:List D→Option (Prop×D×Fr)
 |[.agg [.c (.int .u64 z49), .c (.sl z50), .c (.int .i64 z51)]]=>some (z49=(z49.toNat:Int)∧z50=cvs (uc z50),uaQ (⟨z49.toNat,(uc z50),z51⟩:Tk),[])
 |_=>none
attribute [go_sem] zA
theorem xX:ga 141 zA:=by
 intro rs p r fr h hp
 unfold zA at h
 split at h<;>cases h
 obtain⟨hc0,hc1⟩:=hp
 rename_i z49 z50 z51
 have:=ubu ⟨z49.toNat,(uc z50),z51⟩
 rw [←hc0,←hc1]at this
 exact this
@[go_sem] def gbi (a:Ar) (key:Nat) (text:List UInt8) (ts:List (List UInt8)):D:= .tup [.int .i64 (ku a.l key text ts).1, .int .i64 (ku a.l key text ts).2]
@[go_sem] abbrev wdS:FuncId:=148
@[go_sem] def ycc:Tab:=[(87,qn),(172,vt)]
theorem zR:za Tryz.prog ycc:=(za.cons ur (za.cons zG za.nil))
theorem zbP (a:Ar) (key:Nat) (text:List UInt8) (ts:List (List UInt8)) (h:ts.length≤1000):ja Tryz.prog 148 [.agg [.sl (tms a.l)], .c (.int .u64 (key:Int)), .sl (u8s text), .sl (ve ts)] (gbi a key text ts):=by
 refine .of (ued zR (Nat.le_of_ble_eq_true rfl) ?_)
 simp -implicitDefEqProofs only [cdA,go_sem,Go.Proofs.Tryz.f148,simprocAttr, -Int.reduceEq,List.cons.injEq,cdB]
 have hrz:ym a.l=0↔kH a.l:=by unfold ym zn;split<;>rename_i h<;>simp only [h]<;>decide
 refine⟨fun h0=>⟨by omega,fun _=> ?_⟩,fun h0=>by rw [ku,if_pos fun h=>h0 (hrz.2 h)];exact⟨rfl,rfl⟩⟩
 have hok:=hrz.1 h0
 refine SWp.loop (ι:={i:Nat // i≤(text::ts).length∧∀j,j<i→((text::ts).getD j default).length≤4096}) (fun i=>⟨[(1, .c (.int .u64 key)),(2, .sl (u8s text)),(3, .sl (ve ts)),(4, .ref 0 0),(21, .vec 1 (1+ts.length)),(22, .int .i64 (1+ts.length)),(23, .int .i64 i.1)],[(1, .vec true 1 81 (ve (text::ts))),(0, .box [.sl (tms a.l)])],2⟩) (fun i=>(text::ts).length - i.1) ⟨0,by simp,fun j hj=>absurd hj (by omega)⟩ ?_ ?_
 ·simp [go_sem]
 ·rintro⟨i,hi,hall⟩
  refine ya zR.toS ycC _ _ _ rfl ?_
  simp -implicitDefEqProofs only [cdA,go_sem,simprocAttr, -Int.reduceEq,List.cons.injEq,cdB]
  have hmem:∀x:List UInt8,x∈text::ts→∃j,j<(text::ts).length∧(text::ts).getD j default=x:=fun x hx=>va.1 hx
  refine⟨fun h2=>⟨h2,⟨by omega,by omega⟩,fun _=>⟨fun h3=> ?_,fun h3=>⟨⟨i+1,by simp;omega,fun j hj=> ?_⟩,by dsimp only;omega,i64_in _ (by omega)⟩⟩⟩,fun h2 _=> ?_⟩
  ·have hi':i<(text::ts).length:=by simp;omega
   have hm:=va.2 ⟨i,hi',rfl⟩
   rw [ku,if_neg (fun h=>h hok),if_pos]
   ·exact⟨rfl,rfl⟩
   ·rcases List.mem_cons.1 hm with e|hm
    ·left;rw [←e];omega
    ·exact .inr ⟨_,hm,by omega⟩
  ·by_cases hji:j=i
   ·subst hji;omega
   ·exact hall j (by omega)
  have hi':i=(text::ts).length:=by simp at hi⊢;omega
  subst hi'
  have hshort:¬(4096<text.length∨∃x∈ts,4096<x.length):=by
   rintro(h|⟨x,hx,h⟩)
   ·have:=hall 0 (by simp);simp at this;omega
   ·obtain⟨j,hj,e⟩:=hmem x (List.mem_cons_of_mem _ hx)
    have:=hall j hj;rw [e]at this;omega
  have hsome:∀v,ubb a.l key text ts=some v→ku a.l key text ts=(v,0):=fun v hv=>by
   rw [ku,if_neg (fun h=>h hok),if_neg hshort,show goA (bkA a.l) (alk (key, -1,text) (bkA a.l)) ts=some v from hv]
  have hnone:ubb a.l key text ts=none→ku a.l key text ts=(0,5):=fun hv=>by
   rw [ku,if_neg (fun h=>h hok),if_neg hshort,show goA (bkA a.l) (alk (key, -1,text) (bkA a.l)) ts=none from hv]
  have hpl:∀k:NK,jm a.l k=(alk k (bkA a.l)).getD (-1):=fun k=>by unfold jm;cases alk k (bkA a.l)<;>rfl
  have hge:∀{ts:List (List UInt8)} {v:Int},ubb a.l key text ts=some v→0≤v:=fun h=>(jdz hok h).1
  rw [hpl]
  refine SWp.loop (ι:={i:Nat // i≤ts.length}) (fun i=>⟨[(4, .ref 0 0),(12, .int .i64 ((ubb a.l key text (ts.take i.1)).getD (-1))),(37, .sl (ve ts)),(38, .int .i64 ts.length),(39, .int .i64 i.1)],[(0, .box [.sl (tms a.l)])],2⟩) (fun i=>ts.length - i.1) ⟨0,by simp⟩ ?_ ?_
  ·simp [go_sem,ubb]
   rw [show nmT ⟨key, -1,text⟩=(key, -1,text)from rfl]
   cases alk (key, -1,text) (bkA a.l)<;>rfl
  ·rintro⟨i,hi⟩
   refine ya zR.toS ycC _ _ _ rfl ?_
   simp -implicitDefEqProofs only [cdA,go_sem,simprocAttr, -Int.reduceEq,List.cons.injEq,cdB]
   have hstep:i<ts.length→ubb a.l key text (ts.take (i+1))=goA (bkA a.l) (ubb a.l key text (ts.take i)) [ts.getD i default]:=fun h=>by rw [take_succ h,ucP]
   cases ho:ubb a.l key text (ts.take i)with
   |none=>
    refine⟨fun h3=>⟨h3,fun h4=>absurd h4 (by decide),fun _=>⟨⟨i+1,by omega⟩,by dsimp only;omega, ?_,i64_in _ (by omega)⟩⟩,fun h3=> ?_⟩
    ·dsimp only;rw [hstep (by omega),ho,yo]
    ·have hi':i=ts.length:=by omega
     subst hi'
     rw [List.take_length]at ho
     rw [hnone ho]
     exact⟨fun _=>⟨rfl,rfl⟩,fun h=>absurd (show(-1:Int)<0 by decide) h⟩
   |some at1=>
    have h1:=hge ho
    refine⟨fun h3=>⟨h3,fun _=>⟨⟨i+1,by omega⟩,by dsimp only;omega, ?_,i64_in _ (by omega)⟩,fun h4=>absurd h1 h4⟩,fun h3=> ?_⟩
    ·dsimp only
     rw [hstep (by omega),ho,hpl,goA]
     show(alk (0,at1,ts.getD i default) (bkA a.l)).getD (-1)=_
     cases alk (0,at1,ts.getD i default) (bkA a.l)<;>rfl
    ·have hi':i=ts.length:=by omega
     subst hi'
     rw [List.take_length]at ho
     rw [hsome _ ho]
     exact⟨fun h=>absurd h (by show¬at1<0;omega),fun _=>⟨rfl,rfl⟩⟩
@[go_sem] def xcc (a:Ar) (key:Nat) (text:List UInt8) (ts:List (List UInt8)):Prop:=(ts.length≤1000)
def uW:List D→Option (Prop×D×Fr)
 |[.agg [.c (.sl z53)], .c (.int .u64 z54), .c (.sl z55), .c (.sl z56)]=>some (z53=tms (qb z53)∧z54=(z54.toNat:Int)∧z55=u8s (vf z55)∧z56=ve (bB z56)∧xcc (⟨(qb z53)⟩:Ar) z54.toNat (vf z55) (bB z56),gbi (⟨(qb z53)⟩:Ar) z54.toNat (vf z55) (bB z56),[])
 |_=>none
attribute [go_sem] uW
theorem jaV:ga 148 uW:=by
 intro rs p r fr h hp
 unfold uW at h
 split at h<;>cases h
 obtain⟨hc0,hc1,hc2,hc3,hp⟩:=hp
 rename_i z53 z54 z55 z56
 have:=zbP ⟨(qb z53)⟩ z54.toNat (vf z55) (bB z56) hp
 rw [←hc0,←hc1,←hc2,←hc3]at this
 exact this
@[go_sem] def gax (a:Ar) (key:Nat) (t:Tk):D:= .tup [.bool (yas a.l key t).1, .int .i64 (yas a.l key t).2]
@[go_sem] abbrev gc1:FuncId:=73
@[go_sem] def zbv:Tab:=[(141,zA),(87,qn),(147,qag),(148,uW),(149,bz)]
theorem kD:za Tryz.prog zbv:=(za.cons xX (za.cons ur (za.cons xba (za.cons jaV (za.cons uJ za.nil)))))
theorem za6 (a:Ar) (key:Nat) (t:Tk) (h:t.root≤18446744073709551615∧∀c∈t.l,c.a≤18446744073709551615∧c.b≤18446744073709551615):ja Tryz.prog 73 [.agg [.sl (tms a.l)], .c (.int .u64 (key:Int)), .agg [.c (.int .u64 (t.root:Int)), .sl (cvs t.l), .c (.int .i64 t.tag)]] (gax a key t):=by
 refine .of (kfo kD (Nat.le_of_ble_eq_true rfl) ?_)
 simp -implicitDefEqProofs only [cdA,go_sem,Go.Proofs.Tryz.f73,simprocAttr, -Int.reduceEq,List.cons.injEq,cdB]
 obtain⟨hr,hc⟩:=h
 have hbad:(¬vaY t∨¬kH a.l)→false=(yas a.l key t).1∧1=(yas a.l key t).2:=fun h=>by rw [yas,if_pos h];exact⟨rfl,rfl⟩
 have hrz:ym a.l=0↔kH a.l:=by unfold ym zn;split<;>rename_i h<;>simp only [h]<;>decide
 refine⟨fun h1=>⟨fun h2 _=> ?_,fun h2=>hbad (.inr fun h=>h2 (hrz.2 h))⟩,fun h1=>hbad (.inl fun h=>h1 (gdu.2 h))⟩
 have ht:=gdu.1 h1
 have hok:=hrz.1 h2
 have ht16:=ht.1
 have hfin:yas a.l key t=(decide ((ku a.l key (gm [t.root]) (t.l.map qP)).2=0∧(ku a.l key (gm [t.root]) (t.l.map qP)).1=t.tag),0):=by
  rw [yas,if_neg]
  rintro(h|h)
  ·exact h ht
  ·exact h hok
 rw [hfin]
 refine SWp.xaa 8 1 81 rfl (Nat.zero_le _) ?_
 refine SWp.loop (ι:={i:Nat // i≤t.l.length}) (fun i=>⟨[(8, .vec 2 i.1),(1, .c (.int .u64 key)),(3, .ref 0 0),(5, .ref 1 0),(24, .sl (cvs t.l)),(25, .int .i64 t.l.length),(26, .int .i64 i.1)],[(2, .vec true 1 81 (ve ((t.l.map qP).take i.1))),(1, .box [.c (.int .u64 t.root), .sl (cvs t.l), .c (.int .i64 t.tag)]),(0, .box [.sl (tms a.l)])],3⟩) (fun i=>t.l.length - i.1) ⟨0,by simp⟩ ?_ ?_
 ·simp [go_sem];rfl
 ·rintro⟨i,hi⟩
  refine ya kD.toS ue9 _ _ _ rfl ?_
  simp -implicitDefEqProofs only [cdA,go_sem,simprocAttr, -Int.reduceEq,List.cons.injEq,cdB]
  have hml:(t.l.map qP).length=t.l.length:=List.length_map _
  refine⟨fun h3=>⟨h3,hc _ (va.2 ⟨i,by omega,rfl⟩),⟨by rw [List.length_take];omega,by rw [List.length_take];omega⟩,⟨i+1,by omega⟩,by dsimp only;omega,⟨rfl,i64_in _ (by omega)⟩, ?_⟩,fun h3=> ?_⟩
  ·dsimp only
   have hi':i<t.l.length:=by omega
   rw [List.take_succ_eq_append_getElem (by omega),xe hi',List.getElem_map]
  have hi':i=t.l.length:=by omega
  subst hi'
  rw [List.take_of_length_le (by omega)]
  refine SWp.wfr 8 rfl rfl (by simp [ve]) ?_
  simp -implicitDefEqProofs only [cdA,go_sem,simprocAttr, -Int.reduceEq,List.cons.injEq,cdB]
  refine xb.run qcP kD qa (by kernel_rfl) (by kernel_rfl) ?_
  simp -implicitDefEqProofs only [cdA,go_sem,simprocAttr, -Int.reduceEq,List.cons.injEq,cdB]
  refine⟨fun n hn=> ?_,by omega,fun h4=>decide_eq_decide.2 ⟨fun h=>⟨h4,h⟩,fun h=>h.2⟩,fun h4=>(decide_eq_false fun h=>h4 h.1).symm⟩
  simp at hn;omega
@[go_sem] def ybv (a:Ar) (key:Nat) (t:Tk):Prop:=(t.root≤18446744073709551615∧∀c∈t.l,c.a≤18446744073709551615∧c.b≤18446744073709551615)
def xG:List D→Option (Prop×D×Fr)
 |[.agg [.c (.sl z58)], .c (.int .u64 z59), .agg [.c (.int .u64 z61), .c (.sl z62), .c (.int .i64 z63)]]=>some (z58=tms (qb z58)∧z59=(z59.toNat:Int)∧z61=(z61.toNat:Int)∧z62=cvs (uc z62)∧ybv (⟨(qb z58)⟩:Ar) z59.toNat (⟨z61.toNat,(uc z62),z63⟩:Tk),gax (⟨(qb z58)⟩:Ar) z59.toNat (⟨z61.toNat,(uc z62),z63⟩:Tk),[])
 |_=>none
attribute [go_sem] xG
theorem gar:ga 73 xG:=by
 intro rs p r fr h hp
 unfold xG at h
 split at h<;>cases h
 obtain⟨hc0,hc1,hc2,hc3,hp⟩:=hp
 rename_i z58 z59 z61 z62 z63
 have:=za6 ⟨(qb z58)⟩ z59.toNat ⟨z61.toNat,(uc z62),z63⟩ hp
 rw [←hc0,←hc1,←hc2,←hc3]at this
 exact this
@[go_sem] def zax (a:List It) (b:List It):D:= .bool (decide (a=b))
@[go_sem] abbrev qc1:FuncId:=210
@[go_sem] def bbs:Tab:=[]
theorem xD:za Tryz.prog bbs:=za.nil
theorem wa4 (a:List It) (b:List It):ja Tryz.prog 210 [.sl (its a), .sl (its b)] (zax a b):=by
 refine .of (uei xD (Nat.le_of_ble_eq_true rfl) ?_)
 simp -implicitDefEqProofs only [cdA,go_sem,Go.Proofs.Tryz.f210,simprocAttr, -Int.reduceEq,List.cons.injEq,cdB]
 refine fun ha hb=>⟨fun hl _=> ?_,fun h=> ?_⟩
 ·refine SWp.loop (ι:={i:Nat // i≤a.length∧a.take i=b.take i}) (fun i=>⟨[(0, .sl (its a)),(1, .sl (its b)),(12, .int .i64 a.length),(13, .int .i64 i.1)],[],0⟩) (fun i=>a.length - i.1) ⟨0,by simp⟩ ?_ ?_
  ·simp [go_sem]
  ·rintro⟨i,hi,hab⟩
   refine ya xD.toS vdj _ _ _ rfl ?_
   simp -implicitDefEqProofs only [cdA,go_sem,simprocAttr, -Int.reduceEq,List.cons.injEq,cdB]
   refine⟨fun h=> ?_,fun h=> ?_⟩
   ·refine xb.run xcO xD qa (by kernel_rfl) (by kernel_rfl) ?_
    simp -implicitDefEqProofs only [cdA,go_sem,simprocAttr, -Int.reduceEq,List.cons.injEq,cdB]
    have h1:i<a.length:=by omega
    have h2:i<b.length:=by omega
    have ht:=wG h1 h2 hab
    refine⟨by omega,by omega,fun he=>⟨⟨i+1,h1,ht.2 he⟩,by dsimp only;omega,i64_in _ (by omega)⟩,fun he=> ?_⟩
    rw [eq_comm,decide_eq_false_iff_not]
    rintro rfl
    exact he rfl
   ·have e:i=a.length:=by omega
    have:a=b:=by
     rw [e,List.take_length]at hab
     rw [hab,List.take_of_length_le (by omega)]
    simp [this]
 ·have:a≠b:=by rintro rfl;exact h rfl
  simp [this]
def wF:List D→Option (Prop×D×Fr)
 |[.c (.sl z64), .c (.sl z65)]=>some (z64=its (zk z64)∧z65=its (zk z65),zax (zk z64) (zk z65),[])
 |_=>none
attribute [go_sem] wF
theorem jar:ga 210 wF:=by
 intro rs p r fr h hp
 unfold wF at h
 split at h<;>cases h
 obtain⟨hc0,hc1⟩:=hp
 rename_i z64 z65
 have:=wa4 (zk z64) (zk z65)
 rw [←hc0,←hc1]at this
 exact this
@[go_sem] def ybi (l:List It):D:= .tup [.int .u64 ((jah l).1:Int), .int .i64 (jah l).2]
@[go_sem] abbrev bdR:FuncId:=144
@[go_sem] def uca:Tab:=[(211,yx)]
theorem gQ:za Tryz.prog uca:=(za.cons wv za.nil)
theorem ubN (l:List It):ja Tryz.prog 144 [.sl (its l)] (ybi l):=by
 refine .of (jed gQ (Nat.le_of_ble_eq_true rfl) ?_)
 simp -implicitDefEqProofs only [cdA,go_sem,Go.Proofs.Tryz.f144,simprocAttr, -Int.reduceEq,List.cons.injEq,cdB]
 refine fun _=>⟨fun h0 _=>⟨fun h1=> ?_,fun h1 _=> ?_⟩,fun h0=> ?_⟩
 ·rw [jah,if_neg fun h=>by have:=h.2.1;omega];exact⟨rfl,rfl⟩
 rotate_left 1
 ·rw [jah,if_neg fun h=>h.1 (by omega)];exact⟨rfl,rfl⟩
 refine SWp.xaa 4 1 23 rfl (Nat.zero_le _) ?_
 refine SWp.loop (ι:={i:Nat // i≤l.length∧∀j,j<i→¬(l.getD j default).n=0}) (fun i=>⟨[(4, .vec 0 i.1),(15, .sl (its l)),(16, .int .i64 l.length),(17, .int .i64 i.1)],[(0, .vec true 1 23 (qo ((l.map It.n).take i.1)))],1⟩) (fun i=>l.length - i.1) ⟨0,by simp⟩ ?_ ?_
 ·simp [go_sem];rfl
 ·rintro⟨i,hi,hall⟩
  by_cases hlt:i<l.length
  ·have hb:((i:Int)<(l.length:Int))=True:=eq_true (by omega)
   refine ya gQ.toS zcC _ _ _ rfl ?_
   simp -implicitDefEqProofs only [cdA,go_sem,hb,cdN,simprocAttr, -Int.reduceEq,List.cons.injEq,cdB]
   have hml:(l.map It.n).length=l.length:=List.length_map _
   refine⟨fun h2=> ?_,fun h2=>⟨⟨by rw [List.length_take];omega,by rw [List.length_take];omega⟩,⟨i+1,hlt,fun j hj=> ?_⟩,by dsimp only;omega,⟨rfl,i64_in _ (by omega)⟩, ?_⟩⟩
   ·have hz:jah l=(0,1):=by
     rw [jah,if_neg]
     rintro⟨_,_,h⟩
     exact(h _ (va.2 ⟨i,hlt,rfl⟩)).1 (by omega)
    rw [hz];exact⟨rfl,rfl⟩
   ·by_cases hji:j=i
    ·subst hji;omega
    ·exact hall j (by omega)
   ·dsimp only
    rw [List.take_succ_eq_append_getElem (by omega),xe hlt,List.getElem_map]
  ·have hi':i=l.length:=by omega
   subst hi'
   have hb:((l.length:Int)<(l.length:Int))=False:=eq_false (by omega)
   have ht:(l.map It.n).take l.length=l.map It.n:=List.take_of_length_le (by rw [List.length_map];exact Nat.le_refl _)
   refine ya gQ.toS zcC _ _ _ rfl ?_
   simp -implicitDefEqProofs only [cdA,go_sem,hb,ht,List.length_map,cdN,simprocAttr, -Int.reduceEq,List.cons.injEq,cdB]
   have hs:uR (l.map It.n)=jah l:=by
    have h16:l.length≠0∧l.length≤16:=by omega
    by_cases hm:∀x∈l,x.n≤MM
    ·have h2:bO (l.map It.n)=0:=by
      rw [bO,if_pos]
      refine List.all_eq_true.2 fun n hn=> ?_
      obtain⟨x,hx,rfl⟩:=List.mem_map.1 hn
      exact decide_eq_true (hm x hx)
     have h3:l.length≠0∧l.length≤16∧∀x∈l,ycE x:=⟨h16.1,h16.2,fun x hx=>⟨by obtain⟨j,hj,rfl⟩:=va.1 hx;exact hall j hj,hm x hx⟩⟩
     rw [uR,if_pos h2]
     unfold jah
     rw [if_pos h3]
     rfl
    ·have h2:¬bO (l.map It.n)=0:=fun h=>hm fun x hx=>by
      unfold bO at h
      split at h
      ·rename_i h3
       exact of_decide_eq_true (List.all_eq_true.1 h3 _ (List.mem_map.2 ⟨x,hx,rfl⟩))
      ·cases h
     rw [uR,if_neg h2,jah,if_neg fun h=>hm fun x hx=>(h.2.2 x hx).2]
   rw [hs]
   exact⟨rfl,rfl⟩
def wJ:List D→Option (Prop×D×Fr)
 |[.c (.sl z66)]=>some (z66=its (zk z66),ybi (zk z66),[])
 |_=>none
attribute [go_sem] wJ
theorem yab:ga 144 wJ:=by
 intro rs p r fr h hp
 unfold wJ at h
 split at h<;>cases h
 have hc0:=hp
 rename_i z66
 have:=ubN (zk z66)
 rw [←hc0]at this
 exact this
end Dm
namespace Dm
open Go Go.Proofs Go.IntWalk
attribute [go_sem] Cv.eqD
@[go_sem] def ybj (a:List Cv) (b:List Cv):D:= .bool (decide (a=b))
@[go_sem] abbrev bdS:FuncId:=81
@[go_sem] def ycd:Tab:=[]
theorem yR:za Tryz.prog ycd:=za.nil
theorem qbQ (a:List Cv) (b:List Cv):ja Tryz.prog 81 [.sl (cvs a), .sl (cvs b)] (ybj a b):=by
 refine .of (yfp yR (Nat.le_of_ble_eq_true rfl) ?_)
 simp -implicitDefEqProofs only [cdA,go_sem,Go.Proofs.Tryz.f81,simprocAttr, -Int.reduceEq,List.cons.injEq,cdB]
 refine fun ha hb=>⟨fun hl _=> ?_,fun h=> ?_⟩
 ·refine SWp.loop (ι:={i:Nat // i≤a.length∧a.take i=b.take i}) (fun i=>⟨[(0, .sl (cvs a)),(1, .sl (cvs b)),(12, .int .i64 a.length),(13, .int .i64 i.1)],[],0⟩) (fun i=>a.length - i.1) ⟨0,by simp⟩ ?_ ?_
  ·simp [go_sem]
  ·rintro⟨i,hi,hab⟩
   refine ya yR.toS zfa _ _ _ rfl ?_
   simp -implicitDefEqProofs only [cdA,go_sem,simprocAttr, -Int.reduceEq,List.cons.injEq,cdB]
   refine⟨fun h=> ?_,fun h=> ?_⟩
   ·refine xb.run xdy yR qa (by kernel_rfl) (by kernel_rfl) ?_
    simp -implicitDefEqProofs only [cdA,go_sem,simprocAttr, -Int.reduceEq,List.cons.injEq,cdB]
    have h1:i<a.length:=by omega
    have h2:i<b.length:=by omega
    have ht:=wG h1 h2 hab
    refine⟨by omega,by omega,fun he=>⟨⟨i+1,h1,ht.2 he⟩,by dsimp only;omega,i64_in _ (by omega)⟩,fun he=> ?_⟩
    rw [eq_comm,decide_eq_false_iff_not]
    rintro rfl
    exact he rfl
   ·have e:i=a.length:=by omega
    have:a=b:=by
     rw [e,List.take_length]at hab
     rw [hab,List.take_of_length_le (by omega)]
    simp [this]
 ·have:a≠b:=by rintro rfl;exact h rfl
  simp [this]
def zK:List D→Option (Prop×D×Fr)
 |[.c (.sl z67), .c (.sl z68)]=>some (z67=cvs (uc z67)∧z68=cvs (uc z68),ybj (uc z67) (uc z68),[])
 |_=>none
attribute [go_sem] zK
theorem jab:ga 81 zK:=by
 intro rs p r fr h hp
 unfold zK at h
 split at h<;>cases h
 obtain⟨hc0,hc1⟩:=hp
 rename_i z67 z68
 have:=qbQ (uc z67) (uc z68)
 rw [←hc0,←hc1]at this
 exact this
@[go_sem] def zaR (a:Tk) (b:Tk):D:= .bool (decide (a=b))
@[go_sem] abbrev xdo:FuncId:=30
@[go_sem] def wbQ:Tab:=[(81,zK)]
theorem baQ:za Tryz.prog wbQ:=(za.cons jab za.nil)
theorem bbu (a:Tk) (b:Tk):ja Tryz.prog 30 [.agg [.c (.int .u64 (a.root:Int)), .sl (cvs a.l), .c (.int .i64 a.tag)], .agg [.c (.int .u64 (b.root:Int)), .sl (cvs b.l), .c (.int .i64 b.tag)]] (zaR a b):=by
 refine .of (gfk baQ (Nat.le_of_ble_eq_true rfl) ?_)
 simp -implicitDefEqProofs only [cdA,go_sem,Go.Proofs.Tryz.f30,simprocAttr, -Int.reduceEq,List.cons.injEq,cdB]
 have e:a=b↔a.root=b.root∧a.tag=b.tag∧a.l=b.l:=by
  cases a;cases b;simp only [Tk.mk.injEq];exact⟨fun h=>⟨h.1,h.2.2,h.2.1⟩,fun h=>⟨h.1,h.2.2,h.2.1⟩⟩
 refine⟨fun h1=>⟨fun h2=>decide_eq_decide.2 ⟨fun h=>e.2 ⟨by omega,h2,h⟩,fun h=>(e.1 h).2.2⟩,fun h2=>(decide_eq_false fun h=>h2 (e.1 h).2.1).symm⟩,fun h1=>(decide_eq_false fun h=>h1 (by rw [h])).symm⟩
def xA:List D→Option (Prop×D×Fr)
 |[.agg [.c (.int .u64 z70), .c (.sl z71), .c (.int .i64 z72)], .agg [.c (.int .u64 z74), .c (.sl z75), .c (.int .i64 z76)]]=>some (z70=(z70.toNat:Int)∧z71=cvs (uc z71)∧z74=(z74.toNat:Int)∧z75=cvs (uc z75),zaR (⟨z70.toNat,(uc z71),z72⟩:Tk) (⟨z74.toNat,(uc z75),z76⟩:Tk),[])
 |_=>none
attribute [go_sem] xA
theorem jX:ga 30 xA:=by
 intro rs p r fr h hp
 unfold xA at h
 split at h<;>cases h
 obtain⟨hc0,hc1,hc2,hc3⟩:=hp
 rename_i z70 z71 z72 z74 z75 z76
 have:=bbu ⟨z70.toNat,(uc z71),z72⟩ ⟨z74.toNat,(uc z75),z76⟩
 rw [←hc0,←hc1,←hc2,←hc3]at this
 exact this
@[go_sem] def qaP (a:Rq) (b:Rq):D:= .bool (decide (a=b))
@[go_sem] abbrev xdn:FuncId:=142
@[go_sem] def gbN:Tab:=[(30,xA),(81,zK),(210,wF)]
theorem xaP:za Tryz.prog gbN:=(za.cons jX (za.cons jab (za.cons jar za.nil)))
theorem xbt (a:Rq) (b:Rq):ja Tryz.prog 142 [.agg [.c (.int .u64 (a.id:Int)), .c (.int .i64 a.method), .c (.int .u64 (a.key:Int)), .c (.int .u64 (a.t.root:Int)), .sl (cvs a.t.l), .c (.int .i64 a.t.tag), .c (.int .u64 (a.a:Int)), .c (.int .u64 (a.n:Int)), .c (.int .u64 (a.till:Int)), .sl (its a.items), .sl (cvs a.l)], .agg [.c (.int .u64 (b.id:Int)), .c (.int .i64 b.method), .c (.int .u64 (b.key:Int)), .c (.int .u64 (b.t.root:Int)), .sl (cvs b.t.l), .c (.int .i64 b.t.tag), .c (.int .u64 (b.a:Int)), .c (.int .u64 (b.n:Int)), .c (.int .u64 (b.till:Int)), .sl (its b.items), .sl (cvs b.l)]] (qaP a b):=by
 refine .of (qed xaP (Nat.le_of_ble_eq_true rfl) ?_)
 simp -implicitDefEqProofs only [cdA,go_sem,Go.Proofs.Tryz.f142,simprocAttr, -Int.reduceEq,List.cons.injEq,cdB]
 refine⟨fun h1=>⟨fun h2=>⟨fun h3=>⟨fun h4=>⟨fun h5=>⟨fun h6=>⟨fun h7=>⟨fun h8=>decide_eq_decide.2 ⟨fun h9=> ?_,fun h=>by rw [h]⟩,fun h8=>(decide_eq_false fun h=>h8 (by rw [h])).symm⟩,fun h7=>(decide_eq_false fun h=>h7 (by rw [h])).symm⟩,fun h6=>(decide_eq_false fun h=>h6 (by rw [h])).symm⟩,fun h5=>(decide_eq_false fun h=>h5 (by rw [h])).symm⟩,fun h4=>(decide_eq_false fun h=>h4 (by rw [h])).symm⟩,fun h3=>(decide_eq_false fun h=>h3 (by rw [h])).symm⟩,fun h2=>(decide_eq_false fun h=>h2 (by rw [h])).symm⟩,fun h1=>(decide_eq_false fun h=>h1 (by rw [h])).symm⟩
 rw [Int.natCast_inj]at h1 h3 h5 h6 h7
 cases a;cases b
 dsimp only at*
 rw [h1,h2,h3,h4,h5,h6,h7,h8,h9]
def xN:List D→Option (Prop×D×Fr)
 |[.agg [.c (.int .u64 z78), .c (.int .i64 z79), .c (.int .u64 z80), .c (.int .u64 z82), .c (.sl z83), .c (.int .i64 z84), .c (.int .u64 z85), .c (.int .u64 z86), .c (.int .u64 z87), .c (.sl z88), .c (.sl z89)], .agg [.c (.int .u64 z91), .c (.int .i64 z92), .c (.int .u64 z93), .c (.int .u64 z95), .c (.sl z96), .c (.int .i64 z97), .c (.int .u64 z98), .c (.int .u64 z99), .c (.int .u64 z100), .c (.sl z101), .c (.sl z102)]]=>some (z78=(z78.toNat:Int)∧z80=(z80.toNat:Int)∧z82=(z82.toNat:Int)∧z83=cvs (uc z83)∧z85=(z85.toNat:Int)∧z86=(z86.toNat:Int)∧z87=(z87.toNat:Int)∧z88=its (zk z88)∧z89=cvs (uc z89)∧z91=(z91.toNat:Int)∧z93=(z93.toNat:Int)∧z95=(z95.toNat:Int)∧z96=cvs (uc z96)∧z98=(z98.toNat:Int)∧z99=(z99.toNat:Int)∧z100=(z100.toNat:Int)∧z101=its (zk z101)∧z102=cvs (uc z102),qaP (⟨z78.toNat,z79,z80.toNat,(⟨z82.toNat,(uc z83),z84⟩:Tk),z85.toNat,z86.toNat,z87.toNat,(zk z88),(uc z89)⟩:Rq) (⟨z91.toNat,z92,z93.toNat,(⟨z95.toNat,(uc z96),z97⟩:Tk),z98.toNat,z99.toNat,z100.toNat,(zk z101),(uc z102)⟩:Rq),[])
 |_=>none
attribute [go_sem] xN
theorem xaF:ga 142 xN:=by
 intro rs p r fr h hp
 unfold xN at h
 split at h<;>cases h
 obtain⟨hc0,hc1,hc2,hc3,hc4,hc5,hc6,hc7,hc8,hc9,hc10,hc11,hc12,hc13,hc14,hc15,hc16,hc17⟩:=hp
 rename_i z78 z79 z80 z82 z83 z84 z85 z86 z87 z88 z89 z91 z92 z93 z95 z96 z97 z98 z99 z100 z101 z102
 have:=xbt ⟨z78.toNat,z79,z80.toNat,⟨z82.toNat,(uc z83),z84⟩,z85.toNat,z86.toNat,z87.toNat,(zk z88),(uc z89)⟩ ⟨z91.toNat,z92,z93.toNat,⟨z95.toNat,(uc z96),z97⟩,z98.toNat,z99.toNat,z100.toNat,(zk z101),(uc z102)⟩
 rw [←hc0,←hc1,←hc2,←hc3,←hc4,←hc5,←hc6,←hc7,←hc8,←hc9,←hc10,←hc11,←hc12,←hc13,←hc14,←hc15,←hc16,←hc17]at this
 exact this
end Dm
namespace Dm
open Go Go.Proofs Go.IntWalk
def xaN (r:Rq):Rq:=
 ⟨r.id,r.method,if 1≤r.method∧r.method≤4 then r.key else 0,r.t,if r.method=1∨r.method=3∨r.method=4∨r.method=5∨r.method=6∨r.method=8 then r.a else 0,
  if r.method=1∨r.method=3∨r.method=8∨r.method=9 then r.n else 0,if r.method=3 then r.till else 0,if r.method=2 then r.items else [],if r.method=10 then r.l else []⟩
@[go_sem] def y7 (r:Rq):D:= .agg [.int .u64 (xaN r).id, .int .i64 (xaN r).method, .int .u64 (xaN r).key, .int .u64 (xaN r).t.root, .sl (cvs (xaN r).t.l), .int .i64 (xaN r).t.tag, .int .u64 (xaN r).a, .int .u64 (xaN r).n, .int .u64 (xaN r).till, .sl (its (xaN r).items), .sl (cvs (xaN r).l)]
@[go_sem] abbrev kc1:FuncId:=143
@[go_sem] def ybt:Tab:=[]
theorem qD:za Tryz.prog ybt:=za.nil
theorem ba4 (r:Rq):ja Tryz.prog 143 [.agg [.c (.int .u64 (r.id:Int)), .c (.int .i64 r.method), .c (.int .u64 (r.key:Int)), .c (.int .u64 (r.t.root:Int)), .sl (cvs r.t.l), .c (.int .i64 r.t.tag), .c (.int .u64 (r.a:Int)), .c (.int .u64 (r.n:Int)), .c (.int .u64 (r.till:Int)), .sl (its r.items), .sl (cvs r.l)]] (y7 r):=by
 obtain⟨id,m,key,t,a,n,till,items,l⟩:=r
 by_cases h:1≤m∧m≤10
 ·obtain rfl|rfl|rfl|rfl|rfl|rfl|rfl|rfl|rfl|rfl:m=1∨m=2∨m=3∨m=4∨m=5∨m=6∨m=7∨m=8∨m=9∨m=10:=by omega
  all_goals
   refine .of (gcq qD (Nat.le_of_ble_eq_true rfl) ?_)
   simp -implicitDefEqProofs only [cdA,go_sem,Go.Proofs.Tryz.f143,cdN,simprocAttr,List.cons.injEq,cdB]
   exact⟨rfl,rfl,rfl,rfl,rfl,rfl,rfl,rfl,rfl,rfl,rfl⟩
 ·have e1:(m=1)=False:=eq_false (by omega)
  have e2:(m=2)=False:=eq_false (by omega)
  have e3:(m=3)=False:=eq_false (by omega)
  have e4:(m=4)=False:=eq_false (by omega)
  have e5:(m=5)=False:=eq_false (by omega)
  have e6:(m=6)=False:=eq_false (by omega)
  have e8:(m=8)=False:=eq_false (by omega)
  have e9:(m=9)=False:=eq_false (by omega)
  have e10:(m=10)=False:=eq_false (by omega)
  have hn:xaN ⟨id,m,key,t,a,n,till,items,l⟩=⟨id,m,0,t,0,0,0,[],[]⟩:=by
   have q:¬(1≤m∧m≤4):=by omega
   simp only [xaN,e1,e2,e3,e4,e5,e6,e8,e9,e10,or_self,if_false,if_neg q]
  rw [y7,hn]
  by_cases h1:1≤m
  ·have h1':(1≤m)=True:=eq_true h1
   have h4':(m≤4)=False:=eq_false (by omega)
   refine .of (gcq qD (Nat.le_of_ble_eq_true rfl) ?_)
   simp -implicitDefEqProofs only [cdA,go_sem,Go.Proofs.Tryz.f143,h1',h4',e1,e2,e3,e4,e5,e6,e8,e9,e10,cdN,simprocAttr, -Int.reduceEq,List.cons.injEq,cdB]
   exact⟨rfl,rfl⟩
  ·have h1':(1≤m)=False:=eq_false h1
   refine .of (gcq qD (Nat.le_of_ble_eq_true rfl) ?_)
   simp -implicitDefEqProofs only [cdA,go_sem,Go.Proofs.Tryz.f143,h1',e1,e2,e3,e4,e5,e6,e8,e9,e10,cdN,simprocAttr, -Int.reduceEq,List.cons.injEq,cdB]
   exact⟨rfl,rfl⟩
def uF:List D→Option (Prop×D×Fr)
 |[.agg [.c (.int .u64 z104), .c (.int .i64 z105), .c (.int .u64 z106), .c (.int .u64 z108), .c (.sl z109), .c (.int .i64 z110), .c (.int .u64 z111), .c (.int .u64 z112), .c (.int .u64 z113), .c (.sl z114), .c (.sl z115)]]=>some (z104=(z104.toNat:Int)∧z106=(z106.toNat:Int)∧z108=(z108.toNat:Int)∧z109=cvs (uc z109)∧z111=(z111.toNat:Int)∧z112=(z112.toNat:Int)∧z113=(z113.toNat:Int)∧z114=its (zk z114)∧z115=cvs (uc z115),y7 (⟨z104.toNat,z105,z106.toNat,(⟨z108.toNat,(uc z109),z110⟩:Tk),z111.toNat,z112.toNat,z113.toNat,(zk z114),(uc z115)⟩:Rq),[])
 |_=>none
attribute [go_sem] uF
theorem kar:ga 143 uF:=by
 intro rs p r fr h hp
 unfold uF at h
 split at h<;>cases h
 obtain⟨hc0,hc1,hc2,hc3,hc4,hc5,hc6,hc7,hc8⟩:=hp
 rename_i z104 z105 z106 z108 z109 z110 z111 z112 z113 z114 z115
 have:=ba4 ⟨z104.toNat,z105,z106.toNat,⟨z108.toNat,(uc z109),z110⟩,z111.toNat,z112.toNat,z113.toNat,(zk z114),(uc z115)⟩
 rw [←hc0,←hc1,←hc2,←hc3,←hc4,←hc5,←hc6,←hc7,←hc8]at this
 exact this
end Dm
namespace Dm
open Go Go.Proofs Go.IntWalk
theorem wdt {r:Rq}:gbg r↔(1≤r.method∧r.method≤10)∧vaY r.t∧r=xaN r∧((r.method=1∨r.method=3)→¬r.n=0∧r.n≤4611686018427387904)∧(r.method=2→(jah r.items).2=0)∧(r.method=10→r.l≠[]∧r.l.length≤16∧∀c∈r.l,ko c=0):=by
 obtain⟨id,m,key,t,a,n,till,items,l⟩:=r
 unfold gbg
 dsimp only
 by_cases h:1≤m∧m≤10
 rotate_left 1
 ·exact⟨fun h'=>absurd ⟨by omega,by omega⟩ h,fun h'=>absurd h'.1 h⟩
 obtain rfl|rfl|rfl|rfl|rfl|rfl|rfl|rfl|rfl|rfl:m=1∨m=2∨m=3∨m=4∨m=5∨m=6∨m=7∨m=8∨m=9∨m=10:=by omega
 all_goals
  simp (config:={decide:=true}) [xay,gq,zw,xaN]
  constructor
  ·intro hh;simp_all;try omega
  ·intro hh;simp_all;try omega
@[go_sem] def yax (r:Rq):D:= .int .i64 (rqS r)
@[go_sem] abbrev jc1:FuncId:=70
@[go_sem] def zbt:Tab:=[(141,zA),(142,xN),(143,uF),(144,wJ),(145,vN)]
theorem vT:za Tryz.prog zbt:=(za.cons xX (za.cons xaF (za.cons kar (za.cons yab (za.cons kR za.nil)))))
theorem ga4 (r:Rq):ja Tryz.prog 70 [.agg [.c (.int .u64 (r.id:Int)), .c (.int .i64 r.method), .c (.int .u64 (r.key:Int)), .c (.int .u64 (r.t.root:Int)), .sl (cvs r.t.l), .c (.int .i64 r.t.tag), .c (.int .u64 (r.a:Int)), .c (.int .u64 (r.n:Int)), .c (.int .u64 (r.till:Int)), .sl (its r.items), .sl (cvs r.l)]] (yax r):=by
 refine .of (xfo vT (Nat.le_of_ble_eq_true rfl) ?_)
 simp -implicitDefEqProofs only [cdA,go_sem,Go.Proofs.Tryz.f70,simprocAttr, -Int.reduceEq,List.cons.injEq,cdB]
 refine xb.run zdy vT qa (by kernel_rfl) (by kernel_rfl) ?_
 simp -implicitDefEqProofs only [cdA,go_sem,simprocAttr, -Int.reduceEq,List.cons.injEq,cdB]
 have htz:yac r.t=0↔vaY r.t:=by unfold yac;split<;>rename_i h<;>simp only [h]<;>decide
 have hx:gbg r↔(1≤r.method∧r.method≤10)∧yac r.t=0∧r=xaN r∧((r.method=1∨r.method=3)→¬r.n=0∧r.n≤4611686018427387904)∧(r.method=2→(jah r.items).2=0)∧(r.method=10→r.l.length≠0∧r.l.length≤16∧(r.l.all fun c=>decide (ko c=0))=true):=by
  rw [wdt,htz]
  simp only [List.all_eq_true,decide_eq_true_eq,ne_eq,List.length_eq_zero_iff]
 have hq:(gbg r→rqS r=0)∧(¬gbg r→rqS r=1):=⟨fun h=>if_pos h,fun h=>if_neg h⟩
 rw [hx]at hq
 clear hx htz
 generalize rqS r=q at hq⊢
 generalize (r.l.all fun c=>decide (ko c=0))=la at hq⊢
 generalize (jah r.items).2=sb at hq⊢
 generalize yac r.t=tk at hq⊢
 generalize (r=xaN r)=eqn at hq⊢
 generalize r.l.length=ll at hq⊢
 generalize r.n=n at hq⊢
 generalize r.method=m at hq⊢
 clear r
 repeat' first|apply And.intro|intro _
 all_goals grind
def jv:List D→Option (Prop×D×Fr)
 |[.agg [.c (.int .u64 z2), .c (.int .i64 z3), .c (.int .u64 z4), .c (.int .u64 z6), .c (.sl z7), .c (.int .i64 z8), .c (.int .u64 z9), .c (.int .u64 z10), .c (.int .u64 z11), .c (.sl z12), .c (.sl z13)]]=>some (z2=(z2.toNat:Int)∧z4=(z4.toNat:Int)∧z6=(z6.toNat:Int)∧z7=cvs (uc z7)∧z9=(z9.toNat:Int)∧z10=(z10.toNat:Int)∧z11=(z11.toNat:Int)∧z12=its (zk z12)∧z13=cvs (uc z13),yax (⟨z2.toNat,z3,z4.toNat,(⟨z6.toNat,(uc z7),z8⟩:Tk),z9.toNat,z10.toNat,z11.toNat,(zk z12),(uc z13)⟩:Rq),[])
 |_=>none
attribute [go_sem] jv
theorem yQ:ga 70 jv:=by
 intro rs p r fr h hp
 unfold jv at h
 split at h<;>cases h
 obtain⟨hc0,hc1,hc2,hc3,hc4,hc5,hc6,hc7,hc8⟩:=hp
 rename_i z2 z3 z4 z6 z7 z8 z9 z10 z11 z12 z13
 have:=ga4 ⟨z2.toNat,z3,z4.toNat,⟨z6.toNat,(uc z7),z8⟩,z9.toNat,z10.toNat,z11.toNat,(zk z12),(uc z13)⟩
 rw [←hc0,←hc1,←hc2,←hc3,←hc4,←hc5,←hc6,←hc7,←hc8]at this
 exact this
@[go_sem] def kal (r:Rq):D:= .tup [.int .u64 ((vao r).1:Nat), .int .i64 (vao r).2]
@[go_sem] abbrev vcD:FuncId:=71
@[go_sem] def ua4:Tab:=[(70,jv),(144,wJ)]
theorem jap:za Tryz.prog ua4:=(za.cons yQ (za.cons yab za.nil))
theorem yaP (r:Rq):ja Tryz.prog 71 [.agg [.c (.int .u64 (r.id:Int)), .c (.int .i64 r.method), .c (.int .u64 (r.key:Int)), .c (.int .u64 (r.t.root:Int)), .sl (cvs r.t.l), .c (.int .i64 r.t.tag), .c (.int .u64 (r.a:Int)), .c (.int .u64 (r.n:Int)), .c (.int .u64 (r.till:Int)), .sl (its r.items), .sl (cvs r.l)]] (kal r):=by
 refine .of (qfo jap (Nat.le_of_ble_eq_true rfl) ?_)
 simp -implicitDefEqProofs only [cdA,go_sem,Go.Proofs.Tryz.f71,simprocAttr, -Int.reduceEq,List.cons.injEq,cdB]
 have h01:rqS r=0∨rqS r=1:=by unfold rqS;split;exact .inl rfl;exact .inr rfl
 refine⟨fun h=>⟨fun h1=> ?_,fun h1=>⟨fun h2=> ?_,fun h2=> ?_⟩⟩,fun h=> ?_⟩
 ·rw [vao,if_pos h,if_pos h1];exact⟨rfl,rfl⟩
 ·rw [vao,if_pos h,if_neg h1,if_pos h2];exact⟨rfl,rfl⟩
 ·rw [vao,if_pos h,if_neg h1,if_neg h2];exact⟨rfl,rfl⟩
 ·rw [vao,if_neg h];exact⟨rfl,(h01.resolve_left h).symm⟩
def zx:List D→Option (Prop×D×Fr)
 |[.agg [.c (.int .u64 z15), .c (.int .i64 z16), .c (.int .u64 z17), .c (.int .u64 z19), .c (.sl z20), .c (.int .i64 z21), .c (.int .u64 z22), .c (.int .u64 z23), .c (.int .u64 z24), .c (.sl z25), .c (.sl z26)]]=>some (z15=(z15.toNat:Int)∧z17=(z17.toNat:Int)∧z19=(z19.toNat:Int)∧z20=cvs (uc z20)∧z22=(z22.toNat:Int)∧z23=(z23.toNat:Int)∧z24=(z24.toNat:Int)∧z25=its (zk z25)∧z26=cvs (uc z26),kal (⟨z15.toNat,z16,z17.toNat,(⟨z19.toNat,(uc z20),z21⟩:Tk),z22.toNat,z23.toNat,z24.toNat,(zk z25),(uc z26)⟩:Rq),[])
 |_=>none
attribute [go_sem] zx
theorem kan:ga 71 zx:=by
 intro rs p r fr h hp
 unfold zx at h
 split at h<;>cases h
 obtain⟨hc0,hc1,hc2,hc3,hc4,hc5,hc6,hc7,hc8⟩:=hp
 rename_i z15 z16 z17 z19 z20 z21 z22 z23 z24 z25 z26
 have:=yaP ⟨z15.toNat,z16,z17.toNat,⟨z19.toNat,(uc z20),z21⟩,z22.toNat,z23.toNat,z24.toNat,(zk z25),(uc z26)⟩
 rw [←hc0,←hc1,←hc2,←hc3,←hc4,←hc5,←hc6,←hc7,←hc8]at this
 exact this
end Dm
namespace Dm
open Go Go.Proofs Go.IntWalk
theorem xaA {b:Bk}:yS b=0∨yS b=1:=by
 have hw:uac b.w=0∨uac b.w=1:=by unfold uac;split;exact .inl rfl;exact .inr rfl
 have ha:ym b.a.l=0∨ym b.a.l=1:=by unfold ym zn;split;exact .inl rfl;exact .inr rfl
 have hr:wZ b.r=0∨wZ b.r=1:=by unfold wZ;split;exact .inl rfl;exact .inr rfl
 have hk:kaH b.k=0∨kaH b.k=1:=by unfold kaH;split;exact .inl rfl;exact .inr rfl
 have hs:vk b.s=0∨vk b.s=1:=by unfold vk;split;exact .inl rfl;exact .inr rfl
 unfold yS
 rcases hw with hw|hw<;>rcases ha with ha|ha<;>rcases hr with hr|hr<;>rcases hk with hk|hk<;>rcases hs with hs|hs<;>rw [hw,ha,hr,hk,hs]<;>decide
@[go_sem] def ual (b:Bk):D:= .int .i64 (yS b)
@[go_sem] abbrev wcD:FuncId:=32
@[go_sem] def xa5:Tab:=[(86,jF),(87,qn),(88,zu),(89,bw),(90,xk)]
theorem kap:za Tryz.prog xa5:=(za.cons yar (za.cons ur (za.cons qG (za.cons jan (za.cons qv za.nil)))))
theorem kaP (b:Bk) (h:b.w.f.next≤18446744073709551615):ja Tryz.prog 32 [.agg [.sl (chs b.w.c), .sl (wts b.w.w), .sl (ivs b.w.i), .sl (pys b.w.p), .c (.int .u64 (b.w.f.next:Int)), .sl (evs b.w.f.l), .c (.int .u64 (b.w.next:Int)), .c (.int .u64 (b.w.tick:Int)), .sl (tms b.a.l), .sl (rks b.r), .sl (kys b.k), .sl (cts b.s)]] (ual b):=by
 refine .of (zfl kap (Nat.le_of_ble_eq_true rfl) ?_)
 simp -implicitDefEqProofs only [cdA,go_sem,Go.Proofs.Tryz.f32,simprocAttr, -Int.reduceEq,List.cons.injEq,cdB]
 have hbad:¬yS b=0→1=yS b:=fun h=>(xaA.resolve_left h).symm
 have hz:=vas (b:=b)
 have ha:ym b.a.l=0↔kH b.a.l:=by unfold ym zn;split<;>rename_i h<;>simp only [h]<;>decide
 have hr:wZ b.r=0↔kak b.r:=by unfold wZ;split<;>rename_i h<;>simp only [h]<;>decide
 rw [←ha,←hr]at hz
 refine⟨h, ?_⟩
 clear ha hr h
 grind
@[go_sem] def qa5 (b:Bk):Prop:=(b.w.f.next≤18446744073709551615)
def bg:List D→Option (Prop×D×Fr)
 |[.agg [.c (.sl z3), .c (.sl z4), .c (.sl z5), .c (.sl z6), .c (.int .u64 z8), .c (.sl z9), .c (.int .u64 z10), .c (.int .u64 z11), .c (.sl z13), .c (.sl z14), .c (.sl z15), .c (.sl z16)]]=>some (z3=chs (yb z3)∧z4=wts (jd z4)∧z5=ivs (qc z5)∧z6=pys (vb z6)∧z8=(z8.toNat:Int)∧z9=evs (jb z9)∧z10=(z10.toNat:Int)∧z11=(z11.toNat:Int)∧z13=tms (qb z13)∧z14=rks (gb z14)∧z15=kys (je z15)∧z16=cts (qd z16)∧qa5 (⟨(⟨(yb z3),(jd z4),(qc z5),(vb z6),(⟨z8.toNat,(jb z9)⟩:Fd),z10.toNat,z11.toNat⟩:Wl),(⟨(qb z13)⟩:Ar),(gb z14),(je z15),(qd z16)⟩:Bk),ual (⟨(⟨(yb z3),(jd z4),(qc z5),(vb z6),(⟨z8.toNat,(jb z9)⟩:Fd),z10.toNat,z11.toNat⟩:Wl),(⟨(qb z13)⟩:Ar),(gb z14),(je z15),(qd z16)⟩:Bk),[])
 |_=>none
attribute [go_sem] bg
theorem ji:ga 32 bg:=by
 intro rs p r fr h hp
 unfold bg at h
 split at h<;>cases h
 obtain⟨hc0,hc1,hc2,hc3,hc4,hc5,hc6,hc7,hc8,hc9,hc10,hc11,hp⟩:=hp
 rename_i z3 z4 z5 z6 z8 z9 z10 z11 z13 z14 z15 z16
 have:=kaP ⟨⟨(yb z3),(jd z4),(qc z5),(vb z6),⟨z8.toNat,(jb z9)⟩,z10.toNat,z11.toNat⟩,⟨(qb z13)⟩,(gb z14),(je z15),(qd z16)⟩ hp
 rw [←hc0,←hc1,←hc2,←hc3,←hc4,←hc5,←hc6,←hc7,←hc8,←hc9,←hc10,←hc11]at this
 exact this
@[go_sem] def wbi (b:Bk) (r:Rq) (who:Nat):D:= .tup [.agg [.int .u64 ((uG b r who).1.tick:Nat), .int .i64 (uG b r who).1.method, .int .u64 ((uG b r who).1.amount:Nat), .int .u64 ((uG b r who).1.who:Nat)], .int .i64 (uG b r who).2]
@[go_sem] abbrev kdS:FuncId:=24
@[go_sem] def wcb:Tab:=[(32,bg),(70,jv),(71,zx)]
theorem ga5:za Tryz.prog wcb:=(za.cons ji (za.cons yQ (za.cons kan za.nil)))
theorem vbO (b:Bk) (r:Rq) (who:Nat) (h:b.w.f.next≤18446744073709551615):ja Tryz.prog 24 [.agg [.sl (chs b.w.c), .sl (wts b.w.w), .sl (ivs b.w.i), .sl (pys b.w.p), .c (.int .u64 (b.w.f.next:Int)), .sl (evs b.w.f.l), .c (.int .u64 (b.w.next:Int)), .c (.int .u64 (b.w.tick:Int)), .sl (tms b.a.l), .sl (rks b.r), .sl (kys b.k), .sl (cts b.s)], .agg [.c (.int .u64 (r.id:Int)), .c (.int .i64 r.method), .c (.int .u64 (r.key:Int)), .c (.int .u64 (r.t.root:Int)), .sl (cvs r.t.l), .c (.int .i64 r.t.tag), .c (.int .u64 (r.a:Int)), .c (.int .u64 (r.n:Int)), .c (.int .u64 (r.till:Int)), .sl (its r.items), .sl (cvs r.l)], .c (.int .u64 (who:Int))] (wbi b r who):=by
 refine .of (qfk ga5 (Nat.le_of_ble_eq_true rfl) ?_)
 simp -implicitDefEqProofs only [cdA,go_sem,Go.Proofs.Tryz.f24,simprocAttr, -Int.reduceEq,List.cons.injEq,cdB]
 have hz:rqS r=0↔gbg r:=by unfold rqS;split<;>rename_i h<;>simp only [h]<;>decide
 refine⟨h,fun h1=>⟨fun h2=> ?_,fun h2=> ?_⟩,fun h1=> ?_⟩
 ·rw [ydz (hz.1 h2) h1];exact⟨⟨rfl,rfl,rfl,rfl⟩,rfl⟩
 ·rw [ubW fun h=>h2 (hz.2 h.1)];exact⟨⟨rfl,rfl,rfl,rfl⟩,rfl⟩
 ·rw [ubW fun h=>h1 h.2];exact⟨⟨rfl,rfl,rfl,rfl⟩,rfl⟩
@[go_sem] def ucb (b:Bk) (r:Rq) (who:Nat):Prop:=(b.w.f.next≤18446744073709551615)
def bJ:List D→Option (Prop×D×Fr)
 |[.agg [.c (.sl z19), .c (.sl z20), .c (.sl z21), .c (.sl z22), .c (.int .u64 z24), .c (.sl z25), .c (.int .u64 z26), .c (.int .u64 z27), .c (.sl z29), .c (.sl z30), .c (.sl z31), .c (.sl z32)], .agg [.c (.int .u64 z34), .c (.int .i64 z35), .c (.int .u64 z36), .c (.int .u64 z38), .c (.sl z39), .c (.int .i64 z40), .c (.int .u64 z41), .c (.int .u64 z42), .c (.int .u64 z43), .c (.sl z44), .c (.sl z45)], .c (.int .u64 z46)]=>some (z19=chs (yb z19)∧z20=wts (jd z20)∧z21=ivs (qc z21)∧z22=pys (vb z22)∧z24=(z24.toNat:Int)∧z25=evs (jb z25)∧z26=(z26.toNat:Int)∧z27=(z27.toNat:Int)∧z29=tms (qb z29)∧z30=rks (gb z30)∧z31=kys (je z31)∧z32=cts (qd z32)∧z34=(z34.toNat:Int)∧z36=(z36.toNat:Int)∧z38=(z38.toNat:Int)∧z39=cvs (uc z39)∧z41=(z41.toNat:Int)∧z42=(z42.toNat:Int)∧z43=(z43.toNat:Int)∧z44=its (zk z44)∧z45=cvs (uc z45)∧z46=(z46.toNat:Int)∧ucb (⟨(⟨(yb z19),(jd z20),(qc z21),(vb z22),(⟨z24.toNat,(jb z25)⟩:Fd),z26.toNat,z27.toNat⟩:Wl),(⟨(qb z29)⟩:Ar),(gb z30),(je z31),(qd z32)⟩:Bk) (⟨z34.toNat,z35,z36.toNat,(⟨z38.toNat,(uc z39),z40⟩:Tk),z41.toNat,z42.toNat,z43.toNat,(zk z44),(uc z45)⟩:Rq) z46.toNat,wbi (⟨(⟨(yb z19),(jd z20),(qc z21),(vb z22),(⟨z24.toNat,(jb z25)⟩:Fd),z26.toNat,z27.toNat⟩:Wl),(⟨(qb z29)⟩:Ar),(gb z30),(je z31),(qd z32)⟩:Bk) (⟨z34.toNat,z35,z36.toNat,(⟨z38.toNat,(uc z39),z40⟩:Tk),z41.toNat,z42.toNat,z43.toNat,(zk z44),(uc z45)⟩:Rq) z46.toNat,[])
 |_=>none
attribute [go_sem] bJ
theorem qab:ga 24 bJ:=by
 intro rs p r fr h hp
 unfold bJ at h
 split at h<;>cases h
 obtain⟨hc0,hc1,hc2,hc3,hc4,hc5,hc6,hc7,hc8,hc9,hc10,hc11,hc12,hc13,hc14,hc15,hc16,hc17,hc18,hc19,hc20,hc21,hp⟩:=hp
 rename_i z19 z20 z21 z22 z24 z25 z26 z27 z29 z30 z31 z32 z34 z35 z36 z38 z39 z40 z41 z42 z43 z44 z45 z46
 have:=vbO ⟨⟨(yb z19),(jd z20),(qc z21),(vb z22),⟨z24.toNat,(jb z25)⟩,z26.toNat,z27.toNat⟩,⟨(qb z29)⟩,(gb z30),(je z31),(qd z32)⟩ ⟨z34.toNat,z35,z36.toNat,⟨z38.toNat,(uc z39),z40⟩,z41.toNat,z42.toNat,z43.toNat,(zk z44),(uc z45)⟩ z46.toNat hp
 rw [←hc0,←hc1,←hc2,←hc3,←hc4,←hc5,←hc6,←hc7,←hc8,←hc9,←hc10,←hc11,←hc12,←hc13,←hc14,←hc15,←hc16,←hc17,←hc18,←hc19,←hc20,←hc21]at this
 exact this
@[go_sem] def kbi (b:Bk) (r:Rq) (who:Nat):D:= .tup [.bool (qau b r who).1, .int .i64 (qau b r who).2]
@[go_sem] abbrev qdS:FuncId:=25
@[go_sem] def qcb:Tab:=[(24,bJ),(72,bN),(73,xG),(74,yag),(75,qW)]
theorem ka5:za Tryz.prog qcb:=(za.cons qab (za.cons wR (za.cons gar (za.cons zba (za.cons gaU za.nil)))))
theorem xbO (b:Bk) (r:Rq) (who:Nat) (h:b.w.f.next≤18446744073709551615∧r.t.root≤18446744073709551615∧∀c∈r.t.l,c.a≤18446744073709551615∧c.b≤18446744073709551615):ja Tryz.prog 25 [.agg [.sl (chs b.w.c), .sl (wts b.w.w), .sl (ivs b.w.i), .sl (pys b.w.p), .c (.int .u64 (b.w.f.next:Int)), .sl (evs b.w.f.l), .c (.int .u64 (b.w.next:Int)), .c (.int .u64 (b.w.tick:Int)), .sl (tms b.a.l), .sl (rks b.r), .sl (kys b.k), .sl (cts b.s)], .agg [.c (.int .u64 (r.id:Int)), .c (.int .i64 r.method), .c (.int .u64 (r.key:Int)), .c (.int .u64 (r.t.root:Int)), .sl (cvs r.t.l), .c (.int .i64 r.t.tag), .c (.int .u64 (r.a:Int)), .c (.int .u64 (r.n:Int)), .c (.int .u64 (r.till:Int)), .sl (its r.items), .sl (cvs r.l)], .c (.int .u64 (who:Int))] (kbi b r who):=by
 refine .of (jfk ka5 (Nat.le_of_ble_eq_true rfl) ?_)
 simp -implicitDefEqProofs only [cdA,go_sem,Go.Proofs.Tryz.f25,simprocAttr, -Int.reduceEq,List.cons.injEq,cdB]
 refine⟨h.1,fun hu=>⟨fun hk=>⟨h.2,fun c hc=>(h.2.2 c hc).1, ?_⟩,fun hk=> ?_⟩,fun hu=> ?_⟩
 rotate_left 1
 ·rw [qau,if_neg (fun h=>h hu),if_pos hk];exact⟨rfl,rfl⟩
 ·rw [qau,if_pos hu];exact⟨rfl,rfl⟩
 obtain⟨hr,hb⟩:=zdz.1 hu
 obtain⟨_,ha,_,_,hs⟩:=vas.1 hb
 have ht:=hr.2.2
 have e1:=congrArg Prod.snd (vcP (key:=(bao b.r r.t.root).1) ha ht)
 have e2:=congrArg Prod.snd (uc8 (u:=⟨b.w.tick,r.method,(vao r).1,who⟩) ht.1 ht.2.2.2 (zcD hr))
 have e3:=congrArg Prod.snd (bcC (root:=r.t.root) (n:=(vao r).1) ht.1 ht.2.2.2 hs (ubY (by rw [rqS,if_pos hr])).2)
 have hue:=ydz (who:=who) hr hb
 have e2':(kao r.t.l (uG b r who).1).2=0:=by rw [hue];exact e2
 have e3':(uao b.s r.t.root r.t.l (uG b r who).1.amount).2=0:=by rw [hue];exact e3
 dsimp only at e1
 refine⟨fun h1=>⟨fun h2=> ?_,fun h2=> ?_⟩,fun h1=> ?_⟩
 ·rw [qau,if_neg (fun h=>h hu),if_neg (fun h=>h hk),if_neg (by rintro(h|h);exact h e1;rw [h1]at h;cases h),if_neg (by rintro(h|h);exact h e2';rw [h2]at h;cases h)]
  by_cases h3:(uao b.s r.t.root r.t.l (uG b r who).1.amount).1=false
  ·rw [if_pos (.inr h3),e3'];exact⟨h3,rfl⟩
  ·rw [if_neg (by rintro(h|h);exact h e3';exact h3 h)];exact⟨by simpa using h3,rfl⟩
 ·rw [qau,if_neg (fun h=>h hu),if_neg (fun h=>h hk),if_neg (by rintro(h|h);exact h e1;rw [h1]at h;cases h),if_pos (.inr h2),e2'];exact⟨rfl,rfl⟩
 ·rw [qau,if_neg (fun h=>h hu),if_neg (fun h=>h hk),if_pos (.inr h1),e1];exact⟨rfl,rfl⟩
@[go_sem] def jcb (b:Bk) (r:Rq) (who:Nat):Prop:=(b.w.f.next≤18446744073709551615∧r.t.root≤18446744073709551615∧∀c∈r.t.l,c.a≤18446744073709551615∧c.b≤18446744073709551615)
def kW:List D→Option (Prop×D×Fr)
 |[.agg [.c (.sl z49), .c (.sl z50), .c (.sl z51), .c (.sl z52), .c (.int .u64 z54), .c (.sl z55), .c (.int .u64 z56), .c (.int .u64 z57), .c (.sl z59), .c (.sl z60), .c (.sl z61), .c (.sl z62)], .agg [.c (.int .u64 z64), .c (.int .i64 z65), .c (.int .u64 z66), .c (.int .u64 z68), .c (.sl z69), .c (.int .i64 z70), .c (.int .u64 z71), .c (.int .u64 z72), .c (.int .u64 z73), .c (.sl z74), .c (.sl z75)], .c (.int .u64 z76)]=>some (z49=chs (yb z49)∧z50=wts (jd z50)∧z51=ivs (qc z51)∧z52=pys (vb z52)∧z54=(z54.toNat:Int)∧z55=evs (jb z55)∧z56=(z56.toNat:Int)∧z57=(z57.toNat:Int)∧z59=tms (qb z59)∧z60=rks (gb z60)∧z61=kys (je z61)∧z62=cts (qd z62)∧z64=(z64.toNat:Int)∧z66=(z66.toNat:Int)∧z68=(z68.toNat:Int)∧z69=cvs (uc z69)∧z71=(z71.toNat:Int)∧z72=(z72.toNat:Int)∧z73=(z73.toNat:Int)∧z74=its (zk z74)∧z75=cvs (uc z75)∧z76=(z76.toNat:Int)∧jcb (⟨(⟨(yb z49),(jd z50),(qc z51),(vb z52),(⟨z54.toNat,(jb z55)⟩:Fd),z56.toNat,z57.toNat⟩:Wl),(⟨(qb z59)⟩:Ar),(gb z60),(je z61),(qd z62)⟩:Bk) (⟨z64.toNat,z65,z66.toNat,(⟨z68.toNat,(uc z69),z70⟩:Tk),z71.toNat,z72.toNat,z73.toNat,(zk z74),(uc z75)⟩:Rq) z76.toNat,kbi (⟨(⟨(yb z49),(jd z50),(qc z51),(vb z52),(⟨z54.toNat,(jb z55)⟩:Fd),z56.toNat,z57.toNat⟩:Wl),(⟨(qb z59)⟩:Ar),(gb z60),(je z61),(qd z62)⟩:Bk) (⟨z64.toNat,z65,z66.toNat,(⟨z68.toNat,(uc z69),z70⟩:Tk),z71.toNat,z72.toNat,z73.toNat,(zk z74),(uc z75)⟩:Rq) z76.toNat,[])
 |_=>none
attribute [go_sem] kW
theorem yaV:ga 25 kW:=by
 intro rs p r fr h hp
 unfold kW at h
 split at h<;>cases h
 obtain⟨hc0,hc1,hc2,hc3,hc4,hc5,hc6,hc7,hc8,hc9,hc10,hc11,hc12,hc13,hc14,hc15,hc16,hc17,hc18,hc19,hc20,hc21,hp⟩:=hp
 rename_i z49 z50 z51 z52 z54 z55 z56 z57 z59 z60 z61 z62 z64 z65 z66 z68 z69 z70 z71 z72 z73 z74 z75 z76
 have:=xbO ⟨⟨(yb z49),(jd z50),(qc z51),(vb z52),⟨z54.toNat,(jb z55)⟩,z56.toNat,z57.toNat⟩,⟨(qb z59)⟩,(gb z60),(je z61),(qd z62)⟩ ⟨z64.toNat,z65,z66.toNat,⟨z68.toNat,(uc z69),z70⟩,z71.toNat,z72.toNat,z73.toNat,(zk z74),(uc z75)⟩ z76.toNat hp
 rw [←hc0,←hc1,←hc2,←hc3,←hc4,←hc5,←hc6,←hc7,←hc8,←hc9,←hc10,←hc11,←hc12,←hc13,←hc14,←hc15,←hc16,←hc17,←hc18,←hc19,←hc20,←hc21]at this
 exact this
@[go_sem] def gaw (w:Wl):D:= .agg [.sl (chs w.c), .sl (wts w.w), .sl (ivs w.i), .sl (pys w.p), .int .u64 w.f.next, .sl (evs w.f.l), .int .u64 w.next, .int .u64 w.tick]
@[go_sem] abbrev yc1:FuncId:=67
@[go_sem] def wbs:Tab:=[(140,bD)]
theorem kT:za Tryz.prog wbs:=(za.cons gap za.nil)
theorem ka4 (w:Wl) (h:xU w):ja Tryz.prog 67 [.agg [.sl (chs w.c), .sl (wts w.w), .sl (ivs w.i), .sl (pys w.p), .c (.int .u64 (w.f.next:Int)), .sl (evs w.f.l), .c (.int .u64 (w.next:Int)), .c (.int .u64 (w.tick:Int))]] (gaw w):=by
 refine .of (bfn kT (Nat.le_of_ble_eq_true rfl) ?_)
 simp -implicitDefEqProofs only [cdA,go_sem,Go.Proofs.Tryz.f67,simprocAttr, -Int.reduceEq,List.cons.injEq,cdB]
 refine xb.run gdx kT qa (by kernel_rfl) (by kernel_rfl) ?_
 simp -implicitDefEqProofs only [cdA,go_sem,simprocAttr, -Int.reduceEq,List.cons.injEq,cdB]
 obtain⟨h1,h2,h3,h4,h5,h6⟩:=h
 exact⟨⟨h1,h2⟩,by omega,by omega,by omega,by omega,⟨_,_,_,rfl⟩,⟨_,_,_,rfl⟩,⟨_,_,_,rfl⟩,_,_,_,rfl⟩
@[go_sem] def ubs (w:Wl):Prop:=(xU w)
def kF:List D→Option (Prop×D×Fr)
 |[.agg [.c (.sl z78), .c (.sl z79), .c (.sl z80), .c (.sl z81), .c (.int .u64 z83), .c (.sl z84), .c (.int .u64 z85), .c (.int .u64 z86)]]=>some (z78=chs (yb z78)∧z79=wts (jd z79)∧z80=ivs (qc z80)∧z81=pys (vb z81)∧z83=(z83.toNat:Int)∧z84=evs (jb z84)∧z85=(z85.toNat:Int)∧z86=(z86.toNat:Int)∧ubs (⟨(yb z78),(jd z79),(qc z80),(vb z81),(⟨z83.toNat,(jb z84)⟩:Fd),z85.toNat,z86.toNat⟩:Wl),gaw (⟨(yb z78),(jd z79),(qc z80),(vb z81),(⟨z83.toNat,(jb z84)⟩:Fd),z85.toNat,z86.toNat⟩:Wl),[])
 |_=>none
attribute [go_sem] kF
theorem xar:ga 67 kF:=by
 intro rs p r fr h hp
 unfold kF at h
 split at h<;>cases h
 obtain⟨hc0,hc1,hc2,hc3,hc4,hc5,hc6,hc7,hp⟩:=hp
 rename_i z78 z79 z80 z81 z83 z84 z85 z86
 have:=ka4 ⟨(yb z78),(jd z79),(qc z80),(vb z81),⟨z83.toNat,(jb z84)⟩,z85.toNat,z86.toNat⟩ hp
 rw [←hc0,←hc1,←hc2,←hc3,←hc4,←hc5,←hc6,←hc7]at this
 exact this
@[go_sem] def xax (b:Bk):D:= .agg [.sl (chs b.w.c), .sl (wts b.w.w), .sl (ivs b.w.i), .sl (pys b.w.p), .int .u64 b.w.f.next, .sl (evs b.w.f.l), .int .u64 b.w.next, .int .u64 b.w.tick, .sl (tms b.a.l), .sl (rks b.r), .sl (kys b.k), .sl (cts b.s)]
@[go_sem] abbrev vc1:FuncId:=23
@[go_sem] def qbt:Tab:=[(67,kF),(68,jN),(69,gE)]
theorem wT:za Tryz.prog qbt:=(za.cons xar (za.cons jaF (za.cons vaq za.nil)))
theorem ja5 (b:Bk) (h:xU b.w∧(b.a.l.length≤1048577∧∀t∈b.a.l,t.text.length≤4096)∧b.r.length≤1000000∧(b.k.length≤1000000∧∀k∈b.k,k.print.length≤1000000∧k.reply.length≤1000000)∧b.s.length≤1000000):ja Tryz.prog 23 [.agg [.sl (chs b.w.c), .sl (wts b.w.w), .sl (ivs b.w.i), .sl (pys b.w.p), .c (.int .u64 (b.w.f.next:Int)), .sl (evs b.w.f.l), .c (.int .u64 (b.w.next:Int)), .c (.int .u64 (b.w.tick:Int)), .sl (tms b.a.l), .sl (rks b.r), .sl (kys b.k), .sl (cts b.s)]] (xax b):=by
 refine .of (xfk wT (Nat.le_of_ble_eq_true rfl) ?_)
 simp -implicitDefEqProofs only [cdA,go_sem,Go.Proofs.Tryz.f23,simprocAttr, -Int.reduceEq,List.cons.injEq,cdB]
 refine xb.run udw wT qa (by kernel_rfl) (by kernel_rfl) ?_
 simp -implicitDefEqProofs only [cdA,go_sem,simprocAttr, -Int.reduceEq,List.cons.injEq,cdB]
 obtain⟨h1,h2,h3,h4,h5⟩:=h
 exact⟨h1,h2,by omega,h4,by omega,⟨_,_,_,rfl⟩,_,_,_,rfl⟩
@[go_sem] def jbt (b:Bk):Prop:=(xU b.w∧(b.a.l.length≤1048577∧∀t∈b.a.l,t.text.length≤4096)∧b.r.length≤1000000∧(b.k.length≤1000000∧∀k∈b.k,k.print.length≤1000000∧k.reply.length≤1000000)∧b.s.length≤1000000)
def gj:List D→Option (Prop×D×Fr)
 |[.agg [.c (.sl z89), .c (.sl z90), .c (.sl z91), .c (.sl z92), .c (.int .u64 z94), .c (.sl z95), .c (.int .u64 z96), .c (.int .u64 z97), .c (.sl z99), .c (.sl z100), .c (.sl z101), .c (.sl z102)]]=>some (z89=chs (yb z89)∧z90=wts (jd z90)∧z91=ivs (qc z91)∧z92=pys (vb z92)∧z94=(z94.toNat:Int)∧z95=evs (jb z95)∧z96=(z96.toNat:Int)∧z97=(z97.toNat:Int)∧z99=tms (qb z99)∧z100=rks (gb z100)∧z101=kys (je z101)∧z102=cts (qd z102)∧jbt (⟨(⟨(yb z89),(jd z90),(qc z91),(vb z92),(⟨z94.toNat,(jb z95)⟩:Fd),z96.toNat,z97.toNat⟩:Wl),(⟨(qb z99)⟩:Ar),(gb z100),(je z101),(qd z102)⟩:Bk),xax (⟨(⟨(yb z89),(jd z90),(qc z91),(vb z92),(⟨z94.toNat,(jb z95)⟩:Fd),z96.toNat,z97.toNat⟩:Wl),(⟨(qb z99)⟩:Ar),(gb z100),(je z101),(qd z102)⟩:Bk),[])
 |_=>none
attribute [go_sem] gj
theorem xo:ga 23 gj:=by
 intro rs p r fr h hp
 unfold gj at h
 split at h<;>cases h
 obtain⟨hc0,hc1,hc2,hc3,hc4,hc5,hc6,hc7,hc8,hc9,hc10,hc11,hp⟩:=hp
 rename_i z89 z90 z91 z92 z94 z95 z96 z97 z99 z100 z101 z102
 have:=ja5 ⟨⟨(yb z89),(jd z90),(qc z91),(vb z92),⟨z94.toNat,(jb z95)⟩,z96.toNat,z97.toNat⟩,⟨(qb z99)⟩,(gb z100),(je z101),(qd z102)⟩ hp
 rw [←hc0,←hc1,←hc2,←hc3,←hc4,←hc5,←hc6,←hc7,←hc8,←hc9,←hc10,←hc11]at this
 exact this
end Dm
namespace Dm
open Go Go.Proofs Go.IntWalk
end Dm
