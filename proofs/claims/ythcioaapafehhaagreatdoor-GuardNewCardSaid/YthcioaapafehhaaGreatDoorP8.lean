import Derived.Test.YthcioaapafehhaaGreatDoorP7

set_option linter.unusedSimpArgs false
set_option linter.unusedVariables false
set_option linter.unusedSectionVars false
namespace Dm
open Go Go.Proofs Go.IntWalk
@[go_sem] def jaw (l:List Ky):D:= .vec 0 l.length
@[go_sem] def wag (l:List Ky):Fr:=[(4,158,true,kys l)]
@[go_sem] abbrev ycK:FuncId:=135
@[go_sem] def jbj:Tab:=[]
theorem xaw:za Tryz.prog jbj:=za.nil
set_option maxRecDepth 8000 in
set_option maxHeartbeats 1000000 in
theorem qa5 (l:List Ky) (hl:l.length≤1000000):ki Tryz.prog 135 [.sl (kys l)] (jaw l) (wag l):=by
 refine .of (wdw xaw (Nat.le_of_ble_eq_true rfl) ?_)
 simp -implicitDefEqProofs only [cdA,go_sem,Go.Proofs.Tryz.f135,reduceIte,reduceCtorEq,Nat.reduceEqDiff,Nat.reduceAdd,Nat.reduceLeDiff,Nat.reduceSub,Nat.reduceMul,Nat.reduceLT,Nat.reduceShiftRight,Nat.reduceMod,Int.reduceLE,Int.reduceLT,Int.reduceToNat,List.cons.injEq,cdB]
 refine fun b hb=>⟨fun h=> ?_,fun h=> ?_⟩
 ·exact⟨[none],by simp [go_sem,hb h],by cases l<;>simp_all [go_sem,kys]⟩
 ·exact⟨by omega,[some 0],by simp [go_sem]⟩
@[go_sem] def qaw (l:List Ky):Prop:=(l.length≤1000000)
def jG:List D→Option (Prop×D×Fr)
 |[.c (.sl z1)]=>some (z1=kys (yo z1)∧qaw (yo z1),jaw (yo z1),wag (yo z1))
 |_=>none
attribute [go_sem] jG
theorem yap:∀rs p r fr,jG rs=some (p,r,fr)→p→uc Tryz.prog 135 rs r fr:=by
 intro rs p r fr h hp
 unfold jG at h
 split at h<;>cases h
 obtain⟨hc0,hp⟩:=hp
 rename_i z1
 obtain⟨z1,rfl⟩:∃m,z1=kys m:=⟨_,hc0⟩
 simp only [ze]
 simp only [ze,qaw]at hp
 exact(show uc _ _ _ _ _ from And.intro rfl (qa5 z1 hp))
def wa0 (b:Bk):Prop:=gaD b.w∧(b.a.l.length≤2000000∧∀t∈b.a.l,t.text.length≤1000000)∧b.r.length≤1000000∧(b.k.length≤1000000∧∀k∈b.k,k.print.length≤1000000∧k.reply.length≤1000000)∧b.s.length≤1000000
@[go_sem] def zbN (b:Bk):D:= .agg [.sl (chs b.w.c), .sl (wts b.w.w), .sl (ivs b.w.i), .sl (pys b.w.p), .int .u64 b.w.f.next, .sl (evs b.w.f.l), .int .u64 b.w.next, .int .u64 b.w.tick, .sl (tms b.a.l), .sl (rks b.r), .sl (kys b.k), .sl (cts b.s)]
@[go_sem] abbrev kej:FuncId:=64
@[go_sem] def vcB:Tab:=[(127,wD),(132,gD),(128,ux),(129,jv),(130,wv),(131,uq),(137,jx),(133,qx),(134,qw),(135,jG),(136,bH)]
theorem yl:za Tryz.prog vcB:=(za.cons xW (za.cons jW (za.cons vR (za.cons vN (za.cons xO (za.cons qJ (za.cons jR (za.cons qR (za.cons jQ (za.cons yap (za.cons baq za.nil)))))))))))
set_option maxRecDepth 8000 in
set_option maxHeartbeats 1000000 in
theorem vbY (b:Bk) (h:wa0 b):va Tryz.prog 64 [.agg [.sl (chs b.w.c), .sl (wts b.w.w), .sl (ivs b.w.i), .sl (pys b.w.p), .c (.int .u64 (b.w.f.next:Int)), .sl (evs b.w.f.l), .c (.int .u64 (b.w.next:Int)), .c (.int .u64 (b.w.tick:Int)), .sl (tms b.a.l), .sl (rks b.r), .sl (kys b.k), .sl (cts b.s)]] (zbN b):=by
 refine .of (jeu yl (Nat.le_of_ble_eq_true rfl) ?_)
 simp -implicitDefEqProofs only [cdA,go_sem,Go.Proofs.Tryz.f64,reduceIte,reduceCtorEq,Nat.reduceEqDiff,Nat.reduceAdd,Nat.reduceLeDiff,Nat.reduceSub,Nat.reduceMul,Nat.reduceLT,Nat.reduceShiftRight,Nat.reduceMod,Int.reduceLE,Int.reduceLT,Int.reduceToNat,List.cons.injEq,cdB]
 refine ud.run wcT yl ja (by kernel_rfl) (by kernel_rfl) ?_
 simp -implicitDefEqProofs only [cdA,go_sem,reduceIte,reduceCtorEq,Nat.reduceEqDiff,Nat.reduceAdd,Nat.reduceLeDiff,Nat.reduceSub,Nat.reduceMul,Nat.reduceLT,Nat.reduceShiftRight,Nat.reduceMod,Int.reduceLE,Int.reduceLT,Int.reduceToNat,List.cons.injEq,cdB]
 obtain⟨⟨h1,h2,h3,h4,h5,h6⟩,⟨ha,ha2⟩,hr,⟨hk,hk2⟩,hs⟩:=h
 refine⟨h1,h3,h4,h5,h6,fun _=>SWp.loop (ι:={i:Nat // i≤b.w.c.length}) (fun i=>⟨[(1, .ref 0 0),(2, .ref 1 0),(3, .ref 2 0),(35, .vec 3 b.w.c.length),(36, .int .i64 b.w.c.length),(37, .int .i64 i.1)],
  [(3, .vec true 7 86 (chs b.w.c)),(2, .box [.vec 3 b.w.c.length, .sl (wts b.w.w), .sl (ivs b.w.i), .sl (pys b.w.p), .c (.int .u64 b.w.f.next), .sl (evs b.w.f.l), .c (.int .u64 b.w.next), .c (.int .u64 b.w.tick)]),
    (1, .box [.nil, .nil, .nil, .nil, .c (.int .u64 0), .nil, .c (.int .u64 0), .c (.int .u64 0), .nil, .nil, .nil, .nil]),(0, .box [.sl (chs b.w.c), .sl (wts b.w.w), .sl (ivs b.w.i), .sl (pys b.w.p), .c (.int .u64 b.w.f.next), .sl (evs b.w.f.l), .c (.int .u64 b.w.next), .c (.int .u64 b.w.tick), .sl (tms b.a.l), .sl (rks b.r), .sl (kys b.k), .sl (cts b.s)])],4⟩) (fun i=>b.w.c.length - i.1) ⟨0,by omega⟩ ?_ ?_⟩
 ·simp [go_sem]
 ·rintro⟨i,hi⟩
  refine qa yl.toS vcI _ _ _ rfl ?_
  simp -implicitDefEqProofs only [cdA,go_sem,reduceIte,reduceCtorEq,Nat.reduceEqDiff,Nat.reduceAdd,Nat.reduceLeDiff,Nat.reduceSub,Nat.reduceMul,Nat.reduceLT,Nat.reduceShiftRight,Nat.reduceMod,Int.reduceLE,Int.reduceLT,Int.reduceToNat,List.cons.injEq,cdB]
  refine⟨fun h7=>⟨by omega,by omega, ?_⟩,fun _=> ?_⟩
  ·have hi':i<b.w.c.length:=by omega
   have hself:b.w.c.set i (b.w.c.getD i default)=b.w.c:=by
    rw [we hi'];exact List.set_getElem_self hi'
   have hhl:=h2 _ (ua.2 ⟨i,hi',rfl⟩)
   refine ud.run ucT yl ja (by kernel_rfl) (by kernel_rfl) ?_
   simp -implicitDefEqProofs only [cdA,go_sem,reduceIte,reduceCtorEq,Nat.reduceEqDiff,Nat.reduceAdd,Nat.reduceLeDiff,Nat.reduceSub,Nat.reduceMul,Nat.reduceLT,Nat.reduceShiftRight,Nat.reduceMod,Int.reduceLE,Int.reduceLT,Int.reduceToNat,List.cons.injEq,cdB]
   exact⟨hhl,by omega,hi',⟨i+1,hi'⟩,by dsimp only;omega,i64_in _ (by omega),by rw [hself]⟩
  refine ud.run gcT yl ja (by kernel_rfl) (by kernel_rfl) ?_
  simp -implicitDefEqProofs only [cdA,go_sem,reduceIte,reduceCtorEq,Nat.reduceEqDiff,Nat.reduceAdd,Nat.reduceLeDiff,Nat.reduceSub,Nat.reduceMul,Nat.reduceLT,Nat.reduceShiftRight,Nat.reduceMod,Int.reduceLE,Int.reduceLT,Int.reduceToNat,List.cons.injEq,cdB]
  refine⟨by omega,hr,hk,hs,fun _=>SWp.loop (ι:={i:Nat // i≤b.a.l.length}) (fun i=>⟨[(1, .ref 0 0),(2, .ref 1 0),(73, .vec 4 b.a.l.length),(74, .int .i64 b.a.l.length),(75, .int .i64 i.1)],[(6, .vec true 4 158 (kys b.k)),(5, .vec true 3 70 (rks b.r)),(4, .vec true 3 83 (tms b.a.l)),(3, .vec true 7 86 (chs b.w.c)),(7, .vec true 3 160 (cts b.s)),(0, .box [.vec 3 b.w.c.length, .sl (wts b.w.w), .sl (ivs b.w.i), .sl (pys b.w.p), .c (.int .u64 b.w.f.next), .sl (evs b.w.f.l), .c (.int .u64 b.w.next), .c (.int .u64 b.w.tick), .vec 4 b.a.l.length, .vec 5 b.r.length, .vec 6 b.k.length, .vec 7 b.s.length]),(1, .box [.nil, .nil, .nil, .nil, .c (.int .u64 0), .nil, .c (.int .u64 0), .c (.int .u64 0), .nil, .nil, .nil, .nil])],8⟩) (fun i=>b.a.l.length - i.1) ⟨0,by omega⟩ ?_ ?_⟩
  ·simp [go_sem]
  ·rintro⟨j,hj⟩
   refine qa yl.toS vcI _ _ _ rfl ?_
   simp -implicitDefEqProofs only [cdA,go_sem,reduceIte,reduceCtorEq,Nat.reduceEqDiff,Nat.reduceAdd,Nat.reduceLeDiff,Nat.reduceSub,Nat.reduceMul,Nat.reduceLT,Nat.reduceShiftRight,Nat.reduceMod,Int.reduceLE,Int.reduceLT,Int.reduceToNat,List.cons.injEq,cdB]
   refine⟨fun h7=>⟨by omega,by omega, ?_⟩,fun _=> ?_⟩
   ·have hj':j<b.a.l.length:=by omega
    have hself:b.a.l.set j (b.a.l.getD j default)=b.a.l:=by
     rw [we hj'];exact List.set_getElem_self hj'
    have hhl:=ha2 _ (ua.2 ⟨j,hj',rfl⟩)
    refine ud.run zce yl ja (by kernel_rfl) (by kernel_rfl) ?_
    simp -implicitDefEqProofs only [cdA,go_sem,reduceIte,reduceCtorEq,Nat.reduceEqDiff,Nat.reduceAdd,Nat.reduceLeDiff,Nat.reduceSub,Nat.reduceMul,Nat.reduceLT,Nat.reduceShiftRight,Nat.reduceMod,Int.reduceLE,Int.reduceLT,Int.reduceToNat,List.cons.injEq,cdB]
    exact⟨hhl,by omega,hj',⟨j+1,hj'⟩,by dsimp only;omega,i64_in _ (by omega),by rw [hself]⟩
   refine fun _=>SWp.loop (ι:={i:Nat // i≤b.k.length}) (fun i=>⟨[(1, .ref 0 0),(2, .ref 1 0),(91, .vec 6 b.k.length),(92, .int .i64 b.k.length),(93, .int .i64 i.1)],[(6, .vec true 4 158 (kys b.k)),(5, .vec true 3 70 (rks b.r)),(4, .vec true 3 83 (tms b.a.l)),(3, .vec true 7 86 (chs b.w.c)),(7, .vec true 3 160 (cts b.s)),(0, .box [.vec 3 b.w.c.length, .sl (wts b.w.w), .sl (ivs b.w.i), .sl (pys b.w.p), .c (.int .u64 b.w.f.next), .sl (evs b.w.f.l), .c (.int .u64 b.w.next), .c (.int .u64 b.w.tick), .vec 4 b.a.l.length, .vec 5 b.r.length, .vec 6 b.k.length, .vec 7 b.s.length]),(1, .box [.nil, .nil, .nil, .nil, .c (.int .u64 0), .nil, .c (.int .u64 0), .c (.int .u64 0), .nil, .nil, .nil, .nil])],8⟩) (fun i=>b.k.length - i.1) ⟨0,by omega⟩ ?_ ?_
   ·simp [go_sem]
   ·rintro⟨m,hm⟩
    refine qa yl.toS vcI _ _ _ rfl ?_
    simp -implicitDefEqProofs only [cdA,go_sem,reduceIte,reduceCtorEq,Nat.reduceEqDiff,Nat.reduceAdd,Nat.reduceLeDiff,Nat.reduceSub,Nat.reduceMul,Nat.reduceLT,Nat.reduceShiftRight,Nat.reduceMod,Int.reduceLE,Int.reduceLT,Int.reduceToNat,List.cons.injEq,cdB]
    refine⟨fun h7=>⟨by omega,by omega, ?_⟩,fun _=> ?_⟩
    ·have hm':m<b.k.length:=by omega
     have hself:b.k.set m (b.k.getD m default)=b.k:=by
      rw [we hm'];exact List.set_getElem_self hm'
     have hhl:=hk2 _ (ua.2 ⟨m,hm',rfl⟩)
     refine ud.wdX yce [0,1,0,0,8,0,0,64,192,0,512,1984,4039,8135,1267650600228229401496703221703,32767,65535,131071] yl ja (by kernel_rfl) (by kernel_rfl) (by kernel_rfl) ?_
     simp -implicitDefEqProofs only [cdA,go_sem,reduceIte,reduceCtorEq,Nat.reduceEqDiff,Nat.reduceAdd,Nat.reduceLeDiff,Nat.reduceSub,Nat.reduceMul,Nat.reduceLT,Nat.reduceShiftRight,Nat.reduceMod,Int.reduceLE,Int.reduceLT,Int.reduceToNat,List.cons.injEq,cdB]
     refine⟨hhl.1,hhl.2,by omega,hm',by rw [hself],by omega,hm',⟨m+1,hm'⟩,by dsimp only;omega,i64_in _ (by omega), ?_⟩
     rw [hself]
     exact congrArg (fun l=>Ob.vec true 4 158 (kys l)) hself
    exact⟨⟨_,_,_,rfl⟩,⟨_,_,_,rfl⟩,⟨_,_,_,rfl⟩,⟨_,_,_,rfl⟩,⟨_,_,_,rfl⟩⟩
@[go_sem] def bbM (b:Bk):Prop:=(wa0 b)
def vao:List D→Option (Prop×D×Fr)
 |[.agg [.c (.sl z4), .c (.sl z5), .c (.sl z6), .c (.sl z7), .c (.int .u64 z9), .c (.sl z10), .c (.int .u64 z11), .c (.int .u64 z12), .c (.sl z14), .c (.sl z15), .c (.sl z16), .c (.sl z17)]]=>some (z4=chs (ug z4)∧z5=wts (vl z5)∧z6=ivs (qi z6)∧z7=pys (ji z7)∧z9=(z9.toNat:Int)∧z10=evs (xh z10)∧z11=(z11.toNat:Int)∧z12=(z12.toNat:Int)∧z14=tms (zh z14)∧z15=rks (vj z15)∧z16=kys (yo z16)∧z17=cts (xm z17)∧bbM (⟨(⟨(ug z4),(vl z5),(qi z6),(ji z7),(⟨z9.toNat,(xh z10)⟩:Fd),z11.toNat,z12.toNat⟩:Wl),(⟨(zh z14)⟩:Ar),(vj z15),(yo z16),(xm z17)⟩:Bk),zbN (⟨(⟨(ug z4),(vl z5),(qi z6),(ji z7),(⟨z9.toNat,(xh z10)⟩:Fd),z11.toNat,z12.toNat⟩:Wl),(⟨(zh z14)⟩:Ar),(vj z15),(yo z16),(xm z17)⟩:Bk),[])
 |_=>none
attribute [go_sem] vao
theorem vba:∀rs p r fr,vao rs=some (p,r,fr)→p→uc Tryz.prog 64 rs r fr:=by
 intro rs p r fr h hp
 unfold vao at h
 split at h<;>cases h
 obtain⟨hc0,hc1,hc2,hc3,hc4,hc5,hc6,hc7,hc8,hc9,hc10,hc11,hp⟩:=hp
 rename_i z4 z5 z6 z7 z9 z10 z11 z12 z14 z15 z16 z17
 obtain⟨z4,rfl⟩:∃m,z4=chs m:=⟨_,hc0⟩
 obtain⟨z5,rfl⟩:∃m,z5=wts m:=⟨_,hc1⟩
 obtain⟨z6,rfl⟩:∃m,z6=ivs m:=⟨_,hc2⟩
 obtain⟨z7,rfl⟩:∃m,z7=pys m:=⟨_,hc3⟩
 obtain⟨z9,rfl⟩:∃m:Nat,z9=m:=⟨_,hc4⟩
 obtain⟨z10,rfl⟩:∃m,z10=evs m:=⟨_,hc5⟩
 obtain⟨z11,rfl⟩:∃m:Nat,z11=m:=⟨_,hc6⟩
 obtain⟨z12,rfl⟩:∃m:Nat,z12=m:=⟨_,hc7⟩
 obtain⟨z14,rfl⟩:∃m,z14=tms m:=⟨_,hc8⟩
 obtain⟨z15,rfl⟩:∃m,z15=rks m:=⟨_,hc9⟩
 obtain⟨z16,rfl⟩:∃m,z16=kys m:=⟨_,hc10⟩
 obtain⟨z17,rfl⟩:∃m,z17=cts m:=⟨_,hc11⟩
 simp only [Int.toNat_natCast,yb,jd,qb,vb,ze,jb,yc,xb,qc]
 simp only [Int.toNat_natCast,yb,jd,qb,vb,ze,jb,yc,xb,qc,bbM]at hp
 exact vbY ⟨⟨z4,z5,z6,z7,⟨z9,z10⟩,z11,z12⟩,⟨z14⟩,z15,z16,z17⟩ hp
end Dm
namespace Dm
open Go Go.Proofs
set_option maxRecDepth 20000
theorem wf_u64 {n:Int} (h:(Lit.int .u64 n).wf=true):0≤n∧n≤18446744073709551615:=by
 simp [Lit.wf,IntKind.min,IntKind.max,IntKind.bits,IntKind.signed]at h
 omega
theorem wf_i64 {n:Int} (h:(Lit.int .i64 n).wf=true): -9223372036854775808≤n∧n≤9223372036854775807:=by
 simp [Lit.wf,IntKind.min,IntKind.max,IntKind.bits,IntKind.signed]at h
 omega
theorem vaI {k:Nat} {xs:List C} (h:Typ Tryz.prog (k+1) 23 xs):∃n:Nat,xs=[.int .u64 (n:Int)]∧n≤18446744073709551615:=by
 simp only [Typ,Tryz.underlying23]at h
 obtain⟨n,rfl,h1⟩:=h
 have:=wf_u64 h1
 exact⟨n.toNat,by rw [Int.toNat_of_nonneg (by omega)],by omega⟩
theorem uez {k:Nat} {xs:List C} (h:Typ Tryz.prog (k+1) 3 xs):∃n:Int,xs=[.int .i64 n]∧ -9223372036854775808≤n∧n≤9223372036854775807:=by
 simp only [Typ,Tryz.underlying3]at h
 obtain⟨n,rfl,h1⟩:=h
 have:=wf_i64 h1
 exact⟨n,rfl,by omega,by omega⟩
theorem xd2 {k:Nat} {xs:List C} (h:Typ Tryz.prog (k+2) 22 xs):∃l,xs=[.sl (yj l)]∧∀e∈l,e≤18446744073709551615:=by
 simp only [Typ,Tryz.underlying22]at h
 obtain⟨els,rfl,_,h2⟩:=h
 have h3:=fun x hx=>vaI (k:=k) (h2 x hx)
 have:∀els:List (List C),(∀x∈els,Typ Tryz.prog (k+1) 23 x)→∃l:List Nat,els=yj l∧∀e∈l,e≤18446744073709551615:=by
  intro els
  induction els with
  |nil=>exact fun _=>⟨[],rfl,by simp⟩
  |cons x t ih=>
   intro h3
   obtain⟨l,h4,h5⟩:=ih (fun y hy=>h3 y (List.mem_cons_of_mem _ hy))
   obtain⟨n,rfl,h6⟩:=vaI (k:=k) (h3 x (List.mem_cons_self ..))
   subst h4
   exact⟨n::l,rfl,fun e he=>(List.mem_cons.1 he).elim (fun h=>by rw [h];exact h6) (h5 e)⟩
 obtain⟨l,rfl,h⟩:=this els h2
 exact⟨l,rfl,h⟩
def Hd.rng (e:Hd):Prop:=e.id≤18446744073709551615∧e.n≤18446744073709551615
def Ch.rng (e:Ch):Prop:=e.id≤18446744073709551615∧e.loc≤18446744073709551615∧e.rem≤18446744073709551615∧e.res≤18446744073709551615∧e.most≤18446744073709551615∧(∀q∈e.holds,q.rng)∧True
def Wt.rng (e:Wt):Prop:=e.id≤18446744073709551615∧True
def Iv.rng (e:Iv):Prop:=e.hash≤18446744073709551615∧e.n≤18446744073709551615∧e.till≤18446744073709551615∧(-9223372036854775808≤e.state∧e.state≤9223372036854775807)
def Py.rng (e:Py):Prop:=e.id≤18446744073709551615∧e.hash≤18446744073709551615∧e.chan≤18446744073709551615∧e.n≤18446744073709551615∧(-9223372036854775808≤e.state∧e.state≤9223372036854775807)
def Ev.rng (e:Ev):Prop:=e.seq≤18446744073709551615∧(-9223372036854775808≤e.kind∧e.kind≤9223372036854775807)∧e.a≤18446744073709551615∧e.n≤18446744073709551615
def Fd.rng (e:Fd):Prop:=e.next≤18446744073709551615∧(∀q∈e.l,q.rng)
def Tm.rng (e:Tm):Prop:=e.key≤18446744073709551615∧(-9223372036854775808≤e.up∧e.up≤9223372036854775807)∧True
def Ar.rng (e:Ar):Prop:=(∀q∈e.l,q.rng)
def Rk.rng (e:Rk):Prop:=e.id≤18446744073709551615∧e.key≤18446744073709551615∧True
def Ky.rng (e:Ky):Prop:=e.k≤18446744073709551615∧True∧True∧e.till≤18446744073709551615
def Ct.rng (e:Ct):Prop:=e.root≤18446744073709551615∧e.b≤18446744073709551615∧e.n≤18446744073709551615
def Cv.rng (e:Cv):Prop:=(-9223372036854775808≤e.kind∧e.kind≤9223372036854775807)∧e.a≤18446744073709551615∧e.b≤18446744073709551615
theorem kd2 {k:Nat} {xs:List C} (h:Typ Tryz.prog (k+2) 59 xs):(Cv.dec xs).enc=xs∧(Cv.dec xs).rng:=by
 simp only [Typ,Tryz.underlying59,gaJ,Tryz.underlying3,Tryz.underlying23]at h
 obtain⟨_,_,rfl,⟨s0,rfl,h0⟩,_,_,rfl,⟨s1,rfl,h1⟩,_,_,rfl,⟨s2,rfl,h2⟩,rfl⟩:=h
 have q0:=wf_i64 h0
 have q1:=wf_u64 h1
 have q2:=wf_u64 h2
 simp only [List.cons_append,List.nil_append,List.append_nil]
 refine⟨by simp [Cv.dec,Cv.enc,Int.toNat_of_nonneg q1.1,Int.toNat_of_nonneg q2.1], ?_⟩
 simp only [Cv.dec,Cv.rng]
 exact⟨⟨by omega,by omega⟩,by omega,by omega⟩
theorem bby {els:List (List C)} (h:∀x∈els,(Cv.dec x).enc=x):cvs (zj els)=els:=by
 simp only [cvs,zj,List.map_map]
 refine(List.map_congr_left fun x hx=> ?_).trans (List.map_id _)
 exact h x hx
theorem bcR {k:Nat} {xs:List C} (h:Typ Tryz.prog (k+3) 24 xs):∃l,xs=[.sl (cvs l)]∧∀e∈l,e.rng:=by
 simp only [Typ,Tryz.underlying24]at h
 obtain⟨els,rfl,_,h2⟩:=h
 have h3:∀x∈els,(Cv.dec x).enc=x∧(Cv.dec x).rng:=fun x hx=>kd2 (k:=k) (h2 x hx)
 refine⟨zj els,by rw [bby fun x hx=>(h3 x hx).1],fun e he=> ?_⟩
 obtain⟨x,hx,rfl⟩:=List.mem_map.1 he
 exact(h3 x hx).2
def Tk.rng (e:Tk):Prop:=e.root≤18446744073709551615∧(∀q∈e.l,q.rng)∧(-9223372036854775808≤e.tag∧e.tag≤9223372036854775807)
theorem qd2 {k:Nat} {xs:List C} (h:Typ Tryz.prog (k+4) 26 xs):(Tk.dec xs).enc=xs∧(Tk.dec xs).rng:=by
 simp only [Typ,Tryz.underlying26,gaJ,Tryz.underlying3,Tryz.underlying23]at h
 obtain⟨_,_,rfl,⟨s0,rfl,h0⟩,_,_,rfl,hs1,_,_,rfl,⟨s2,rfl,h2⟩,rfl⟩:=h
 have q0:=wf_u64 h0
 obtain⟨s1,rfl,q1⟩:=bcR (k:=k+0) hs1
 have q2:=wf_i64 h2
 simp only [List.cons_append,List.nil_append,List.append_nil]
 refine⟨by simp [Tk.dec,Tk.enc,Int.toNat_of_nonneg q0.1,ye], ?_⟩
 simp only [Tk.dec,Tk.rng,ye]
 exact⟨by omega,q1,⟨by omega,by omega⟩⟩
def It.rng (e:It):Prop:=e.hash≤18446744073709551615∧e.n≤18446744073709551615
theorem zcS {k:Nat} {xs:List C} (h:Typ Tryz.prog (k+2) 250 xs):(It.dec xs).enc=xs∧(It.dec xs).rng:=by
 simp only [Typ,Tryz.underlying250,gaJ,Tryz.underlying23]at h
 obtain⟨_,_,rfl,⟨s0,rfl,h0⟩,_,_,rfl,⟨s1,rfl,h1⟩,rfl⟩:=h
 have q0:=wf_u64 h0
 have q1:=wf_u64 h1
 simp only [List.cons_append,List.nil_append,List.append_nil]
 refine⟨by simp [It.dec,It.enc,Int.toNat_of_nonneg q0.1,Int.toNat_of_nonneg q1.1], ?_⟩
 simp only [It.dec,It.rng]
 exact⟨by omega,by omega⟩
theorem wbB {els:List (List C)} (h:∀x∈els,(It.dec x).enc=x):its (y7 els)=els:=by
 simp only [its,y7,List.map_map]
 refine(List.map_congr_left fun x hx=> ?_).trans (List.map_id _)
 exact h x hx
theorem jd2 {k:Nat} {xs:List C} (h:Typ Tryz.prog (k+3) 27 xs):∃l,xs=[.sl (its l)]∧∀e∈l,e.rng:=by
 simp only [Typ,Tryz.underlying27]at h
 obtain⟨els,rfl,_,h2⟩:=h
 have h3:∀x∈els,(It.dec x).enc=x∧(It.dec x).rng:=fun x hx=>zcS (k:=k) (h2 x hx)
 refine⟨y7 els,by rw [wbB fun x hx=>(h3 x hx).1],fun e he=> ?_⟩
 obtain⟨x,hx,rfl⟩:=List.mem_map.1 he
 exact(h3 x hx).2
def Wl.rng (w:Wl):Prop:=(∀e∈w.c,e.rng)∧(∀e∈w.w,e.rng)∧(∀e∈w.i,e.rng)∧(∀e∈w.p,e.rng)∧w.f.rng∧w.next≤18446744073709551615∧w.tick≤18446744073709551615
def Bk.rng (b:Bk):Prop:=b.w.rng∧b.a.rng∧(∀e∈b.r,e.rng)∧(∀e∈b.k,e.rng)∧∀e∈b.s,e.rng
def Rq.rng (r:Rq):Prop:=r.id≤18446744073709551615∧(-9223372036854775808≤r.method∧r.method≤9223372036854775807)∧r.key≤18446744073709551615∧r.t.rng∧r.a≤18446744073709551615∧r.n≤18446744073709551615∧r.till≤18446744073709551615∧(∀e∈r.items,e.rng)∧∀e∈r.l,e.rng
theorem ycS {k:Nat} {xs:List C} (h:Typ Tryz.prog (k+5) 29 xs):∃r:Rq,xs=r.enc∧r.rng:=by
 rw [show k+5=(k+4)+1 from rfl,Typ,Tryz.underlying29]at h
 simp only [gaJ]at h
 obtain⟨_,_,rfl,h0,_,_,rfl,h1,_,_,rfl,h2,_,_,rfl,h3,_,_,rfl,h4,_,_,rfl,h5,_,_,rfl,h6,_,_,rfl,h7,_,_,rfl,h8,rfl⟩:=h
 obtain⟨i,rfl,q0⟩:=vaI (k:=k+3) h0
 obtain⟨m,rfl,q1⟩:=uez (k:=k+3) h1
 obtain⟨y,rfl,q2⟩:=vaI (k:=k+3) h2
 obtain⟨e3,q3⟩:=qd2 (k:=k) h3
 obtain⟨a,rfl,q4⟩:=vaI (k:=k+3) h4
 obtain⟨n,rfl,q5⟩:=vaI (k:=k+3) h5
 obtain⟨t,rfl,q6⟩:=vaI (k:=k+3) h6
 obtain⟨l,rfl,q7⟩:=jd2 (k:=k+1) h7
 obtain⟨c,rfl,q8⟩:=bcR (k:=k+1) h8
 refine⟨⟨i,m,y,Tk.dec _,a,n,t,l,c⟩, ?_,q0,q1,q2,q3,q4,q5,q6,q7,q8⟩
 rw [←e3]
 simp [Rq.enc,Tk.enc,Tk.dec,ye]
end Dm
namespace Dm
open Go Go.Proofs Go.IntWalk
def zL (b:Bk) (r:Rq) (who:Nat):Us×Int:=if(gac r).2=0∧jU b=0 then(⟨b.w.tick,r.method,(gac r).1,who⟩,0)else(⟨0,0,0,0⟩,1)
@[go_sem] def zbO (b:Bk) (r:Rq) (who:Nat):D:= .tup [.agg [.int .u64 ((zL b r who).1.tick:Nat), .int .i64 (zL b r who).1.method, .int .u64 ((zL b r who).1.amount:Nat), .int .u64 ((zL b r who).1.who:Nat)], .int .i64 (zL b r who).2]
@[go_sem] abbrev vej:FuncId:=17
@[go_sem] def gcB:Tab:=[(57,ga0),(31,uD)]
theorem qbh:za Tryz.prog gcB:=(za.cons zbt (za.cons qW za.nil))
set_option maxRecDepth 8000 in
set_option maxHeartbeats 1000000 in
theorem ubY (b:Bk) (r:Rq) (who:Nat) (h:b.w.f.next≤18446744073709551615):va Tryz.prog 17 [.agg [.sl (chs b.w.c), .sl (wts b.w.w), .sl (ivs b.w.i), .sl (pys b.w.p), .c (.int .u64 (b.w.f.next:Int)), .sl (evs b.w.f.l), .c (.int .u64 (b.w.next:Int)), .c (.int .u64 (b.w.tick:Int)), .sl (tms b.a.l), .sl (rks b.r), .sl (kys b.k), .sl (cts b.s)], .agg [.c (.int .u64 (r.id:Int)), .c (.int .i64 r.method), .c (.int .u64 (r.key:Int)), .c (.int .u64 (r.t.root:Int)), .sl (cvs r.t.l), .c (.int .i64 r.t.tag), .c (.int .u64 (r.a:Int)), .c (.int .u64 (r.n:Int)), .c (.int .u64 (r.till:Int)), .sl (its r.items), .sl (cvs r.l)], .c (.int .u64 (who:Int))] (zbO b r who):=by
 refine .of (zer qbh (Nat.le_of_ble_eq_true rfl) ?_)
 simp -implicitDefEqProofs only [cdA,go_sem,Go.Proofs.Tryz.f17,reduceIte,reduceCtorEq,Nat.reduceEqDiff,Nat.reduceAdd,Nat.reduceLeDiff,Nat.reduceSub,Nat.reduceMul,Nat.reduceLT,Nat.reduceShiftRight,Nat.reduceMod,Int.reduceLE,Int.reduceLT,Int.reduceToNat,List.cons.injEq,cdB]
 refine⟨fun h1=>⟨h,fun h2=> ?_,fun h2=> ?_⟩,fun h1=> ?_⟩
 ·rw [zL,if_pos ⟨h1,h2⟩];exact⟨⟨rfl,rfl,rfl,rfl⟩,rfl⟩
 ·rw [zL,if_neg fun h=>h2 h.2];exact⟨⟨rfl,rfl,rfl,rfl⟩,rfl⟩
 ·rw [zL,if_neg fun h=>h1 h.1];exact⟨⟨rfl,rfl,rfl,rfl⟩,rfl⟩
@[go_sem] def bbN (b:Bk) (r:Rq) (who:Nat):Prop:=(b.w.f.next≤18446744073709551615)
def wao:List D→Option (Prop×D×Fr)
 |[.agg [.c (.sl z3), .c (.sl z4), .c (.sl z5), .c (.sl z6), .c (.int .u64 z8), .c (.sl z9), .c (.int .u64 z10), .c (.int .u64 z11), .c (.sl z13), .c (.sl z14), .c (.sl z15), .c (.sl z16)], .agg [.c (.int .u64 z18), .c (.int .i64 z19), .c (.int .u64 z20), .c (.int .u64 z22), .c (.sl z23), .c (.int .i64 z24), .c (.int .u64 z25), .c (.int .u64 z26), .c (.int .u64 z27), .c (.sl z28), .c (.sl z29)], .c (.int .u64 z30)]=>some (z3=chs (ug z3)∧z4=wts (vl z4)∧z5=ivs (qi z5)∧z6=pys (ji z6)∧z8=(z8.toNat:Int)∧z9=evs (xh z9)∧z10=(z10.toNat:Int)∧z11=(z11.toNat:Int)∧z13=tms (zh z13)∧z14=rks (vj z14)∧z15=kys (yo z15)∧z16=cts (xm z16)∧z18=(z18.toNat:Int)∧z20=(z20.toNat:Int)∧z22=(z22.toNat:Int)∧z23=cvs (zj z23)∧z25=(z25.toNat:Int)∧z26=(z26.toNat:Int)∧z27=(z27.toNat:Int)∧z28=its (y7 z28)∧z29=cvs (zj z29)∧z30=(z30.toNat:Int)∧bbN (⟨(⟨(ug z3),(vl z4),(qi z5),(ji z6),(⟨z8.toNat,(xh z9)⟩:Fd),z10.toNat,z11.toNat⟩:Wl),(⟨(zh z13)⟩:Ar),(vj z14),(yo z15),(xm z16)⟩:Bk) (⟨z18.toNat,z19,z20.toNat,(⟨z22.toNat,(zj z23),z24⟩:Tk),z25.toNat,z26.toNat,z27.toNat,(y7 z28),(zj z29)⟩:Rq) z30.toNat,zbO (⟨(⟨(ug z3),(vl z4),(qi z5),(ji z6),(⟨z8.toNat,(xh z9)⟩:Fd),z10.toNat,z11.toNat⟩:Wl),(⟨(zh z13)⟩:Ar),(vj z14),(yo z15),(xm z16)⟩:Bk) (⟨z18.toNat,z19,z20.toNat,(⟨z22.toNat,(zj z23),z24⟩:Tk),z25.toNat,z26.toNat,z27.toNat,(y7 z28),(zj z29)⟩:Rq) z30.toNat,[])
 |_=>none
attribute [go_sem] wao
theorem wba:∀rs p r fr,wao rs=some (p,r,fr)→p→uc Tryz.prog 17 rs r fr:=by
 intro rs p r fr h hp
 unfold wao at h
 split at h<;>cases h
 obtain⟨hc0,hc1,hc2,hc3,hc4,hc5,hc6,hc7,hc8,hc9,hc10,hc11,hc12,hc13,hc14,hc15,hc16,hc17,hc18,hc19,hc20,hc21,hp⟩:=hp
 rename_i z3 z4 z5 z6 z8 z9 z10 z11 z13 z14 z15 z16 z18 z19 z20 z22 z23 z24 z25 z26 z27 z28 z29 z30
 obtain⟨z3,rfl⟩:∃m,z3=chs m:=⟨_,hc0⟩
 obtain⟨z4,rfl⟩:∃m,z4=wts m:=⟨_,hc1⟩
 obtain⟨z5,rfl⟩:∃m,z5=ivs m:=⟨_,hc2⟩
 obtain⟨z6,rfl⟩:∃m,z6=pys m:=⟨_,hc3⟩
 obtain⟨z8,rfl⟩:∃m:Nat,z8=m:=⟨_,hc4⟩
 obtain⟨z9,rfl⟩:∃m,z9=evs m:=⟨_,hc5⟩
 obtain⟨z10,rfl⟩:∃m:Nat,z10=m:=⟨_,hc6⟩
 obtain⟨z11,rfl⟩:∃m:Nat,z11=m:=⟨_,hc7⟩
 obtain⟨z13,rfl⟩:∃m,z13=tms m:=⟨_,hc8⟩
 obtain⟨z14,rfl⟩:∃m,z14=rks m:=⟨_,hc9⟩
 obtain⟨z15,rfl⟩:∃m,z15=kys m:=⟨_,hc10⟩
 obtain⟨z16,rfl⟩:∃m,z16=cts m:=⟨_,hc11⟩
 obtain⟨z18,rfl⟩:∃m:Nat,z18=m:=⟨_,hc12⟩
 obtain⟨z20,rfl⟩:∃m:Nat,z20=m:=⟨_,hc13⟩
 obtain⟨z22,rfl⟩:∃m:Nat,z22=m:=⟨_,hc14⟩
 obtain⟨z23,rfl⟩:∃m,z23=cvs m:=⟨_,hc15⟩
 obtain⟨z25,rfl⟩:∃m:Nat,z25=m:=⟨_,hc16⟩
 obtain⟨z26,rfl⟩:∃m:Nat,z26=m:=⟨_,hc17⟩
 obtain⟨z27,rfl⟩:∃m:Nat,z27=m:=⟨_,hc18⟩
 obtain⟨z28,rfl⟩:∃m,z28=its m:=⟨_,hc19⟩
 obtain⟨z29,rfl⟩:∃m,z29=cvs m:=⟨_,hc20⟩
 obtain⟨z30,rfl⟩:∃m:Nat,z30=m:=⟨_,hc21⟩
 simp only [Int.toNat_natCast,yb,jd,ye,qb,uo,vb,ze,jb,yc,xb,qc]
 simp only [Int.toNat_natCast,yb,jd,ye,qb,uo,vb,ze,jb,yc,xb,qc,bbN]at hp
 exact ubY ⟨⟨z3,z4,z5,z6,⟨z8,z9⟩,z10,z11⟩,⟨z13⟩,z14,z15,z16⟩ ⟨z18,z19,z20,⟨z22,z23,z24⟩,z25,z26,z27,z28,z29⟩ z30 hp
def j9 (b:Bk) (r:Rq) (who:Nat):Bool×Int:=
 if(zL b r who).2≠0 then(false,(zL b r who).2)else if(vaj b.r r.t.root).2≠0 then(false,0)else
 if(ga1 b.a.l (vaj b.r r.t.root).1 r.t).2≠0∨(ga1 b.a.l (vaj b.r r.t.root).1 r.t).1=false then(false,(ga1 b.a.l (vaj b.r r.t.root).1 r.t).2)else
 if(waS r.t.l (zL b r who).1).2≠0∨(waS r.t.l (zL b r who).1).1=false then(false,(waS r.t.l (zL b r who).1).2)else
 if(kbk b.s r.t.root r.t.l (zL b r who).1.amount).2≠0∨(kbk b.s r.t.root r.t.l (zL b r who).1.amount).1=false then(false,(kbk b.s r.t.root r.t.l (zL b r who).1.amount).2)else(true,0)
@[go_sem] def vbM (b:Bk) (r:Rq) (who:Nat):D:= .tup [.bool (j9 b r who).1, .int .i64 (j9 b r who).2]
@[go_sem] abbrev qej:FuncId:=14
@[go_sem] def jcB:Tab:=[(17,wao),(42,gZ),(44,yI),(46,vY),(48,u0)]
theorem zn:za Tryz.prog jcB:=(za.cons wba (za.cons yaR (za.cons yar (za.cons gaP (za.cons jaR za.nil)))))
set_option maxRecDepth 8000 in
set_option maxHeartbeats 1000000 in
theorem jbY (b:Bk) (r:Rq) (who:Nat) (h:b.w.f.next≤18446744073709551615):va Tryz.prog 14 [.agg [.sl (chs b.w.c), .sl (wts b.w.w), .sl (ivs b.w.i), .sl (pys b.w.p), .c (.int .u64 (b.w.f.next:Int)), .sl (evs b.w.f.l), .c (.int .u64 (b.w.next:Int)), .c (.int .u64 (b.w.tick:Int)), .sl (tms b.a.l), .sl (rks b.r), .sl (kys b.k), .sl (cts b.s)], .agg [.c (.int .u64 (r.id:Int)), .c (.int .i64 r.method), .c (.int .u64 (r.key:Int)), .c (.int .u64 (r.t.root:Int)), .sl (cvs r.t.l), .c (.int .i64 r.t.tag), .c (.int .u64 (r.a:Int)), .c (.int .u64 (r.n:Int)), .c (.int .u64 (r.till:Int)), .sl (its r.items), .sl (cvs r.l)], .c (.int .u64 (who:Int))] (vbM b r who):=by
 refine .of (veq zn (Nat.le_of_ble_eq_true rfl) ?_)
 simp -implicitDefEqProofs only [cdA,go_sem,Go.Proofs.Tryz.f14,reduceIte,reduceCtorEq,Nat.reduceEqDiff,Nat.reduceAdd,Nat.reduceLeDiff,Nat.reduceSub,Nat.reduceMul,Nat.reduceLT,Nat.reduceShiftRight,Nat.reduceMod,Int.reduceLE,Int.reduceLT,Int.reduceToNat,List.cons.injEq,cdB]
 refine⟨h,fun hu=>⟨fun hk=> ?_,fun hk=> ?_⟩,fun hu=> ?_⟩
 rotate_left 1
 ·rw [j9,if_neg (fun h=>h hu),if_pos hk];exact⟨rfl,rfl⟩
 ·rw [j9,if_pos hu];exact⟨rfl,rfl⟩
 refine SWp.loop (ι:={i:Nat // i≤3∧(0<i→¬((ga1 b.a.l (vaj b.r r.t.root).1 r.t).2≠0∨(ga1 b.a.l (vaj b.r r.t.root).1 r.t).1=false))∧(1<i→¬((waS r.t.l (zL b r who).1).2≠0∨(waS r.t.l (zL b r who).1).1=false))∧(2<i→¬((kbk b.s r.t.root r.t.l (zL b r who).1.amount).2≠0∨(kbk b.s r.t.root r.t.l (zL b r who).1.amount).1=false))}) (fun i=>⟨[(42, .agg [.fn (.func 43) [] [.ref 0 0, .ref 3 0, .ref 1 0], .fn (.func 45) [] [.ref 1 0, .ref 2 0], .fn (.func 47) [] [.ref 0 0, .ref 1 0, .ref 2 0]]),(43, .int .i64 i.1)],[(3, .box [.int .u64 (vaj b.r r.t.root).1]),(2, .box [.int .u64 (zL b r who).1.tick, .int .i64 (zL b r who).1.method, .int .u64 (zL b r who).1.amount, .int .u64 (zL b r who).1.who]),(1, .box [.c (.int .u64 r.id), .c (.int .i64 r.method), .c (.int .u64 r.key), .c (.int .u64 r.t.root), .sl (cvs r.t.l), .c (.int .i64 r.t.tag), .c (.int .u64 r.a), .c (.int .u64 r.n), .c (.int .u64 r.till), .sl (its r.items), .sl (cvs r.l)]),(0, .box [.sl (chs b.w.c), .sl (wts b.w.w), .sl (ivs b.w.i), .sl (pys b.w.p), .c (.int .u64 b.w.f.next), .sl (evs b.w.f.l), .c (.int .u64 b.w.next), .c (.int .u64 b.w.tick), .sl (tms b.a.l), .sl (rks b.r), .sl (kys b.k), .sl (cts b.s)])],4⟩) (fun i=>3 - i.1) ⟨0,by simp⟩ ?_ ?_
 ·simp [go_sem]
 ·rintro⟨i,hi,h1,h2,h3⟩
  match i,hi,h1,h2,h3 with
  |3,_,h1,h2,h3=>
   refine qa zn.toS bcn _ _ _ rfl ?_
   simp -implicitDefEqProofs only [cdA,go_sem,reduceIte,reduceCtorEq,Nat.reduceEqDiff,Nat.reduceAdd,Nat.reduceLeDiff,Nat.reduceSub,Nat.reduceMul,Nat.reduceLT,Nat.reduceShiftRight,Nat.reduceMod,Int.reduceLE,Int.reduceLT,Int.reduceToNat,List.cons.injEq,cdB]
   refine⟨fun h=>h.elim, ?_⟩
   rw [j9,if_neg (fun h=>h hu),if_neg (fun h=>h hk),if_neg (h1 (by decide)),if_neg (h2 (by decide)),if_neg (h3 (by decide))];exact⟨rfl,rfl⟩
  |2,_,h1,h2,h3=>
   refine qa zn.toS bcn _ _ _ rfl ?_
   simp -implicitDefEqProofs only [cdA,go_sem,reduceIte,reduceCtorEq,Nat.reduceEqDiff,Nat.reduceAdd,Nat.reduceLeDiff,Nat.reduceSub,Nat.reduceMul,Nat.reduceLT,Nat.reduceShiftRight,Nat.reduceMod,Int.reduceLE,Int.reduceLT,Int.reduceToNat,List.cons.injEq,cdB]
   refine xet zn (Nat.le_of_ble_eq_true rfl) ?_
   simp -implicitDefEqProofs only [cdA,go_sem,Go.Proofs.Tryz.f47,reduceIte,reduceCtorEq,Nat.reduceEqDiff,Nat.reduceAdd,Nat.reduceLeDiff,Nat.reduceSub,Nat.reduceMul,Nat.reduceLT,Nat.reduceShiftRight,Nat.reduceMod,Int.reduceLE,Int.reduceLT,Int.reduceToNat,List.cons.injEq,cdB]
   refine⟨fun h6=>⟨fun h7=>⟨⟨3,by decide,fun _=>h1 (by decide),fun _=>h2 (by decide),fun _ h=>h.elim (fun h=>h h6) fun h=>(Bool.noConfusion (h7.symm.trans h))⟩,by dsimp only;omega,by kernel_rfl⟩,fun h7=> ?_⟩,fun h6=> ?_⟩
   ·rw [j9,if_neg (fun h=>h hu),if_neg (fun h=>h hk),if_neg (h1 (by decide)),if_neg (h2 (by decide)),if_pos (.inr h7)];exact⟨rfl,rfl⟩
   ·rw [j9,if_neg (fun h=>h hu),if_neg (fun h=>h hk),if_neg (h1 (by decide)),if_neg (h2 (by decide)),if_pos (.inl h6)];exact⟨rfl,rfl⟩
  |1,_,h1,h2,h3=>
   refine qa zn.toS bcn _ _ _ rfl ?_
   simp -implicitDefEqProofs only [cdA,go_sem,reduceIte,reduceCtorEq,Nat.reduceEqDiff,Nat.reduceAdd,Nat.reduceLeDiff,Nat.reduceSub,Nat.reduceMul,Nat.reduceLT,Nat.reduceShiftRight,Nat.reduceMod,Int.reduceLE,Int.reduceLT,Int.reduceToNat,List.cons.injEq,cdB]
   refine zet zn (Nat.le_of_ble_eq_true rfl) ?_
   simp -implicitDefEqProofs only [cdA,go_sem,Go.Proofs.Tryz.f45,reduceIte,reduceCtorEq,Nat.reduceEqDiff,Nat.reduceAdd,Nat.reduceLeDiff,Nat.reduceSub,Nat.reduceMul,Nat.reduceLT,Nat.reduceShiftRight,Nat.reduceMod,Int.reduceLE,Int.reduceLT,Int.reduceToNat,List.cons.injEq,cdB]
   refine⟨fun h6=>⟨fun h7=>⟨⟨2,by decide,fun _=>h1 (by decide),fun _ h=>h.elim (fun h=>h h6) fun h=>(Bool.noConfusion (h7.symm.trans h)),fun h=>absurd h (by decide)⟩,by dsimp only;omega,by kernel_rfl⟩,fun h7=> ?_⟩,fun h6=> ?_⟩
   ·rw [j9,if_neg (fun h=>h hu),if_neg (fun h=>h hk),if_neg (h1 (by decide)),if_pos (.inr h7)];exact⟨rfl,rfl⟩
   ·rw [j9,if_neg (fun h=>h hu),if_neg (fun h=>h hk),if_neg (h1 (by decide)),if_pos (.inl h6)];exact⟨rfl,rfl⟩
  |0,_,h1,h2,h3=>
   refine qa zn.toS bcn _ _ _ rfl ?_
   simp -implicitDefEqProofs only [cdA,go_sem,reduceIte,reduceCtorEq,Nat.reduceEqDiff,Nat.reduceAdd,Nat.reduceLeDiff,Nat.reduceSub,Nat.reduceMul,Nat.reduceLT,Nat.reduceShiftRight,Nat.reduceMod,Int.reduceLE,Int.reduceLT,Int.reduceToNat,List.cons.injEq,cdB]
   refine ges zn (Nat.le_of_ble_eq_true rfl) ?_
   simp -implicitDefEqProofs only [cdA,go_sem,Go.Proofs.Tryz.f43,reduceIte,reduceCtorEq,Nat.reduceEqDiff,Nat.reduceAdd,Nat.reduceLeDiff,Nat.reduceSub,Nat.reduceMul,Nat.reduceLT,Nat.reduceShiftRight,Nat.reduceMod,Int.reduceLE,Int.reduceLT,Int.reduceToNat,List.cons.injEq,cdB]
   refine⟨fun h6=>⟨fun h7=>⟨⟨1,by decide,fun _ h=>h.elim (fun h=>h h6) fun h=>(Bool.noConfusion (h7.symm.trans h)),fun h=>absurd h (by decide),fun h=>absurd h (by decide)⟩,by dsimp only;omega,by kernel_rfl⟩,fun h7=> ?_⟩,fun h6=> ?_⟩
   ·rw [j9,if_neg (fun h=>h hu),if_neg (fun h=>h hk),if_pos (.inr h7)];exact⟨rfl,rfl⟩
   ·rw [j9,if_neg (fun h=>h hu),if_neg (fun h=>h hk),if_pos (.inl h6)];exact⟨rfl,rfl⟩
@[go_sem] def kbM (b:Bk) (r:Rq) (who:Nat):Prop:=(b.w.f.next≤18446744073709551615)
def uab:List D→Option (Prop×D×Fr)
 |[.agg [.c (.sl z33), .c (.sl z34), .c (.sl z35), .c (.sl z36), .c (.int .u64 z38), .c (.sl z39), .c (.int .u64 z40), .c (.int .u64 z41), .c (.sl z43), .c (.sl z44), .c (.sl z45), .c (.sl z46)], .agg [.c (.int .u64 z48), .c (.int .i64 z49), .c (.int .u64 z50), .c (.int .u64 z52), .c (.sl z53), .c (.int .i64 z54), .c (.int .u64 z55), .c (.int .u64 z56), .c (.int .u64 z57), .c (.sl z58), .c (.sl z59)], .c (.int .u64 z60)]=>some (z33=chs (ug z33)∧z34=wts (vl z34)∧z35=ivs (qi z35)∧z36=pys (ji z36)∧z38=(z38.toNat:Int)∧z39=evs (xh z39)∧z40=(z40.toNat:Int)∧z41=(z41.toNat:Int)∧z43=tms (zh z43)∧z44=rks (vj z44)∧z45=kys (yo z45)∧z46=cts (xm z46)∧z48=(z48.toNat:Int)∧z50=(z50.toNat:Int)∧z52=(z52.toNat:Int)∧z53=cvs (zj z53)∧z55=(z55.toNat:Int)∧z56=(z56.toNat:Int)∧z57=(z57.toNat:Int)∧z58=its (y7 z58)∧z59=cvs (zj z59)∧z60=(z60.toNat:Int)∧kbM (⟨(⟨(ug z33),(vl z34),(qi z35),(ji z36),(⟨z38.toNat,(xh z39)⟩:Fd),z40.toNat,z41.toNat⟩:Wl),(⟨(zh z43)⟩:Ar),(vj z44),(yo z45),(xm z46)⟩:Bk) (⟨z48.toNat,z49,z50.toNat,(⟨z52.toNat,(zj z53),z54⟩:Tk),z55.toNat,z56.toNat,z57.toNat,(y7 z58),(zj z59)⟩:Rq) z60.toNat,vbM (⟨(⟨(ug z33),(vl z34),(qi z35),(ji z36),(⟨z38.toNat,(xh z39)⟩:Fd),z40.toNat,z41.toNat⟩:Wl),(⟨(zh z43)⟩:Ar),(vj z44),(yo z45),(xm z46)⟩:Bk) (⟨z48.toNat,z49,z50.toNat,(⟨z52.toNat,(zj z53),z54⟩:Tk),z55.toNat,z56.toNat,z57.toNat,(y7 z58),(zj z59)⟩:Rq) z60.toNat,[])
 |_=>none
attribute [go_sem] uab
theorem zak:∀rs p r fr,uab rs=some (p,r,fr)→p→uc Tryz.prog 14 rs r fr:=by
 intro rs p r fr h hp
 unfold uab at h
 split at h<;>cases h
 obtain⟨hc0,hc1,hc2,hc3,hc4,hc5,hc6,hc7,hc8,hc9,hc10,hc11,hc12,hc13,hc14,hc15,hc16,hc17,hc18,hc19,hc20,hc21,hp⟩:=hp
 rename_i z33 z34 z35 z36 z38 z39 z40 z41 z43 z44 z45 z46 z48 z49 z50 z52 z53 z54 z55 z56 z57 z58 z59 z60
 obtain⟨z33,rfl⟩:∃m,z33=chs m:=⟨_,hc0⟩
 obtain⟨z34,rfl⟩:∃m,z34=wts m:=⟨_,hc1⟩
 obtain⟨z35,rfl⟩:∃m,z35=ivs m:=⟨_,hc2⟩
 obtain⟨z36,rfl⟩:∃m,z36=pys m:=⟨_,hc3⟩
 obtain⟨z38,rfl⟩:∃m:Nat,z38=m:=⟨_,hc4⟩
 obtain⟨z39,rfl⟩:∃m,z39=evs m:=⟨_,hc5⟩
 obtain⟨z40,rfl⟩:∃m:Nat,z40=m:=⟨_,hc6⟩
 obtain⟨z41,rfl⟩:∃m:Nat,z41=m:=⟨_,hc7⟩
 obtain⟨z43,rfl⟩:∃m,z43=tms m:=⟨_,hc8⟩
 obtain⟨z44,rfl⟩:∃m,z44=rks m:=⟨_,hc9⟩
 obtain⟨z45,rfl⟩:∃m,z45=kys m:=⟨_,hc10⟩
 obtain⟨z46,rfl⟩:∃m,z46=cts m:=⟨_,hc11⟩
 obtain⟨z48,rfl⟩:∃m:Nat,z48=m:=⟨_,hc12⟩
 obtain⟨z50,rfl⟩:∃m:Nat,z50=m:=⟨_,hc13⟩
 obtain⟨z52,rfl⟩:∃m:Nat,z52=m:=⟨_,hc14⟩
 obtain⟨z53,rfl⟩:∃m,z53=cvs m:=⟨_,hc15⟩
 obtain⟨z55,rfl⟩:∃m:Nat,z55=m:=⟨_,hc16⟩
 obtain⟨z56,rfl⟩:∃m:Nat,z56=m:=⟨_,hc17⟩
 obtain⟨z57,rfl⟩:∃m:Nat,z57=m:=⟨_,hc18⟩
 obtain⟨z58,rfl⟩:∃m,z58=its m:=⟨_,hc19⟩
 obtain⟨z59,rfl⟩:∃m,z59=cvs m:=⟨_,hc20⟩
 obtain⟨z60,rfl⟩:∃m:Nat,z60=m:=⟨_,hc21⟩
 simp only [Int.toNat_natCast,yb,jd,ye,qb,uo,vb,ze,jb,yc,xb,qc]
 simp only [Int.toNat_natCast,yb,jd,ye,qb,uo,vb,ze,jb,yc,xb,qc,kbM]at hp
 exact jbY ⟨⟨z33,z34,z35,z36,⟨z38,z39⟩,z40,z41⟩,⟨z43⟩,z44,z45,z46⟩ ⟨z48,z49,z50,⟨z52,z53,z54⟩,z55,z56,z57,z58,z59⟩ z60 hp
end Dm
namespace Dm
open Go Go.Proofs Go.IntWalk
theorem qbe:∀{l:List Tm} {o:Nat} {k:NK} {v:Int},(l.map nmT).Nodup→(alk k (bkO o l)=some v↔∃i,i<l.length∧nmT (l.getD i default)=k∧v=((o+i:Nat):Int))
 |[],o,k,v,_=>by simp [bkO,alk]
 |x::l,o,k,v,h=>by
  rw [List.map_cons,List.nodup_cons]at h
  rw [bkO,alk]
  by_cases hx:nmT x=k
  ·rw [if_pos hx]
   constructor
   ·intro e;cases e;exact⟨0,by simp,hx,rfl⟩
   ·rintro⟨i,hi,hk,rfl⟩
    cases i with
    |zero=>rfl
    |succ j=>
     refine absurd (List.mem_map.2 ⟨l.getD j default,ua.2 ⟨j,by simpa using hi,rfl⟩, ?_⟩) h.1
     rw [List.getD_cons_succ]at hk
     rw [hk,hx]
  ·rw [if_neg hx,qbe h.2]
   constructor
   ·rintro⟨i,hi,hk,rfl⟩;exact⟨i+1,by simpa using hi,by rw [List.getD_cons_succ];exact hk,by omega⟩
   ·rintro⟨i,hi,hk,rfl⟩
    cases i with
    |zero=>exact absurd hk hx
    |succ j=>exact⟨j,by simpa using hi,by rw [List.getD_cons_succ]at hk;exact hk,by omega⟩
theorem ybd {l:List Tm} {k:NK} {v:Int} (h:uF l):alk k (bkA l)=some v↔∃i,i<l.length∧nmT (l.getD i default)=k∧v=(i:Int):=by
 have:alk k (bkA l)=some v↔_:=qbe (l:=l) (o:=0) (k:=k) (v:=v) h.2.1
 simpa only [Nat.zero_add]using this
theorem gdD {l:List Tm} {k:NK} {v:Int} (h:uF l) (hv:alk k (bkA l)=some v):0≤v∧v<l.length:=by
 obtain⟨i,hi,_,rfl⟩:=(ybd h).1 hv;omega
theorem ybL {l:List Tm} {k k':NK} {v:Int} (h:uF l) (h1:alk k (bkA l)=some v) (h2:alk k' (bkA l)=some v):k=k':=by
 obtain⟨i,hi,g1,rfl⟩:=(ybd h).1 h1
 obtain⟨j,hj,g2,e⟩:=(ybd h).1 h2
 have:i=j:=by omega
 subst this
 rw [←g1,←g2]
theorem xbd:∀{m:List (NK×Int)} {k k':NK} {v:Int},alk k (m++[(k',v)])=match alk k m with|some b=>some b|none=>if k'=k then some v else none
 |[],k,k',v=>rfl
 |(a,b)::m,k,k',v=>by
  rw [List.cons_append,alk,alk]
  by_cases h:a=k
  ·rw [if_pos h,if_pos h]
  ·rw [if_neg h,if_neg h,xbd]
theorem zbL {l:List Tm} {t:Tm} {k:NK}:alk k (bkA (l++[t]))=match alk k (bkA l)with|some b=>some b|none=>if nmT t=k then some (l.length:Int)else none:=by
 rw [bkA,bkA,xaK,xbd,Nat.zero_add]
theorem bcv {l:List Tm} {t:Tm} {k:NK} {v:Int} (h:alk k (bkA l)=some v):alk k (bkA (l++[t]))=some v:=by rw [zbL,h]
def wbw (l:List Tm) (key:Nat) (text:List UInt8) (ts:List (List UInt8)):Option Int:=goA (bkA l) (alk (key, -1,text) (bkA l)) ts
theorem gbM {l:List Tm} (hl:uF l):∀{ts:List (List UInt8)} {a b v:Int},goA (bkA l) (some a) ts=some v→goA (bkA l) (some b) ts=some v→a=b
 |[],a,b,v,h1,h2=>by cases h1;cases h2;rfl
 |x::ts,a,b,v,h1,h2=>by
  rw [goA]at h1 h2
  cases e1:alk (0,a,x) (bkA l)with
  |none=>rw [e1,zl]at h1;cases h1
  |some c=>
   cases e2:alk (0,b,x) (bkA l)with
   |none=>rw [e2,zl]at h2;cases h2
   |some d=>
    rw [e1]at h1;rw [e2]at h2
    have:=gbM hl h1 h2
    subst this
    exact congrArg (fun k:NK=>k.2.1) (ybL hl e1 e2)
theorem gce {l:List Tm} (hl:uF l) {key key':Nat} {text text':List UInt8} {ts:List (List UInt8)} {v:Int} (h1:wbw l key text ts=some v) (h2:wbw l key' text' ts=some v):key=key'∧text=text':=by
 unfold wbw at*
 cases e1:alk (key, -1,text) (bkA l)with
 |none=>rw [e1,zl]at h1;cases h1
 |some c=>
  cases e2:alk (key', -1,text') (bkA l)with
  |none=>rw [e2,zl]at h2;cases h2
  |some d=>
   rw [e1]at h1;rw [e2]at h2
   have:=gbM hl h1 h2
   subst this
   have:=ybL hl e1 e2
   exact⟨congrArg (fun k:NK=>k.1) this,congrArg (fun k:NK=>k.2.2) this⟩
theorem zaN {l:List Tm} {t:Tm} (h:(vh l t).2.2=0):uF l∧t.up<l.length∧t.text.length≤4096∧
 (((vh l t).1=l∧alk (nmT t) (bkA l)=some (vh l t).2.1)∨((vh l t).1=l++[t]∧alk (nmT t) (bkA l)=none∧(vh l t).2.1=(l.length:Int)∧l.length<1048576)):=by
 unfold vh at*
 split at h
 ·cases h
 rename_i h1
 rw [if_neg h1]
 have hok:uF l:=Classical.not_not.1 fun h=>h1 (.inl h)
 have hup:t.up<l.length:=by have:¬(l.length:Int)≤t.up:=fun h=>h1 (.inr h);omega
 split at h
 ·cases h
 rename_i h2
 rw [if_neg h2]
 refine⟨hok,hup,by omega, ?_⟩
 split at h
 ·rename_i v hv;exact .inl ⟨rfl,by rw [hv]⟩
 ·rename_i hv
  split at h
  ·cases h
  rename_i h4
  have:=hok.1
  rw [if_neg h4]
  exact .inr ⟨rfl,hv,rfl,by omega⟩
theorem zbn {l:List Tm} {t:Tm} (h:(vh l t).2.2=0) (ht: -1≤t.up∧(-1<t.up→t.key=0)):uF (vh l t).1:=by
 obtain⟨hok,hup,htx,⟨e,_⟩|⟨e,hn,_,hl⟩⟩:=zaN h
 ·rw [e];exact hok
 ·rw [e]
  refine⟨by rw [List.length_append,List.length_singleton];omega, ?_,fun i hi=> ?_⟩
  ·rw [List.map_append,List.nodup_append]
   refine⟨hok.2.1,by simp,fun x hx y hy=> ?_⟩
   simp at hy
   subst hy
   rintro rfl
   exact gaS.1 hn hx
  ·rw [List.mem_range,List.length_append,List.length_singleton]at hi
   by_cases hil:i<l.length
   ·rw [show(l++[t]).getD i default=l.getD i default by simp [List.getD_eq_getElem?_getD,List.getElem?_append_left hil]]
    exact hok.2.2 i (List.mem_range.2 hil)
   ·have:i=l.length:=by omega
    subst this
    rw [show(l++[t]).getD l.length default=t by simp]
    exact⟨ht.1,hup,ht.2,htx⟩
theorem ycQ {l:List Tm} {t:Tm} (h:(vh l t).2.2=0):alk (nmT t) (bkA (vh l t).1)=some (vh l t).2.1:=by
 obtain⟨hok,hup,htx,⟨e,h1⟩|⟨e,hn,h1,hl⟩⟩:=zaN h
 ·rw [e];exact h1
 ·rw [e,h1,zbL,hn];exact if_pos rfl
theorem qb8 {l:List Tm} {t:Tm} {v:Int} (hl:uF l) (hv:alk (nmT t) (bkA l)=some v) (hup:t.up<l.length) (htx:t.text.length≤4096):vh l t=(l,v,0):=by
 rw [vh,if_neg (by rintro(h|h);exact h hl;omega),if_neg (by omega),hv]
end Dm
namespace Dm
open Go Go.Proofs Go.IntWalk
theorem baM (l:List Nat):(qk l).length≤l.length*9:=by
 have:=yao (l:=l) (i:=l.length)
 rwa [List.take_length]at this
theorem gbT (c:Cv):(bR c).length≤27:=by
 unfold bR
 split
 ·split
  ·have:=baM [c.kind.toNat,c.a,c.b];simpa using this
  ·have:=baM [c.kind.toNat,c.a];simp at this;omega
 ·simp
theorem ybA {l:List Tm} {key root:Nat} {cs:List Cv} (h:uF l):jS l key (qk [root]) (cs.map bR)=match wbw l key (qk [root]) (cs.map bR)with|some i=>(i,0)|none=>(0,5):=by
 rw [jS,if_neg (fun h'=>h' h),if_neg]
 ·rfl
 ·rintro(h|⟨x,hx,h⟩)
  ·have:=baM [root];simp at this;omega
  ·obtain⟨c,_,rfl⟩:=List.mem_map.1 hx
   have:=gbT c;omega
theorem wce {l:List Tm} {key:Nat} {t:Tk} (h:uF l) (ht:wbl t):ga1 l key t=(decide (wbw l key (qk [t.root]) (t.l.map bR)=some t.tag),0):=by
 rw [ga1,if_neg (by rintro(h'|h');exact h' ht;exact h' h),ybA h]
 congr 1
 rw [decide_eq_decide]
 cases wbw l key (qk [t.root]) (t.l.map bR)with
 |none=>exact⟨fun h=>absurd h.1 (by decide),fun h=>by cases h⟩
 |some i=>exact⟨fun h=>congrArg some h.2,fun h=>⟨rfl,by cases h;rfl⟩⟩
theorem kU {b:Bk}:jU b=0↔wU b.w=0∧uF b.a.l∧kad b.r∧bbe b.k=0∧wJ b.s=0:=by
 have ha:vo b.a.l=0↔uF b.a.l:=by unfold vo qp;split<;>rename_i h<;>simp only [h]<;>decide
 have hr:vU b.r=0↔kad b.r:=by unfold vU;split<;>rename_i h<;>simp only [h]<;>decide
 unfold jU
 split
 ·rename_i h;exact⟨fun h'=>absurd h' h,fun h'=>h'.1⟩
 rename_i h1
 split
 ·rename_i h;exact⟨fun h'=>absurd h' h,fun h'=>ha.2 h'.2.1⟩
 rename_i h2
 split
 ·rename_i h;exact⟨fun h'=>absurd h' h,fun h'=>hr.2 h'.2.2.1⟩
 rename_i h3
 split
 ·rename_i h;exact⟨fun h'=>absurd h' h,fun h'=>h'.2.2.2.1⟩
 rename_i h4
 have d:∀{x:Int},¬x≠0→x=0:=fun h=>Classical.not_not.1 h
 exact⟨fun h=>⟨d h1,ha.1 (d h2),hr.1 (d h3),d h4,h⟩,fun h=>h.2.2.2.2⟩
theorem xca {r:Rq}:rqS r=0↔ga5 r:=by unfold rqS;split<;>rename_i h<;>simp only [h]<;>decide
theorem gbw {r:Rq} (h:rqS r=0):(gac r).2=0∧(gac r).1≤4611686018427387904:=by
 have ho:=xca.1 h
 rw [gac,if_pos h]
 obtain⟨_,hr,_⟩:=ho
 rw [kaD]at hr
 simp only [List.all_cons,Bool.and_eq_true]at hr
 obtain⟨_,_,h4,_,h16,_⟩:=hr
 split
 ·rename_i h1
  rw [h1]at h4
  refine⟨rfl, ?_⟩
  rw [vp,if_neg (show¬kaJ .i64 (xu 1) 4=0 by decide)]at h4
  have:=of_decide_eq_true h4
  exact(this.elim (fun h=>absurd h (show¬kaJ .i64 (xu 1) 64=0 by decide)) id).2
 split
 ·rename_i h1
  rw [h1]at h16
  rw [vp,if_neg (show¬kaJ .i64 (xu 2) 16=0 by decide)]at h16
  have h2:=of_decide_eq_true h16
  refine⟨h2, ?_⟩
  unfold ubc at h2⊢
  split at h2
  ·rename_i h3
   rw [if_pos h3]
   split at h2
   ·rename_i h4;rw [if_pos h4];exact h4
   ·cases h2
  ·cases h2
 ·exact⟨rfl,by decide⟩
theorem xd3 {b:Bk} {r:Rq} {who:Nat}:(zL b r who).2=0↔ga5 r∧jU b=0:=by
 unfold zL
 split
 ·rename_i h
  refine⟨fun _=>⟨?_,h.2⟩,fun _=>rfl⟩
  have h1:=h.1
  unfold gac at h1
  split at h1
  ·rename_i h3;exact xca.1 h3
  ·exact xca.1 h1
 ·rename_i h
  exact⟨fun h=>absurd h (show¬(1:Int)=0 by decide),fun h'=>absurd ⟨(gbw (xca.2 h'.1)).1,h'.2⟩ h⟩
theorem qd3 {b:Bk} {r:Rq} {who:Nat} (h:ga5 r) (hb:jU b=0):zL b r who=(⟨b.w.tick,r.method,(gac r).1,who⟩,0):=by
 rw [zL,if_pos ⟨(gbw (xca.2 h)).1,hb⟩]
theorem jce {b:Bk} {r:Rq} {who:Nat} (h:¬(ga5 r∧jU b=0)):zL b r who=(⟨0,0,0,0⟩,1):=by
 rw [zL,if_neg]
 intro h'
 refine h (xd3 (who:=who).1 ?_)
 rw [zL,if_pos h']
theorem qb4 {r:Rq} {tick who:Nat} (h:ga5 r):ubO ⟨tick,r.method,(gac r).1,who⟩=true:=
 decide_eq_true ⟨by have:=h.1.1;show 0≤r.method;omega,by have:=h.1.2;show r.method<16;omega,(gbw (xca.2 h)).2⟩
def xci (l:List Ct) (root:Nat) (cav:List Cv) (n:Nat):Bool:=(cav.foldl zaT []).all (fun x=>decide ((yu l root x.1:Int)+n≤4611686018427387904∧(yu l root x.1:Int)+n≤x.2))
theorem xb4 {l:List Ct} {root:Nat} {cav:List Cv} {n:Nat} (h1:cav.length≤16) (h2:∀c∈cav,gB c=0) (h3:wJ l=0) (h4:n≤4611686018427387904):kbk l root cav n=(xci l root cav n,0):=by
 have hc:uat cav=(cav.foldl zaT [],0):=by rw [uat,if_pos ⟨h1,List.all_eq_true.2 fun c hc=>decide_eq_true (h2 c hc)⟩]
 have hs:yX l root cav n=if xci l root cav n=true then((cav.foldl zaT []).map fun x=>(x.1,(yu l root x.1:Int)+n),0)else([],8):=by
  rw [yX,hc,if_pos ⟨rfl,h3,h4⟩];rfl
 rw [kbk,hs]
 cases xci l root cav n<;>rfl
theorem ycw {l:List Cv} {u:Us} (h1:l.length≤16) (h2:∀c∈l,gB c=0) (h3:ubO u=true):waS l u=(l.all fun c=>kr c u,0):=by
 rw [waS,if_pos ⟨h1,h3,h2⟩]
def xbY (b:Bk) (r:Rq) (who:Nat):Prop:=(vaj b.r r.t.root).2=0∧wbw b.a.l (vaj b.r r.t.root).1 (qk [r.t.root]) (r.t.l.map bR)=some r.t.tag∧
 (∀c∈r.t.l,kr c ⟨b.w.tick,r.method,(gac r).1,who⟩=true)∧xci b.s r.t.root r.t.l (gac r).1=true
theorem gbO {b:Bk} {r:Rq} {who:Nat} (h:ga5 r) (hb:jU b=0):(j9 b r who).2=0∧((j9 b r who).1=true↔xbY b r who):=by
 have hu:=qd3 (who:=who) h hb
 obtain⟨_,ha,hr,_,hs⟩:=kU.1 hb
 have ht:=h.2.2
 have hv:=wce (l:=b.a.l) (key:=(vaj b.r r.t.root).1) ha ht
 have hl:=ycw (l:=r.t.l) (u:=⟨b.w.tick,r.method,(gac r).1,who⟩) ht.1 ht.2.2.2 (qb4 h)
 have hf:=xb4 (l:=b.s) (root:=r.t.root) (cav:=r.t.l) (n:=(gac r).1) ht.1 ht.2.2.2 hs (gbw (xca.2 h)).2
 unfold j9 xbY
 rw [hu]
 dsimp only
 rw [hv,hl,hf]
 dsimp only
 rw [if_neg (fun h=>h rfl)]
 by_cases g1:(vaj b.r r.t.root).2=0
 rotate_left 1
 ·rw [if_pos g1];exact⟨rfl,fun h=>absurd h (by decide),fun h=>absurd h.1 g1⟩
 rw [if_neg (fun h=>h g1)]
 by_cases g2:wbw b.a.l (vaj b.r r.t.root).1 (qk [r.t.root]) (r.t.l.map bR)=some r.t.tag
 rotate_left 1
 ·rw [if_pos (.inr (decide_eq_false g2))];exact⟨rfl,⟨fun h=>absurd (show false=true from h) (by decide),fun h=>absurd h.2.1 g2⟩⟩
 rw [if_neg (by rintro(h|h);exact h rfl;rw [decide_eq_true g2]at h;cases h)]
 by_cases g3:(r.t.l.all fun c=>kr c ⟨b.w.tick,r.method,(gac r).1,who⟩)=true
 rotate_left 1
 ·rw [if_pos (.inr (by simpa using g3))];exact⟨rfl,⟨fun h=>absurd (show false=true from h) (by decide),fun h=>absurd (List.all_eq_true.2 h.2.2.1) g3⟩⟩
 rw [if_neg (by rintro(h|h);exact h rfl;rw [g3]at h;cases h)]
 by_cases g4:xci b.s r.t.root r.t.l (gac r).1=true
 rotate_left 1
 ·rw [if_pos (.inr (by simpa using g4))];exact⟨rfl,⟨fun h=>absurd (show false=true from h) (by decide),fun h=>absurd h.2.2.2 g4⟩⟩
 rw [if_neg (by rintro(h|h);exact h rfl;rw [g4]at h;cases h)]
 exact⟨rfl,⟨fun _=>⟨g1,g2,List.all_eq_true.1 g3,g4⟩,fun _=>rfl⟩⟩
theorem vbk {b:Bk} {r:Rq} {who:Nat} (h:¬(ga5 r∧jU b=0)):j9 b r who=(false,1):=by
 rw [j9,jce h];exact if_pos (by decide)
end Dm
namespace Dm
open Go Go.Proofs Go.IntWalk
theorem bbT {b:Bk} {t:Tm} (hb:jU b=0) (h:(vh b.a.l t).2.2=0) (ht: -1≤t.up∧(-1<t.up→t.key=0)):jU {b with a:=⟨(vh b.a.l t).1⟩}=0:=by
 obtain⟨h1,_,h3⟩:=kU.1 hb
 exact kU.2 ⟨h1,zbn h ht,h3⟩
end Dm
namespace Dm
open Go Go.Proofs Go.IntWalk
def zdf (x:Iv) (tick:Nat):Int:=if x.state=1∧x.till<tick then 4 else x.state
@[go_sem] def ybO (x:Iv) (tick:Nat):D:= .int .i64 (zdf x tick)
@[go_sem] abbrev wej:FuncId:=187
@[go_sem] def xcC:Tab:=[]
theorem vbi:za Tryz.prog xcC:=za.nil
set_option maxRecDepth 8000 in
set_option maxHeartbeats 1000000 in
theorem xbZ (x:Iv) (tick:Nat):va Tryz.prog 187 [.agg [.c (.int .u64 (x.hash:Int)), .c (.int .u64 (x.n:Int)), .c (.int .u64 (x.till:Int)), .c (.int .i64 x.state)], .c (.int .u64 (tick:Int))] (ybO x tick):=by
 refine .of (zdz vbi (Nat.le_of_ble_eq_true rfl) ?_)
 simp -implicitDefEqProofs only [cdA,go_sem,Go.Proofs.Tryz.f187,reduceIte,reduceCtorEq,Nat.reduceEqDiff,Nat.reduceAdd,Nat.reduceLeDiff,Nat.reduceSub,Nat.reduceMul,Nat.reduceLT,Nat.reduceShiftRight,Nat.reduceMod,Int.reduceLE,Int.reduceLT,Int.reduceToNat,List.cons.injEq,cdB]
 unfold zdf
 refine⟨fun h1=>⟨fun h2=> ?_,fun h2=> ?_⟩,fun h1=> ?_⟩
 ·rw [if_pos ⟨h1,by omega⟩]
 ·rw [if_neg (by rintro⟨_,h⟩;omega)]
 ·rw [if_neg (by rintro⟨h,_⟩;exact h1 h)]
def zap:List D→Option (Prop×D×Fr)
 |[.agg [.c (.int .u64 z201), .c (.int .u64 z202), .c (.int .u64 z203), .c (.int .i64 z204)], .c (.int .u64 z205)]=>some (z201=(z201.toNat:Int)∧z202=(z202.toNat:Int)∧z203=(z203.toNat:Int)∧z205=(z205.toNat:Int),ybO (⟨z201.toNat,z202.toNat,z203.toNat,z204⟩:Iv) z205.toNat,[])
 |_=>none
attribute [go_sem] zap
theorem uba:∀rs p r fr,zap rs=some (p,r,fr)→p→uc Tryz.prog 187 rs r fr:=by
 intro rs p r fr h hp
 unfold zap at h
 split at h<;>cases h
 obtain⟨hc0,hc1,hc2,hc3⟩:=hp
 rename_i z201 z202 z203 z204 z205
 obtain⟨z201,rfl⟩:∃m:Nat,z201=m:=⟨_,hc0⟩
 obtain⟨z202,rfl⟩:∃m:Nat,z202=m:=⟨_,hc1⟩
 obtain⟨z203,rfl⟩:∃m:Nat,z203=m:=⟨_,hc2⟩
 obtain⟨z205,rfl⟩:∃m:Nat,z205=m:=⟨_,hc3⟩
 simp only [Int.toNat_natCast]
 exact xbZ ⟨z201,z202,z203,z204⟩ z205
@[go_sem] def qag (l:List Iv):D:= .vec 0 l.length
@[go_sem] def j8 (l:List Iv):Fr:=[(4,189,true,ivs l)]
@[go_sem] abbrev kco:FuncId:=129
@[go_sem] def xa5:Tab:=[]
theorem wam:za Tryz.prog xa5:=za.nil
set_option maxRecDepth 8000 in
set_option maxHeartbeats 1000000 in
theorem kaL (l:List Iv) (hl:l.length≤1000000):ki Tryz.prog 129 [.sl (ivs l)] (qag l) (j8 l):=by
 refine .of (qcv wam (Nat.le_of_ble_eq_true rfl) ?_)
 simp -implicitDefEqProofs only [cdA,go_sem,Go.Proofs.Tryz.f129,reduceIte,reduceCtorEq,Nat.reduceEqDiff,Nat.reduceAdd,Nat.reduceLeDiff,Nat.reduceSub,Nat.reduceMul,Nat.reduceLT,Nat.reduceShiftRight,Nat.reduceMod,Int.reduceLE,Int.reduceLT,Int.reduceToNat,List.cons.injEq,cdB]
 refine fun b hb=>⟨fun h=> ?_,fun h=> ?_⟩
 ·exact⟨[none],by simp [go_sem,hb h],by cases l<;>simp_all [go_sem,ivs]⟩
 ·exact⟨by omega,[some 0],by simp [go_sem]⟩
@[go_sem] def xag (l:List Iv):Prop:=(l.length≤1000000)
def bz:List D→Option (Prop×D×Fr)
 |[.c (.sl z206)]=>some (z206=ivs (qi z206)∧xag (qi z206),qag (qi z206),j8 (qi z206))
 |_=>none
attribute [go_sem] bz
theorem uad:∀rs p r fr,bz rs=some (p,r,fr)→p→uc Tryz.prog 129 rs r fr:=by
 intro rs p r fr h hp
 unfold bz at h
 split at h<;>cases h
 obtain⟨hc0,hp⟩:=hp
 rename_i z206
 obtain⟨z206,rfl⟩:∃m,z206=ivs m:=⟨_,hc0⟩
 simp only [vb]
 simp only [vb,xag]at hp
 exact(show uc _ _ _ _ _ from And.intro rfl (kaL z206 hp))
def bS (tick:Nat) (x:Iv):Bool:=decide (zdf x tick=4∨x.state=3)
def zo (l:List Iv) (tick:Nat):List Iv×Int:=if waM l then(l.filter fun x=> !bS tick x,0)else([],1)
@[go_sem] def qaV (l:List Iv) (tick:Nat):D:= .tup [.sl (ivs (zo l tick).1), .int .i64 (zo l tick).2]
@[go_sem] abbrev bdb:FuncId:=100
@[go_sem] def vbB:Tab:=[(160,bD),(187,zap),(129,bz)]
theorem vf:za Tryz.prog vbB:=(za.cons kW (za.cons uba (za.cons uad za.nil)))
set_option maxRecDepth 8000 in
set_option maxHeartbeats 1000000 in
theorem bbi (l:List Iv) (tick:Nat):va Tryz.prog 100 [.sl (ivs l), .c (.int .u64 (tick:Int))] (qaV l tick):=by
 refine .of (xdu vf (Nat.le_of_ble_eq_true rfl) ?_)
 simp -implicitDefEqProofs only [cdA,go_sem,Go.Proofs.Tryz.f100,reduceIte,reduceCtorEq,Nat.reduceEqDiff,Nat.reduceAdd,Nat.reduceLeDiff,Nat.reduceSub,Nat.reduceMul,Nat.reduceLT,Nat.reduceShiftRight,Nat.reduceMod,Int.reduceLE,Int.reduceLT,Int.reduceToNat,List.cons.injEq,cdB]
 have hcz:bac l=0↔waM l:=by unfold bac;split<;>rename_i h<;>simp only [h]<;>decide
 refine⟨fun h0=> ?_,fun h0=>by
  have hno:¬waM l:=fun h=>h0 (hcz.2 h)
  rw [zo,bac,if_neg hno,if_neg hno];exact⟨rfl,rfl⟩⟩
 have hok:=hcz.1 h0
 have h256:=hok.1
 refine⟨by omega, ?_⟩
 refine ga.sld ?_
 refine yU (n:=42) (fn:=Tryz.f188) (by kernel_rfl) rfl rfl rfl (Nat.le_of_ble_eq_true rfl) (rs:=[.tmp 4]) rfl ?_
 refine SWm.seq (SWm.awp vf.toS zan rfl ?_)
 simp -implicitDefEqProofs only [cdA,go_sem,reduceIte,reduceCtorEq,Nat.reduceEqDiff,Nat.reduceAdd,Nat.reduceLeDiff,Nat.reduceSub,Nat.reduceMul,Nat.reduceLT,Nat.reduceShiftRight,Nat.reduceMod,Int.reduceLE,Int.reduceLT,Int.reduceToNat,List.cons.injEq,cdB]
 refine SWm.seq (SWm.awp vf.toS zan rfl ?_)
 simp -implicitDefEqProofs only [cdA,go_sem,reduceIte,reduceCtorEq,Nat.reduceEqDiff,Nat.reduceAdd,Nat.reduceLeDiff,Nat.reduceSub,Nat.reduceMul,Nat.reduceLT,Nat.reduceShiftRight,Nat.reduceMod,Int.reduceLE,Int.reduceLT,Int.reduceToNat,List.cons.injEq,cdB]
 refine zdC vf (Nat.le_of_ble_eq_true rfl) ?_
 simp -implicitDefEqProofs only [cdA,go_sem,Go.Proofs.Tryz.f240,reduceIte,reduceCtorEq,Nat.reduceEqDiff,Nat.reduceAdd,Nat.reduceLeDiff,Nat.reduceSub,Nat.reduceMul,Nat.reduceLT,Nat.reduceShiftRight,Nat.reduceMod,Int.reduceLE,Int.reduceLT,Int.reduceToNat,List.cons.injEq,cdB]
 refine fun _=>SWp.loop (ι:={i:Nat // i≤l.length∧∀j,j<i→bS tick (l.getD j default)=false}) (fun i=>⟨[(0, .vec 1 l.length),(1, .fn (.func 186) [] [.ref 0 0]),(7, .int .i64 l.length),(8, .int .i64 i.1)],
  [(1, .vec true 4 189 (ivs l)),(0, .box [.c (.int .u64 tick)])],2⟩) (fun i=>l.length - i.1) ⟨0,by simp⟩ ?_ ?_
 ·simp [go_sem]
 ·rintro⟨i,hi,hall⟩
  refine qa vf.toS kb3 _ _ _ rfl ?_
  simp -implicitDefEqProofs only [cdA,go_sem,reduceIte,reduceCtorEq,Nat.reduceEqDiff,Nat.reduceAdd,Nat.reduceLeDiff,Nat.reduceSub,Nat.reduceMul,Nat.reduceLT,Nat.reduceShiftRight,Nat.reduceMod,Int.reduceLE,Int.reduceLT,Int.reduceToNat,List.cons.injEq,cdB]
  refine⟨fun h4=>⟨by omega,by omega, ?_⟩,fun h4=> ?_⟩
  ·skip
   refine kcv vf (Nat.le_of_ble_eq_true rfl) ?_
   simp -implicitDefEqProofs only [cdA,go_sem,Go.Proofs.Tryz.f186,reduceIte,reduceCtorEq,Nat.reduceEqDiff,Nat.reduceAdd,Nat.reduceLeDiff,Nat.reduceSub,Nat.reduceMul,Nat.reduceLT,Nat.reduceShiftRight,Nat.reduceMod,Int.reduceLE,Int.reduceLT,Int.reduceToNat,List.cons.injEq,cdB]
   have hi':i<l.length:=by omega
   have hov:∀x:Iv,bS tick x=true↔zdf x tick=4∨x.state=3:=fun x=>decide_eq_true_iff
   have hb0:bS tick (l.getD i default)=true→l.take i=(l.take (i+1)).filter (fun y=> !bS tick y):=fun hv=>by
    rw [take_succ hi',List.filter_append,List.filter_eq_self.2 (fun x hx=> ?_),List.filter_cons_of_neg (by rw [hv];decide),List.filter_nil,List.append_nil]
    obtain⟨j,hj,rfl⟩:=ua.1 hx
    rw [List.length_take]at hj
    rw [List.getD_eq_getElem?_getD,List.getElem?_take_of_lt (by omega),←List.getD_eq_getElem?_getD,hall j (by omega)];rfl
   refine⟨fun h1=>⟨fun h2=> ?_,fun h2=>⟨⟨i+1,by omega,fun j hj=> ?_⟩,by dsimp only;omega,i64_in _ (by omega)⟩⟩,fun h1=> ?_⟩
   rotate_left 1
   ·by_cases hji:j=i
    ·subst hji
     have:¬bS tick (l.getD j default)=true:=fun h=>by
      rcases(hov _).1 h with h|h
      ·exact h1 h
      ·exact h2 h
     simpa using this
    ·exact hall j (by omega)
   all_goals
    have hb1:=hb0 ((hov _).2 (by first|exact .inl h1|exact .inr h2))
    refine SWm.seq (SWm.awp vf.toS zan rfl ?_)
    simp -implicitDefEqProofs only [cdA,go_sem,reduceIte,reduceCtorEq,Nat.reduceEqDiff,Nat.reduceAdd,Nat.reduceLeDiff,Nat.reduceSub,Nat.reduceMul,Nat.reduceLT,Nat.reduceShiftRight,Nat.reduceMod,Int.reduceLE,Int.reduceLT,Int.reduceToNat,List.cons.injEq,cdB]
    refine⟨fun h=>h.elim, ?_⟩
    refine SWm.seq (SWm.seq (SWm.awp vf.toS zan rfl ?_))
    simp -implicitDefEqProofs only [cdA,go_sem,reduceIte,reduceCtorEq,Nat.reduceEqDiff,Nat.reduceAdd,Nat.reduceLeDiff,Nat.reduceSub,Nat.reduceMul,Nat.reduceLT,Nat.reduceShiftRight,Nat.reduceMod,Int.reduceLE,Int.reduceLT,Int.reduceToNat,List.cons.injEq,cdB]
    rw [i64_in _ (by omega)]
    refine SWm.block (SWm.of (SWp.loop (ι:={x:Nat×Nat×List Iv // x.1<x.2.1∧x.2.1≤l.length∧x.2.2.length=l.length∧x.2.2.take x.1=(l.take x.2.1).filter (fun y=> !bS tick y)∧x.2.2.drop x.2.1=l.drop x.2.1})
     (fun x=>⟨[(0, .vec 1 l.length),(1, .fn (.func 186) [] [.ref 0 0]),(5, .int .i64 x.1.1),(6, .int .i64 x.1.2.1)],
      [(2, .box [.c (.int .u64 (l.getD i default).hash), .c (.int .u64 (l.getD i default).n), .c (.int .u64 (l.getD i default).till), .c (.int .i64 (l.getD i default).state)]),(1, .vec true 4 189 (ivs x.1.2.2)),(0, .box [.c (.int .u64 tick)])],3⟩) (fun x=>l.length - x.1.2.1) ⟨(i,i+1,l),by dsimp only;omega,by dsimp only;omega,rfl,hb1,rfl⟩ ?_ ?_))
   all_goals first|(simp [go_sem];done)|skip
   all_goals
    rintro⟨⟨k,j,m⟩,hkj,hj,hml,hmt,hmd⟩
    refine qa vf.toS zan _ _ _ rfl ?_
    simp -implicitDefEqProofs only [cdA,go_sem,reduceIte,reduceCtorEq,Nat.reduceEqDiff,Nat.reduceAdd,Nat.reduceLeDiff,Nat.reduceSub,Nat.reduceMul,Nat.reduceLT,Nat.reduceShiftRight,Nat.reduceMod,Int.reduceLE,Int.reduceLT,Int.reduceToNat,List.cons.injEq,cdB]
    dsimp only at hkj hj hml hmt hmd
    refine fun _=>⟨fun h5=>⟨by omega,⟨hml.symm,by omega⟩, ?_⟩,fun h5=> ?_⟩
    ·skip
     refine kcv vf (Nat.le_of_ble_eq_true rfl) ?_
     simp -implicitDefEqProofs only [cdA,go_sem,Go.Proofs.Tryz.f186,reduceIte,reduceCtorEq,Nat.reduceEqDiff,Nat.reduceAdd,Nat.reduceLeDiff,Nat.reduceSub,Nat.reduceMul,Nat.reduceLT,Nat.reduceShiftRight,Nat.reduceMod,Int.reduceLE,Int.reduceLT,Int.reduceToNat,List.cons.injEq,cdB]
     have hj':j<l.length:=by omega
     have hmj:m.getD j default=l.getD j default:=by
      have h6:(m.drop j)[0]? =(l.drop j)[0]? :=by rw [hmd]
      rw [List.getElem?_drop,List.getElem?_drop,Nat.add_zero]at h6
      rw [List.getD_eq_getElem?_getD,h6,←List.getD_eq_getElem?_getD]
     have hmd2:m.drop (j+1)=l.drop (j+1):=by
      rw [←List.drop_drop,hmd,List.drop_drop]
     have hgo:bS tick (l.getD j default)=true→m.take k=(l.take (j+1)).filter (fun y=> !bS tick y):=fun hv=>by
      rw [take_succ hj',List.filter_append,List.filter_cons_of_neg (by rw [hv];decide),List.filter_nil,List.append_nil,hmt]
     have hkeep:¬bS tick (l.getD j default)=true→(m.set k (l.getD j default)).take (k+1)=(l.take (j+1)).filter (fun y=> !bS tick y):=fun hv=>by
      rw [take_succ hj',List.filter_append,List.filter_cons_of_pos (by simpa using hv),List.filter_nil,←hmt,List.take_set,take_succ (by omega),List.set_append_right _ _ (by rw [List.length_take];omega),List.length_take,show k - min k m.length=0 by omega]
      rfl
     rw [hmj]
     refine⟨fun h6=>⟨fun h7=>⟨⟨(k,j+1,m),by dsimp only;omega,hj',hml,hgo ((hov _).2 (.inr h7)),hmd2⟩,by dsimp only;omega,⟨rfl,i64_in _ (by omega)⟩,rfl⟩,fun h7=>⟨by omega,⟨hml.symm,by omega⟩,⟨(k+1,j+1,m.set k (l.getD j default)),by dsimp only;omega,hj',by dsimp only;rw [List.length_set];exact hml,hkeep (fun h=>by rcases(hov _).1 h with h|h<;>first|exact h6 h|exact h7 h), ?_⟩,by dsimp only;omega,⟨i64_in _ (by omega),i64_in _ (by omega)⟩,rfl⟩⟩,
      fun h6=>⟨⟨(k,j+1,m),by dsimp only;omega,hj',hml,hgo ((hov _).2 (.inl h6)),hmd2⟩,by dsimp only;omega,⟨rfl,i64_in _ (by omega)⟩,rfl⟩⟩
     dsimp only
     rw [List.drop_set_of_lt (by omega)];exact hmd2
    ·have hj':j=l.length:=by omega
     subst hj'
     refine SWm.opn 1 rfl fun cp hc hcm=> ?_
     rw [jag]at hc
     refine SWm.awp vf.toS zan rfl ?_
     simp -implicitDefEqProofs only [cdA,go_sem,List.map_cons,List.map_nil,hml,eq_self,reduceIte,reduceCtorEq,Nat.reduceEqDiff,Nat.reduceAdd,Nat.reduceLeDiff,Nat.reduceSub,Nat.reduceMul,Nat.reduceLT,Nat.reduceShiftRight,Nat.reduceMod,Int.reduceLE,Int.reduceLT,Int.reduceToNat,List.cons.injEq,cdB]
     have hsw:zo l tick=(m.take k,0):=by rw [zo,if_pos hok,hmt,List.take_length]
     have hkl:(m.take k).length=k:=by rw [List.length_take];omega
     have hfin:∀Z:List (List C),List.take k (fit cp 4 (List.take k (fit cp 4 (ivs m))++Z))=ivs (m.take k):=fun Z=>by
      rw [gX (by rw [List.length_append,List.length_take,jf];omega) (by omega),List.take_append_of_le_length (by rw [List.length_take,jf];omega),List.take_take,Nat.min_self,gX (by rw [jag];omega) (by omega)]
      simp [ivs,List.map_take]
     rw [hfin,hsw]
     exact⟨by omega,by omega,⟨hkl.symm,_,_,_,rfl⟩,rfl⟩
  ·have hi':i=l.length:=by omega
   subst hi'
   have hsw:zo l tick=(l,0):=by
    rw [zo,if_pos hok,List.filter_eq_self.2 fun x hx=> ?_]
    obtain⟨j,hj,rfl⟩:=ua.1 hx
    rw [hall j (by omega)];rfl
   refine SWm.seq (SWm.awp vf.toS zan rfl ?_)
   simp -implicitDefEqProofs only [cdA,go_sem,reduceIte,reduceCtorEq,Nat.reduceEqDiff,Nat.reduceAdd,Nat.reduceLeDiff,Nat.reduceSub,Nat.reduceMul,Nat.reduceLT,Nat.reduceShiftRight,Nat.reduceMod,Int.reduceLE,Int.reduceLT,Int.reduceToNat,List.cons.injEq,cdB]
   rw [hsw]
   exact⟨⟨rfl,_,_,_,rfl⟩,rfl⟩
def kN:List D→Option (Prop×D×Fr)
 |[.c (.sl z207), .c (.int .u64 z208)]=>some (z207=ivs (qi z207)∧z208=(z208.toNat:Int),qaV (qi z207) z208.toNat,[])
 |_=>none
attribute [go_sem] kN
theorem waE:∀rs p r fr,kN rs=some (p,r,fr)→p→uc Tryz.prog 100 rs r fr:=by
 intro rs p r fr h hp
 unfold kN at h
 split at h<;>cases h
 obtain⟨hc0,hc1⟩:=hp
 rename_i z207 z208
 obtain⟨z207,rfl⟩:∃m,z207=ivs m:=⟨_,hc0⟩
 obtain⟨z208,rfl⟩:∃m:Nat,z208=m:=⟨_,hc1⟩
 simp only [Int.toNat_natCast,vb]
 exact bbi z207 z208
end Dm
namespace Dm
open Go Go.Proofs Go.IntWalk
theorem ua0 {w:Wl} (h:okW w):gaD w:=by
 obtain⟨h1,h2,h3,h4,_⟩:=h
 have h7:=h3.2.2.1
 refine⟨by have:=h1.1;omega,fun c hc=>by have:=(h1.2.1 c hc).2.2.1;omega,by omega,by have:=h2.1;omega, ?_,by omega⟩
 rename_i h8
 have h9:=h8.2.2.2
 have:gax w.p:=by
  unfold jX at h9
  split at h9
  ·rename_i h;exact h.1
  ·cases h9
 have:=this.1;omega
theorem gbI {l:List Iv} {tick:Nat} (h:(zo l tick).2=0):waM l∧waM (zo l tick).1∧(zo l tick).1=l.filter fun x=> !bS tick x:=by
 unfold zo at h⊢
 split at h
 ·rename_i h1
  rw [if_pos h1]
  have hs:(l.filter fun x=> !bS tick x).Sublist l:=List.filter_sublist
  refine⟨h1,⟨Nat.le_trans hs.length_le h1.1,fun x hx=>h1.2.1 x (hs.subset hx), ?_⟩,rfl⟩
  exact(Srt.uU (lt:=ltN) Srt.jB).2 (List.Pairwise.sublist hs ((Srt.uU (lt:=ltN) Srt.jB).1 h1.2.2))
 ·cases h
theorem zc7:((1:Int)=0)=False:=eq_false (by decide)
def kcf:Wl:=⟨[],[],[],[],⟨0,[]⟩,0,0⟩
theorem bbY:((13:Int)=0)=False:=eq_false (by decide)
def ycf (v:Wl) (t:Nat):Int:=if¬okW v then 1 else if t<v.tick then 13 else 0
def uac (v:Wl) (t:Nat):Wl×Int:=if ycf v t=0 then({v with i:=(zo v.i t).1,tick:=t},0)else(kcf,ycf v t)
@[go_sem] def xa2 (v:Wl) (t:Nat):D:= .tup [.agg [.sl (chs (uac v t).1.c), .sl (wts (uac v t).1.w), .sl (ivs (uac v t).1.i), .sl (pys (uac v t).1.p), .int .u64 (uac v t).1.f.next, .sl (evs (uac v t).1.f.l), .int .u64 (uac v t).1.next, .int .u64 (uac v t).1.tick], .int .i64 (uac v t).2]
@[go_sem] abbrev ude:FuncId:=34
@[go_sem] def xbK:Tab:=[(82,jE),(100,kN),(189,jar)]
theorem je:za Tryz.prog xbK:=(za.cons wW (za.cons waE (za.cons qbb za.nil)))
set_option maxRecDepth 8000 in
set_option maxHeartbeats 1000000 in
theorem gbv (v:Wl) (t:Nat) (h:v.f.next≤18446744073709551615):va Tryz.prog 34 [.agg [.sl (chs v.c), .sl (wts v.w), .sl (ivs v.i), .sl (pys v.p), .c (.int .u64 (v.f.next:Int)), .sl (evs v.f.l), .c (.int .u64 (v.next:Int)), .c (.int .u64 (v.tick:Int))], .c (.int .u64 (t:Int))] (xa2 v t):=by
 refine .of (ber je (Nat.le_of_ble_eq_true rfl) ?_)
 simp -implicitDefEqProofs only [cdA,go_sem,Go.Proofs.Tryz.f34,reduceIte,reduceCtorEq,Nat.reduceEqDiff,Nat.reduceAdd,Nat.reduceLeDiff,Nat.reduceSub,Nat.reduceMul,Nat.reduceLT,Nat.reduceShiftRight,Nat.reduceMod,Int.reduceLE,Int.reduceLT,Int.reduceToNat,List.cons.injEq,cdB]
 refine zew je (Nat.le_of_ble_eq_true rfl) ?_
 simp -implicitDefEqProofs only [cdA,go_sem,Go.Proofs.Tryz.f96,reduceIte,reduceCtorEq,Nat.reduceEqDiff,Nat.reduceAdd,Nat.reduceLeDiff,Nat.reduceSub,Nat.reduceMul,Nat.reduceLT,Nat.reduceShiftRight,Nat.reduceMod,Int.reduceLE,Int.reduceLT,Int.reduceToNat,List.cons.injEq,cdB]
 refine ud.run ucU je ja (by kernel_rfl) (by kernel_rfl) ?_
 simp -implicitDefEqProofs only [cdA,go_sem,reduceIte,reduceCtorEq,Nat.reduceEqDiff,Nat.reduceAdd,Nat.reduceLeDiff,Nat.reduceSub,Nat.reduceMul,Nat.reduceLT,Nat.reduceShiftRight,Nat.reduceMod,Int.reduceLE,Int.reduceLT,Int.reduceToNat,List.cons.injEq,cdB]
 refine⟨h, ?_⟩
 have hbad:∀e:Int,ycf v t=e→¬e=0→(chs (uac v t).1.c=[]∧wts (uac v t).1.w=[]∧ivs (uac v t).1.i=[]∧pys (uac v t).1.p=[]∧0=((uac v t).1.f.next:Int)∧evs (uac v t).1.f.l=[]∧0=((uac v t).1.next:Int)∧0=((uac v t).1.tick:Int))∧e=(uac v t).2:=fun e h1 h2=>by
  have:uac v t=(kcf,e):=by rw [uac,if_neg (by rw [h1];exact h2),h1]
  rw [this];exact⟨⟨rfl,rfl,rfl,rfl,rfl,rfl,rfl,rfl⟩,rfl⟩
 by_cases hok:okW v
 rotate_left 1
 ·have hc1:wU v=1:=by rw [wU,if_neg hok]
  rw [hc1]
  refine kdD je (Nat.le_of_ble_eq_true rfl) ?_
  simp -implicitDefEqProofs only [cdA,go_sem,Go.Proofs.Tryz.f97,zc7,cdN,reduceIte,reduceCtorEq,Nat.reduceEqDiff,Nat.reduceAdd,Nat.reduceLeDiff,Nat.reduceSub,Nat.reduceMul,Nat.reduceLT,Nat.reduceShiftRight,Nat.reduceMod,Int.reduceLE,Int.reduceLT,Int.reduceToNat,List.cons.injEq,cdB]
  refine vdD je (Nat.le_of_ble_eq_true rfl) ?_
  simp -implicitDefEqProofs only [cdA,go_sem,Go.Proofs.Tryz.f98,zc7,cdN,reduceIte,reduceCtorEq,Nat.reduceEqDiff,Nat.reduceAdd,Nat.reduceLeDiff,Nat.reduceSub,Nat.reduceMul,Nat.reduceLT,Nat.reduceShiftRight,Nat.reduceMod,Int.reduceLE,Int.reduceLT,Int.reduceToNat,List.cons.injEq,cdB]
  refine vbS je (Nat.le_of_ble_eq_true rfl) ?_
  simp -implicitDefEqProofs only [cdA,go_sem,Go.Proofs.Tryz.f101,zc7,cdN,reduceIte,reduceCtorEq,Nat.reduceEqDiff,Nat.reduceAdd,Nat.reduceLeDiff,Nat.reduceSub,Nat.reduceMul,Nat.reduceLT,Nat.reduceShiftRight,Nat.reduceMod,Int.reduceLE,Int.reduceLT,Int.reduceToNat,List.cons.injEq,cdB]
  refine ud.run zbv je ja (by kernel_rfl) (by kernel_rfl) ?_
  simp -implicitDefEqProofs only [cdA,go_sem,zc7,cdN,reduceIte,reduceCtorEq,Nat.reduceEqDiff,Nat.reduceAdd,Nat.reduceLeDiff,Nat.reduceSub,Nat.reduceMul,Nat.reduceLT,Nat.reduceShiftRight,Nat.reduceMod,Int.reduceLE,Int.reduceLT,Int.reduceToNat,List.cons.injEq,cdB]
  exact hbad 1 (by rw [ycf,if_pos hok]) (by decide)
 have hck:wU v=0:=ybM.2 hok
 rw [hck]
 by_cases hl:v.tick≤t
 rotate_left 1
 ·have hl':((v.tick:Int)≤t)=False:=eq_false (by omega)
  refine kdD je (Nat.le_of_ble_eq_true rfl) ?_
  simp -implicitDefEqProofs only [cdA,go_sem,Go.Proofs.Tryz.f97,hl',decide_false,cdN,reduceIte,reduceCtorEq,Nat.reduceEqDiff,Nat.reduceAdd,Nat.reduceLeDiff,Nat.reduceSub,Nat.reduceMul,Nat.reduceLT,Nat.reduceShiftRight,Nat.reduceMod,Int.reduceLE,Int.reduceLT,Int.reduceToNat,List.cons.injEq,cdB]
  refine vdD je (Nat.le_of_ble_eq_true rfl) ?_
  simp -implicitDefEqProofs only [cdA,go_sem,Go.Proofs.Tryz.f98,bbY,cdN,reduceIte,reduceCtorEq,Nat.reduceEqDiff,Nat.reduceAdd,Nat.reduceLeDiff,Nat.reduceSub,Nat.reduceMul,Nat.reduceLT,Nat.reduceShiftRight,Nat.reduceMod,Int.reduceLE,Int.reduceLT,Int.reduceToNat,List.cons.injEq,cdB]
  refine vbS je (Nat.le_of_ble_eq_true rfl) ?_
  simp -implicitDefEqProofs only [cdA,go_sem,Go.Proofs.Tryz.f101,bbY,cdN,reduceIte,reduceCtorEq,Nat.reduceEqDiff,Nat.reduceAdd,Nat.reduceLeDiff,Nat.reduceSub,Nat.reduceMul,Nat.reduceLT,Nat.reduceShiftRight,Nat.reduceMod,Int.reduceLE,Int.reduceLT,Int.reduceToNat,List.cons.injEq,cdB]
  refine ud.run zbv je ja (by kernel_rfl) (by kernel_rfl) ?_
  simp -implicitDefEqProofs only [cdA,go_sem,bbY,cdN,reduceIte,reduceCtorEq,Nat.reduceEqDiff,Nat.reduceAdd,Nat.reduceLeDiff,Nat.reduceSub,Nat.reduceMul,Nat.reduceLT,Nat.reduceShiftRight,Nat.reduceMod,Int.reduceLE,Int.reduceLT,Int.reduceToNat,List.cons.injEq,cdB]
  exact hbad 13 (by rw [ycf,if_neg (fun h=>h hok),if_pos (by omega)]) (by decide)
 have hl':((v.tick:Int)≤t)=True:=eq_true (by omega)
 have hsw:(zo v.i t).2=0:=by rw [zo,if_pos hok.2.1]
 refine kdD je (Nat.le_of_ble_eq_true rfl) ?_
 simp -implicitDefEqProofs only [cdA,go_sem,Go.Proofs.Tryz.f97,hl',decide_true,cdN,reduceIte,reduceCtorEq,Nat.reduceEqDiff,Nat.reduceAdd,Nat.reduceLeDiff,Nat.reduceSub,Nat.reduceMul,Nat.reduceLT,Nat.reduceShiftRight,Nat.reduceMod,Int.reduceLE,Int.reduceLT,Int.reduceToNat,List.cons.injEq,cdB]
 refine vdD je (Nat.le_of_ble_eq_true rfl) ?_
 simp -implicitDefEqProofs only [cdA,go_sem,Go.Proofs.Tryz.f98,hsw,cdN,reduceIte,reduceCtorEq,Nat.reduceEqDiff,Nat.reduceAdd,Nat.reduceLeDiff,Nat.reduceSub,Nat.reduceMul,Nat.reduceLT,Nat.reduceShiftRight,Nat.reduceMod,Int.reduceLE,Int.reduceLT,Int.reduceToNat,List.cons.injEq,cdB]
 refine yew je (Nat.le_of_ble_eq_true rfl) ?_
 simp -implicitDefEqProofs only [cdA,go_sem,Go.Proofs.Tryz.f99,hsw,cdN,reduceIte,reduceCtorEq,Nat.reduceEqDiff,Nat.reduceAdd,Nat.reduceLeDiff,Nat.reduceSub,Nat.reduceMul,Nat.reduceLT,Nat.reduceShiftRight,Nat.reduceMod,Int.reduceLE,Int.reduceLT,Int.reduceToNat,List.cons.injEq,cdB]
 have hsm:gaD ⟨v.c,v.w,(zo v.i t).1,v.p,v.f,v.next,t⟩:=by
  have h2:=ua0 hok
  have h3:=(gbI hsw).2.1.1
  exact⟨h2.1,h2.2.1,h2.2.2.1,by show(zo v.i t).1.length≤_;omega,h2.2.2.2.2.1,h2.2.2.2.2.2⟩
 have hfin:uac v t=(⟨v.c,v.w,(zo v.i t).1,v.p,v.f,v.next,t⟩,0):=by
  have:ycf v t=0:=by rw [ycf,if_neg (fun h=>h hok),if_neg (by omega)]
  rw [uac,if_pos this]
 refine vbS je (Nat.le_of_ble_eq_true rfl) ?_
 simp -implicitDefEqProofs only [cdA,go_sem,Go.Proofs.Tryz.f101,eq_true hsm,cdN,reduceIte,reduceCtorEq,Nat.reduceEqDiff,Nat.reduceAdd,Nat.reduceLeDiff,Nat.reduceSub,Nat.reduceMul,Nat.reduceLT,Nat.reduceShiftRight,Nat.reduceMod,Int.reduceLE,Int.reduceLT,Int.reduceToNat,List.cons.injEq,cdB]
 rw [hfin]
 exact⟨⟨rfl,rfl,rfl,rfl,rfl,rfl,rfl,rfl⟩,rfl⟩
@[go_sem] def ya2 (v:Wl) (t:Nat):Prop:=(v.f.next≤18446744073709551615)
def kR:List D→Option (Prop×D×Fr)
 |[.agg [.c (.sl z604), .c (.sl z605), .c (.sl z606), .c (.sl z607), .c (.int .u64 z609), .c (.sl z610), .c (.int .u64 z611), .c (.int .u64 z612)], .c (.int .u64 z613)]=>some (z604=chs (ug z604)∧z605=wts (vl z605)∧z606=ivs (qi z606)∧z607=pys (ji z607)∧z609=(z609.toNat:Int)∧z610=evs (xh z610)∧z611=(z611.toNat:Int)∧z612=(z612.toNat:Int)∧z613=(z613.toNat:Int)∧ya2 (⟨(ug z604),(vl z605),(qi z606),(ji z607),(⟨z609.toNat,(xh z610)⟩:Fd),z611.toNat,z612.toNat⟩:Wl) z613.toNat,xa2 (⟨(ug z604),(vl z605),(qi z606),(ji z607),(⟨z609.toNat,(xh z610)⟩:Fd),z611.toNat,z612.toNat⟩:Wl) z613.toNat,[])
 |_=>none
attribute [go_sem] kR
theorem yaH:∀rs p r fr,kR rs=some (p,r,fr)→p→uc Tryz.prog 34 rs r fr:=by
 intro rs p r fr h hp
 unfold kR at h
 split at h<;>cases h
 obtain⟨hc0,hc1,hc2,hc3,hc4,hc5,hc6,hc7,hc8,hp⟩:=hp
 rename_i z604 z605 z606 z607 z609 z610 z611 z612 z613
 obtain⟨z604,rfl⟩:∃m,z604=chs m:=⟨_,hc0⟩
 obtain⟨z605,rfl⟩:∃m,z605=wts m:=⟨_,hc1⟩
 obtain⟨z606,rfl⟩:∃m,z606=ivs m:=⟨_,hc2⟩
 obtain⟨z607,rfl⟩:∃m,z607=pys m:=⟨_,hc3⟩
 obtain⟨z609,rfl⟩:∃m:Nat,z609=m:=⟨_,hc4⟩
 obtain⟨z610,rfl⟩:∃m,z610=evs m:=⟨_,hc5⟩
 obtain⟨z611,rfl⟩:∃m:Nat,z611=m:=⟨_,hc6⟩
 obtain⟨z612,rfl⟩:∃m:Nat,z612=m:=⟨_,hc7⟩
 obtain⟨z613,rfl⟩:∃m:Nat,z613=m:=⟨_,hc8⟩
 simp only [Int.toNat_natCast,yb,qb,vb,jb,qc]
 simp only [Int.toNat_natCast,yb,qb,vb,jb,qc,ya2]at hp
 exact gbv ⟨z604,z605,z606,z607,⟨z609,z610⟩,z611,z612⟩ z613 hp
end Dm
namespace Dm
open Go Go.Proofs Go.IntWalk
def yas (l:List Rk) (id key:Nat):Int:=if¬kad l then 1 else if Srt.thr Rk.id ltN l id=true∨kJ l key=true then 6 else if l.length=64 then 7 else 0
def kj (l:List Rk) (id key:Nat):List Rk×Int:=if yas l id key=0 then(Srt.ins l (Srt.pos Rk.id ltN l id) ⟨id,key,false⟩,0)else([],yas l id key)
def gae:Bk:=⟨kcf,⟨[]⟩,[],[],[]⟩
def yh (b:Bk) (id key:Nat) (l:List Rk×Int):Bk×Tk×Int:=
 if jU b≠0 then(gae,⟨0,[],0⟩,jU b)else if l.2≠0 then(gae,⟨0,[],0⟩,l.2)else
 if(vh b.a.l ⟨key, -1,qk [id]⟩).2.2≠0 then(gae,⟨0,[],0⟩,(vh b.a.l ⟨key, -1,qk [id]⟩).2.2)else
 (⟨b.w,⟨(vh b.a.l ⟨key, -1,qk [id]⟩).1⟩,l.1,b.k,b.s⟩,⟨id,[],(vh b.a.l ⟨key, -1,qk [id]⟩).2.1⟩,0)
end Dm
namespace Dm
open Go Go.Proofs Go.IntWalk
theorem ub9 {l:List Rk} (h:kad l):Srt.Up Rk.id ltN l:=(Srt.uU (lt:=ltN) Srt.jB).1 h.2.1
theorem vcQ {l:List Rk} {id:Nat} (h:Srt.thr Rk.id ltN l id=true):Srt.pos Rk.id ltN l id<l.length∧(l.getD (Srt.pos Rk.id ltN l id) default).id=id:=by
 unfold Srt.thr at h
 exact of_decide_eq_true h
theorem xbj {l:List Rk} (h:kad l) {root k:Nat}:(vaj l root).2=0∧(vaj l root).1=k↔(⟨root,k,false⟩:Rk)∈l:=by
 constructor
 ·rintro⟨h1,h2⟩
  unfold vaj at h1 h2
  split at h1
  ·rename_i h3
   rw [if_pos h3]at h2
   obtain⟨_,_,g3,g4,g5⟩:=xa0 h3
   have e:l.getD (wz l root).1 default=⟨root,k,false⟩:=by
    generalize l.getD (wz l root).1 default=x at*
    cases x;dsimp only at*;rw [g4,h2,g5]
   rw [←e];exact ua.2 ⟨_,g3,rfl⟩
  ·rename_i h3;exact absurd h1 h3
 ·intro hm
  have hu:=ub9 h
  have ht:Srt.thr Rk.id ltN l root=true:=(Srt.war (lt:=ltN) Srt.jB hu).2 ⟨_,hm,rfl⟩
  obtain⟨g1,g2⟩:=vcQ ht
  have e:l.getD (Srt.pos Rk.id ltN l root) default=⟨root,k,false⟩:=Srt.bbu (lt:=ltN) Srt.jB hu (ua.2 ⟨_,g1,rfl⟩) hm g2
  have hg:wz l root=(Srt.pos Rk.id ltN l root,0):=by
   rw [wz,if_neg (fun h'=>h' h),if_neg (by rw [ht];decide),e];exact if_neg fun h=>Bool.noConfusion h
  rw [vaj,hg,if_pos rfl,e];exact⟨rfl,rfl⟩
theorem qaU {b:Bk} {r:Rq} {who:Nat} (h:kad b.r):xbY b r who↔∃k,(⟨r.t.root,k,false⟩:Rk)∈b.r∧wbw b.a.l k (qk [r.t.root]) (r.t.l.map bR)=some r.t.tag∧
 (∀c∈r.t.l,kr c ⟨b.w.tick,r.method,(gac r).1,who⟩=true)∧xci b.s r.t.root r.t.l (gac r).1=true:=by
 constructor
 ·rintro⟨h1,h2⟩
  exact⟨_,(xbj h).1 ⟨h1,rfl⟩,h2⟩
 ·rintro⟨k,h1,h2⟩
  obtain⟨g1,g2⟩:=(xbj h).2 h1
  exact⟨g1,by rw [g2];exact h2⟩
theorem xcb {l:List Rk} {key:Nat}:kJ l key=false↔key∉l.map Rk.key:=by
 rw [kJ,decide_eq_false_iff_not,List.mem_map]
end Dm
namespace Dm
open Go Go.Proofs Go.IntWalk
@[go_sem] def uaX (p:Py):D:= .bool (decide (vI p))
@[go_sem] abbrev wdc:FuncId:=230
@[go_sem] def jbF:Tab:=[(152,wm)]
theorem waN:za Tryz.prog jbF:=(za.cons gp za.nil)
set_option maxRecDepth 8000 in
set_option maxHeartbeats 1000000 in
theorem wbn (p:Py):va Tryz.prog 230 [.agg [.c (.int .u64 (p.id:Int)), .c (.int .u64 (p.hash:Int)), .c (.int .u64 (p.chan:Int)), .c (.int .u64 (p.n:Int)), .c (.int .i64 p.state)]] (uaX p):=by
 refine .of (gdB waN (Nat.le_of_ble_eq_true rfl) ?_)
 simp -implicitDefEqProofs only [cdA,go_sem,Go.Proofs.Tryz.f230,reduceIte,reduceCtorEq,Nat.reduceEqDiff,Nat.reduceAdd,Nat.reduceLeDiff,Nat.reduceSub,Nat.reduceMul,Nat.reduceLT,Nat.reduceShiftRight,Nat.reduceMod,Int.reduceLE,Int.reduceLT,Int.reduceToNat,List.cons.injEq,cdB]
 have hm:wL [p.n]=0↔p.n≤MM:=uI
 rw [hm]
 have ho:vI p↔(p.n≠0∧p.n≤MM)∧1≤p.state∧p.state≤3:= .rfl
 rw [show decide (vI p)=decide ((p.n≠0∧p.n≤MM)∧1≤p.state∧p.state≤3)from decide_eq_decide.2 ho]
 refine⟨fun h=>⟨fun h2=>⟨fun h3=> ?_,fun h3=> ?_⟩,fun h2=> ?_⟩,fun h=> ?_⟩
 ·rw [decide_eq_decide];exact⟨fun h4=>⟨⟨by omega,h2⟩,h3,h4⟩,fun h4=>h4.2.2⟩
 ·exact(decide_eq_false fun h4=>h3 h4.2.1).symm
 ·exact(decide_eq_false fun h4=>h2 h4.1.2).symm
 ·exact(decide_eq_false fun h4=>h4.1.1 (by omega)).symm
def jO:List D→Option (Prop×D×Fr)
 |[.agg [.c (.int .u64 z2), .c (.int .u64 z3), .c (.int .u64 z4), .c (.int .u64 z5), .c (.int .i64 z6)]]=>some (z2=(z2.toNat:Int)∧z3=(z3.toNat:Int)∧z4=(z4.toNat:Int)∧z5=(z5.toNat:Int),uaX (⟨z2.toNat,z3.toNat,z4.toNat,z5.toNat,z6⟩:Py),[])
 |_=>none
attribute [go_sem] jO
theorem qaF:∀rs p r fr,jO rs=some (p,r,fr)→p→uc Tryz.prog 230 rs r fr:=by
 intro rs p r fr h hp
 unfold jO at h
 split at h<;>cases h
 obtain⟨hc0,hc1,hc2,hc3⟩:=hp
 rename_i z2 z3 z4 z5 z6
 obtain⟨z2,rfl⟩:∃m:Nat,z2=m:=⟨_,hc0⟩
 obtain⟨z3,rfl⟩:∃m:Nat,z3=m:=⟨_,hc1⟩
 obtain⟨z4,rfl⟩:∃m:Nat,z4=m:=⟨_,hc2⟩
 obtain⟨z5,rfl⟩:∃m:Nat,z5=m:=⟨_,hc3⟩
 simp only [Int.toNat_natCast]
 exact wbn ⟨z2,z3,z4,z5,z6⟩
@[go_sem] def yai (l:List Py):D:= .int .i64 (kaT l)
@[go_sem] abbrev zcp:FuncId:=169
@[go_sem] def ba6:Tab:=[(230,jO)]
theorem kz:za Tryz.prog ba6:=(za.cons qaF za.nil)
set_option maxRecDepth 8000 in
set_option maxHeartbeats 1000000 in
theorem kaN (l:List Py):va Tryz.prog 169 [.sl (pys l)] (yai l):=by
 refine .of (wdy kz (Nat.le_of_ble_eq_true rfl) ?_)
 simp -implicitDefEqProofs only [cdA,go_sem,Go.Proofs.Tryz.f169,reduceIte,reduceCtorEq,Nat.reduceEqDiff,Nat.reduceAdd,Nat.reduceLeDiff,Nat.reduceSub,Nat.reduceMul,Nat.reduceLT,Nat.reduceShiftRight,Nat.reduceMod,Int.reduceLE,Int.reduceLT,Int.reduceToNat,List.cons.injEq,cdB]
 have hbad:¬gax l→1=kaT l:=fun h=>by rw [kaT,if_neg h]
 refine fun _=>⟨fun h=>hbad fun ho=> ?_,fun h _=> ?_⟩
 ·have:=ho.1;omega
 refine SWp.loop (ι:={i:Nat // i≤l.length∧(∀j,j<i→vI (l.getD j default)∧(0<j→(l.getD (j - 1) default).id<(l.getD j default).id))}) (fun i=>⟨[(0, .sl (pys l)),(8, .sl (pys l)),(9, .int .i64 l.length),(10, .int .i64 i.1)],[],0⟩) (fun i=>l.length - i.1) ⟨0,by simp⟩ ?_ ?_
 ·simp [go_sem]
 ·rintro⟨i,hi,hall⟩
  refine qa kz.toS xb2 _ _ _ rfl ?_
  simp -implicitDefEqProofs only [cdA,go_sem,reduceIte,reduceCtorEq,Nat.reduceEqDiff,Nat.reduceAdd,Nat.reduceLeDiff,Nat.reduceSub,Nat.reduceMul,Nat.reduceLT,Nat.reduceShiftRight,Nat.reduceMod,Int.reduceLE,Int.reduceLT,Int.reduceToNat,List.cons.injEq,cdB]
  refine⟨fun h1=>⟨by omega, ?_⟩,fun h1=> ?_⟩
  ·refine ud.run bcc kz ja (by kernel_rfl) (by kernel_rfl) ?_
   simp -implicitDefEqProofs only [cdA,go_sem,reduceIte,reduceCtorEq,Nat.reduceEqDiff,Nat.reduceAdd,Nat.reduceLeDiff,Nat.reduceSub,Nat.reduceMul,Nat.reduceLT,Nat.reduceShiftRight,Nat.reduceMod,Int.reduceLE,Int.reduceLT,Int.reduceToNat,List.cons.injEq,cdB]
   have hi':i<l.length:=by omega
   have hm:gax l→vI (l.getD i default):=fun h=>h.2.1 _ (ua.2 ⟨i,hi',rfl⟩)
   have hnext:(0<i→(l.getD (i - 1) default).id<(l.getD i default).id)→vI (l.getD i default)→∃i_1:{i:Nat // i≤l.length∧(∀j,j<i→vI (l.getD j default)∧(0<j→(l.getD (j - 1) default).id<(l.getD j default).id))},l.length - i_1.val<l.length - i∧IntKind.i64.wrap ((i:Int)+1)=i_1.val:=fun ho h2=>by
    refine⟨⟨i+1,hi',fun j hj=> ?_⟩,by dsimp only;omega,i64_in _ (by omega)⟩
    by_cases hji:j=i
    ·subst hji;exact⟨h2,ho⟩
    ·exact hall j (by omega)
   refine⟨fun h3=> ?_,fun h3=>⟨hnext fun h=>absurd h (by omega),fun h4=>hbad fun h=>h4 (hm h)⟩⟩
   rw [i64_in _ (by omega),show((i:Int) - 1).toNat=i - 1 by omega]
   exact⟨by omega,fun h4=>⟨hnext fun _=>by omega,fun h5=>hbad fun h=>h5 (hm h)⟩,fun h4=>hbad fun h=>by have:=h.2.2 i hi' (by omega);simp only [ltN]at this;omega⟩
  ·have hi':i=l.length:=by omega
   subst hi'
   rw [kaT,if_pos]
   exact⟨by omega,fun x hx=>by obtain⟨j,hj,rfl⟩:=ua.1 hx;exact(hall j hj).1,fun j hj h0=>(hall j hj).2 h0⟩
def bq:List D→Option (Prop×D×Fr)
 |[.c (.sl z7)]=>some (z7=pys (ji z7),yai (ji z7),[])
 |_=>none
attribute [go_sem] bq
theorem jJ:∀rs p r fr,bq rs=some (p,r,fr)→p→uc Tryz.prog 169 rs r fr:=by
 intro rs p r fr h hp
 unfold bq at h
 split at h<;>cases h
 have hc0:=hp
 rename_i z7
 obtain⟨z7,rfl⟩:∃m,z7=pys m:=⟨_,hc0⟩
 simp only [jb]
 exact kaN z7
end Dm
namespace Dm
open Go Go.Proofs Go.IntWalk
@[go_sem] def gah (l:List Iv):D:= .int .i64 (bac l)
@[go_sem] abbrev gco:FuncId:=168
@[go_sem] def wa6:Tab:=[(152,wm)]
theorem qz:za Tryz.prog wa6:=(za.cons gp za.nil)
set_option maxRecDepth 8000 in
set_option maxHeartbeats 1000000 in
theorem qaN (l:List Iv):va Tryz.prog 168 [.sl (ivs l)] (gah l):=by
 refine .of (vdy qz (Nat.le_of_ble_eq_true rfl) ?_)
 simp -implicitDefEqProofs only [cdA,go_sem,Go.Proofs.Tryz.f168,reduceIte,reduceCtorEq,Nat.reduceEqDiff,Nat.reduceAdd,Nat.reduceLeDiff,Nat.reduceSub,Nat.reduceMul,Nat.reduceLT,Nat.reduceShiftRight,Nat.reduceMod,Int.reduceLE,Int.reduceLT,Int.reduceToNat,List.cons.injEq,cdB]
 have hbad:¬waM l→1=bac l:=fun h=>by rw [bac,if_neg h]
 refine fun _=>⟨fun h=>hbad fun ho=> ?_,fun h _=> ?_⟩
 ·have:=ho.1;omega
 refine SWp.loop (ι:={i:Nat // i≤l.length∧(∀j,j<i→gan (l.getD j default)∧(0<j→(l.getD (j - 1) default).hash<(l.getD j default).hash))}) (fun i=>⟨[(0, .sl (ivs l)),(8, .sl (ivs l)),(9, .int .i64 l.length),(10, .int .i64 i.1)],[],0⟩) (fun i=>l.length - i.1) ⟨0,by simp⟩ ?_ ?_
 ·simp [go_sem]
 ·rintro⟨i,hi,hall⟩
  refine qa qz.toS yb2 _ _ _ rfl ?_
  simp -implicitDefEqProofs only [cdA,go_sem,reduceIte,reduceCtorEq,Nat.reduceEqDiff,Nat.reduceAdd,Nat.reduceLeDiff,Nat.reduceSub,Nat.reduceMul,Nat.reduceLT,Nat.reduceShiftRight,Nat.reduceMod,Int.reduceLE,Int.reduceLT,Int.reduceToNat,List.cons.injEq,cdB]
  refine⟨fun h1=>⟨by omega, ?_⟩,fun h1=> ?_⟩
  ·refine ud.run gcc qz ja (by kernel_rfl) (by kernel_rfl) ?_
   simp -implicitDefEqProofs only [cdA,go_sem,reduceIte,reduceCtorEq,Nat.reduceEqDiff,Nat.reduceAdd,Nat.reduceLeDiff,Nat.reduceSub,Nat.reduceMul,Nat.reduceLT,Nat.reduceShiftRight,Nat.reduceMod,Int.reduceLE,Int.reduceLT,Int.reduceToNat,List.cons.injEq,cdB]
   have hi':i<l.length:=by omega
   have hmn:wL [(l.getD i default).n]=0↔(l.getD i default).n≤MM:=uI
   have hm:waM l→gan (l.getD i default):=fun h=>h.2.1 _ (ua.2 ⟨i,hi',rfl⟩)
   rw [hmn]
   have hnext:(0<i→(l.getD (i - 1) default).hash<(l.getD i default).hash)→
    (¬((l.getD i default).n:Int)=0→((l.getD i default).n≤MM→(¬(l.getD i default).state<1→(3<(l.getD i default).state→1=bac l)∧(¬3<(l.getD i default).state→
        ∃i_1:{i:Nat // i≤l.length∧(∀j,j<i→gan (l.getD j default)∧(0<j→(l.getD (j - 1) default).hash<(l.getD j default).hash))},l.length - i_1.val<l.length - i∧IntKind.i64.wrap ((i:Int)+1)=i_1.val))∧((l.getD i default).state<1→1=bac l))∧
     (¬(l.getD i default).n≤MM→1=bac l))∧(((l.getD i default).n:Int)=0→1=bac l):=fun ho=>by
    refine⟨fun h2=>⟨fun h5=>⟨fun h3=>⟨fun h4=>hbad fun h=> ?_,fun h4=>⟨⟨i+1,hi',fun j hj=> ?_⟩,by dsimp only;omega,i64_in _ (by omega)⟩⟩,fun h3=>hbad fun h=> ?_⟩,fun h5=>hbad fun h=>h5 (hm h).1.2⟩,fun h2=>hbad fun h=>(hm h).1.1 (by omega)⟩
    ·have:=(hm h).2.2;omega
    ·by_cases hji:j=i
     ·subst hji;exact⟨⟨⟨by omega,h5⟩,by omega,by omega⟩,ho⟩
     ·exact hall j (by omega)
    ·have:=(hm h).2.1;omega
   refine⟨fun h2=> ?_,fun h2=>hnext fun h=>absurd h (by omega)⟩
   rw [i64_in _ (by omega),show((i:Int) - 1).toNat=i - 1 by omega]
   exact⟨by omega,fun h3=>hnext fun _=>by omega,fun h3=>hbad fun h=>by have:=h.2.2 i hi' (by omega);simp only [ltN]at this;omega⟩
  ·have hi':i=l.length:=by omega
   subst hi'
   rw [bac,if_pos]
   exact⟨by omega,fun x hx=>by obtain⟨j,hj,rfl⟩:=ua.1 hx;exact(hall j hj).1,fun j hj h0=>(hall j hj).2 h0⟩
def xA:List D→Option (Prop×D×Fr)
 |[.c (.sl z1)]=>some (z1=ivs (qi z1),gah (qi z1),[])
 |_=>none
attribute [go_sem] xA
theorem yae:∀rs p r fr,xA rs=some (p,r,fr)→p→uc Tryz.prog 168 rs r fr:=by
 intro rs p r fr h hp
 unfold xA at h
 split at h<;>cases h
 have hc0:=hp
 rename_i z1
 obtain⟨z1,rfl⟩:∃m,z1=ivs m:=⟨_,hc0⟩
 simp only [vb]
 exact qaN z1
@[go_sem] def uai (f:Fd):D:= .int .i64 (vbc f)
@[go_sem] abbrev jcp:FuncId:=170
@[go_sem] def wa7:Tab:=[]
theorem xM:za Tryz.prog wa7:=za.nil
set_option maxRecDepth 8000 in
set_option maxHeartbeats 1000000 in
theorem baN (f:Fd) (h:f.next≤18446744073709551615):va Tryz.prog 170 [.agg [.c (.int .u64 (f.next:Int)), .sl (evs f.l)]] (uai f):=by
 refine .of (udy xM (Nat.le_of_ble_eq_true rfl) ?_)
 simp -implicitDefEqProofs only [cdA,go_sem,Go.Proofs.Tryz.f170,reduceIte,reduceCtorEq,Nat.reduceEqDiff,Nat.reduceAdd,Nat.reduceLeDiff,Nat.reduceSub,Nat.reduceMul,Nat.reduceLT,Nat.reduceShiftRight,Nat.reduceMod,Int.reduceLE,Int.reduceLT,Int.reduceToNat,List.cons.injEq,cdB]
 have hbad:¬xbE f→1=vbc f:=fun h=>by rw [vbc,if_neg h]
 refine⟨fun h1=>⟨fun h2 hl=>⟨fun h3 _=> ?_,fun h3=>hbad fun ho=>h3 ?_⟩,fun h2=>hbad fun ho=> ?_⟩,fun h1=>hbad fun ho=> ?_⟩
 rotate_left 1
 ·have:=ho.2.2.1
  rw [u64_in f.l.length (by omega),u64_in ((f.next:Int) - 1) (by omega)];omega
 ·have:=ho.2.1;unfold MM at this;omega
 ·have:=ho.1;omega
 rw [u64_in f.l.length (by omega),u64_in ((f.next:Int) - 1) (by omega)]at h3
 refine SWp.loop (ι:={i:Nat // i≤f.l.length∧∀j:Nat,j<i→((f.l.getD j default).seq:Int)=f.next - (f.l.length - j:Int)∧gam (f.l.getD j default).kind=true}) (fun i=>⟨[(1, .ref 0 0),(25, .sl (evs f.l)),(26, .int .i64 f.l.length),(27, .int .i64 i.1)],
  [(0, .box [.c (.int .u64 f.next), .sl (evs f.l)])],1⟩) (fun i=>f.l.length - i.1) ⟨0,by simp⟩ ?_ ?_
 ·simp [go_sem]
 ·rintro⟨i,hi,hall⟩
  refine qa xM.toS qb2 _ _ _ rfl ?_
  simp -implicitDefEqProofs only [cdA,go_sem,reduceIte,reduceCtorEq,Nat.reduceEqDiff,Nat.reduceAdd,Nat.reduceLeDiff,Nat.reduceSub,Nat.reduceMul,Nat.reduceLT,Nat.reduceShiftRight,Nat.reduceMod,Int.reduceLE,Int.reduceLT,Int.reduceToNat,List.cons.injEq,cdB]
  have hMM:f.next≤4611686018427387904:=by omega
  refine⟨fun h4=>⟨by omega,fun _=> ?_⟩,fun h4=> ?_⟩
  ·have hi':i<f.l.length:=by omega
   have hg:xbE f→((f.l.getD i default).seq:Int)=f.next - (f.l.length - i:Int)∧gam (f.l.getD i default).kind=true:=fun ho=>(uL f.next f.l).1 ho.2.2.2 i hi'
   rw [i64_in ((f.l.length:Int) - (i:Nat)) (by omega),u64_in ((f.l.length:Int) - (i:Nat)) (by omega),u64_in ((f.next:Int) - _) (by omega)]
   have hk:gam (f.l.getD i default).kind=true↔0≤(f.l.getD i default).kind∧(f.l.getD i default).kind<16:=decide_eq_true_iff
   refine⟨fun h5=>⟨fun h6=>⟨fun h7=>hbad fun ho=> ?_,fun h7=>⟨⟨i+1,hi',fun j hj=> ?_⟩,by dsimp only;omega,i64_in _ (by omega)⟩⟩,fun h6=>hbad fun ho=> ?_⟩,fun h5=>hbad fun ho=>h5 (hg ho).1⟩
   ·have:=hk.1 (hg ho).2;omega
   ·by_cases hji:j=i
    ·subst hji;exact⟨h5,hk.2 ⟨by omega,by omega⟩⟩
    ·exact hall j (by omega)
   ·have:=hk.1 (hg ho).2;omega
  ·have hi':i=f.l.length:=by omega
   subst hi'
   rw [vbc,if_pos]
   exact⟨by omega,by unfold MM;omega,by omega,(uL f.next f.l).2 hall⟩
@[go_sem] def wai (f:Fd):Prop:=(f.next≤18446744073709551615)
def uA:List D→Option (Prop×D×Fr)
 |[.agg [.c (.int .u64 z3), .c (.sl z4)]]=>some (z3=(z3.toNat:Int)∧z4=evs (xh z4)∧wai (⟨z3.toNat,(xh z4)⟩:Fd),uai (⟨z3.toNat,(xh z4)⟩:Fd),[])
 |_=>none
attribute [go_sem] uA
theorem vae:∀rs p r fr,uA rs=some (p,r,fr)→p→uc Tryz.prog 170 rs r fr:=by
 intro rs p r fr h hp
 unfold uA at h
 split at h<;>cases h
 obtain⟨hc0,hc1,hp⟩:=hp
 rename_i z3 z4
 obtain⟨z3,rfl⟩:∃m:Nat,z3=m:=⟨_,hc0⟩
 obtain⟨z4,rfl⟩:∃m,z4=evs m:=⟨_,hc1⟩
 simp only [Int.toNat_natCast,qb]
 simp only [Int.toNat_natCast,qb,wai]at hp
 exact baN ⟨z3,z4⟩ hp
end Dm
namespace Dm
open Go Go.Proofs Go.IntWalk
@[go_sem] theorem Hd.eqD {a b:Hd}:eqD Tryz.prog 198 [D.c (.int .u64 (a.id:Int)),D.c (.int .u64 (a.n:Int))] [D.c (.int .u64 (b.id:Int)),D.c (.int .u64 (b.n:Int))]=some (decide (a=b)):=by
 cases a;cases b
 simp only [Dm.eqD,vbz,xo,eqC,List.getElem?_cons_zero,List.getElem?_cons_succ,if_true,Option.some.injEq,Hd.mk.injEq]
 rw [Bool.eq_iff_iff]
 simp [Int.ofNat_inj]
theorem wbh {a b:List Ch}:hlL (a++b)=hlL a++hlL b:=by simp [hlL]
theorem gbE {a b:List Py}:yK (a++b)=yK a++yK b:=by simp [yK]
theorem jbD {l:List Py} {q:Py}:q∈yK l↔q∈l∧q.state=1:=by
 unfold yK;rw [List.mem_filter,decide_eq_true_eq]
theorem xb5 {l:List Py} (h:gax l):Srt.Up Py.id ltN l:=(Srt.uU (lt:=ltN) Srt.jB).1 h.2.2
theorem ycc {l:List Py} {k:Nat} (hu:Srt.Up Py.id ltN l) (h:0<l.length→(l.getD (l.length - 1) default).id<k):∀x∈l,x.id<k:=fun x hx=>by
 obtain⟨i,hi,rfl⟩:=ua.1 hx
 by_cases hl:i=l.length - 1
 ·rw [hl];exact h (by omega)
 ·have:=Srt.zy.1 hu i (l.length - 1) (by omega) (by omega)
  have h2:=h (by omega)
  simp only [ltN]at this;omega
theorem bas {p:List Py} {c:List Ch}:jX p c=(true,0)↔gax p∧c.length≤32∧(c.map Ch.id).Nodup∧(∀q∈yK p,(q.chan,q.id,q.n)∈hlL c)∧(hlL c).length=(yK p).length:=by
 unfold jX
 split
 ·rename_i h
  rw [Prod.mk.injEq]
  refine⟨fun h1=>⟨h.1,h.2.1,h.2.2,of_decide_eq_true h1.1⟩,fun h1=>⟨decide_eq_true h1.2.2.2,rfl⟩⟩
 ·rename_i h
  refine⟨fun h1=>(by cases h1),fun h1=>absurd ⟨h1.1,h1.2.1,h1.2.2.1⟩ h⟩
theorem jb5 {w:Wl} (h:okW w):∀x∈w.p,x.id<w.next:=by
 have h1:=(bas.1 h.2.2.2.2.2.2.2).1
 exact ycc (xb5 h1) h.2.2.2.2.2.2.1
end Dm
namespace Dm
open Go Go.Proofs Go.IntWalk
@[go_sem] def xai (cs:List Ch) (id:Nat) (h:Hd):D:= .bool (decide ((id,h.id,h.n)∈hlL cs))
@[go_sem] abbrev ycp:FuncId:=231
@[go_sem] def za7:Tab:=[]
theorem vz:za Tryz.prog za7:=za.nil
set_option maxRecDepth 8000 in
set_option maxHeartbeats 1000000 in
theorem vaN (cs:List Ch) (id:Nat) (h:Hd):va Tryz.prog 231 [.sl (chs cs), .c (.int .u64 (id:Int)), .agg [.c (.int .u64 (h.id:Int)), .c (.int .u64 (h.n:Int))]] (xai cs id h):=by
 refine .of (bdB vz (Nat.le_of_ble_eq_true rfl) ?_)
 simp -implicitDefEqProofs only [cdA,go_sem,Go.Proofs.Tryz.f231,reduceIte,reduceCtorEq,Nat.reduceEqDiff,Nat.reduceAdd,Nat.reduceLeDiff,Nat.reduceSub,Nat.reduceMul,Nat.reduceLT,Nat.reduceShiftRight,Nat.reduceMod,Int.reduceLE,Int.reduceLT,Int.reduceToNat,List.cons.injEq,cdB]
 refine fun hl=>SWp.loop (ι:={i:Nat // i≤cs.length∧(id,h.id,h.n)∉hlL (cs.take i)}) (fun i=>⟨[(1, .c (.int .u64 id)),(5, .ref 0 0),(11, .sl (chs cs)),(12, .int .i64 cs.length),(13, .int .i64 i.1)],[(0, .box [.c (.int .u64 h.id), .c (.int .u64 h.n)])],1⟩) (fun i=>cs.length - i.1) ⟨0,by simp [hlL]⟩ ?_ ?_
 ·simp [go_sem]
 ·rintro⟨i,hi,hnot⟩
  refine qa vz.toS xbD _ _ _ rfl ?_
  simp -implicitDefEqProofs only [cdA,go_sem,reduceIte,reduceCtorEq,Nat.reduceEqDiff,Nat.reduceAdd,Nat.reduceLeDiff,Nat.reduceSub,Nat.reduceMul,Nat.reduceLT,Nat.reduceShiftRight,Nat.reduceMod,Int.reduceLE,Int.reduceLT,Int.reduceToNat,List.cons.injEq,cdB]
  refine⟨fun h1=>⟨by omega,fun hhl=> ?_⟩,fun h1=> ?_⟩
  ·have hi':i<cs.length:=by omega
   have hsu:hlL (cs.take (i+1))=hlL (cs.take i)++hlC (cs.getD i default):=by
    rw [take_succ hi',wbh];simp [hlL]
   generalize hc:cs.getD i default=c at*
   refine SWp.loop (ι:={k:Nat // k≤c.holds.length∧∀j,j<k→¬(c.id=id∧c.holds.getD j default=h)}) (fun k=>⟨[(1, .c (.int .u64 id)),(5, .ref 0 0),(8, .ref 1 0),(11, .sl (chs cs)),(12, .int .i64 cs.length),(13, .int .i64 i),(18, .c (.sl (hds c.holds))),(19, .int .i64 c.holds.length),(20, .int .i64 k.1)],
    [(1, .box [.c (.int .u64 c.id), .c (.int .u64 c.loc), .c (.int .u64 c.rem), .c (.int .u64 c.res), .c (.int .u64 c.most), .c (.sl (hds c.holds)), .c (.bool c.op)]),(0, .box [.c (.int .u64 h.id), .c (.int .u64 h.n)])],2⟩) (fun k=>c.holds.length - k.1) ⟨0,by simp⟩ ?_ ?_
   ·simp [go_sem]
   ·rintro⟨k,hk,hin⟩
    refine qa vz.toS xbD _ _ _ rfl ?_
    simp -implicitDefEqProofs only [cdA,go_sem,reduceIte,reduceCtorEq,Nat.reduceEqDiff,Nat.reduceAdd,Nat.reduceLeDiff,Nat.reduceSub,Nat.reduceMul,Nat.reduceLT,Nat.reduceShiftRight,Nat.reduceMod,Int.reduceLE,Int.reduceLT,Int.reduceToNat,List.cons.injEq,cdB]
    have hin1:∀a b n,(a,b,n)∈hlC c↔c.id=a∧∃x∈c.holds,x.id=b∧x.n=n:=fun a b n=>by
     unfold hlC
     rw [List.mem_map]
     constructor
     ·rintro⟨x,hx,he⟩
      simp only [Prod.mk.injEq]at he
      exact⟨he.1,x,hx,he.2⟩
     ·rintro⟨he,x,hx,h1,h2⟩
      exact⟨x,hx,by rw [he,h1,h2]⟩
    have hgo:(¬(c.id=id∧c.holds.getD k default=h))→k<c.holds.length→∃j:{k:Nat // k≤c.holds.length∧∀j,j<k→¬(c.id=id∧c.holds.getD j default=h)},c.holds.length - j.1<c.holds.length - k∧IntKind.i64.wrap ((k:Int)+1)=j.1:=fun hn hk'=>by
     refine⟨⟨k+1,hk',fun j hj=> ?_⟩,by dsimp only;omega,i64_in _ (by omega)⟩
     by_cases hji:j=k
     ·subst hji;exact hn
     ·exact hin j (by omega)
    refine⟨fun h2=>⟨by omega,fun h3=>⟨fun h4=>(decide_eq_true ?_).symm,fun h4=>hgo (fun h=>h4 h.2) (by omega)⟩,fun h3=>hgo (fun h=>h3 (by omega)) (by omega)⟩,fun h2=>⟨⟨i+1,hi', ?_⟩,by dsimp only;omega,i64_in _ (by omega)⟩⟩
    ·refine List.mem_flatMap.2 ⟨c,by rw [←hc];exact ua.2 ⟨i,hi',rfl⟩,(hin1 _ _ _).2 ⟨by omega,h, ?_,rfl,rfl⟩⟩
     rw [←h4];exact ua.2 ⟨k,by omega,rfl⟩
    ·rw [hsu,List.mem_append,not_or]
     refine⟨hnot,fun hm=> ?_⟩
     obtain⟨g1,x,hx,g2,g3⟩:=(hin1 _ _ _).1 hm
     obtain⟨j,hj,rfl⟩:=ua.1 hx
     refine hin j (by omega) ⟨g1, ?_⟩
     cases hh:c.holds.getD j default with
     |mk a b=>rw [hh]at g2 g3;cases h;simp_all
  ·have hi':i=cs.length:=by omega
   subst hi'
   rw [List.take_length]at hnot
   exact(decide_eq_false hnot).symm
def jA:List D→Option (Prop×D×Fr)
 |[.c (.sl z1), .c (.int .u64 z2), .agg [.c (.int .u64 z4), .c (.int .u64 z5)]]=>some (z1=chs (ug z1)∧z2=(z2.toNat:Int)∧z4=(z4.toNat:Int)∧z5=(z5.toNat:Int),xai (ug z1) z2.toNat (⟨z4.toNat,z5.toNat⟩:Hd),[])
 |_=>none
attribute [go_sem] jA
theorem qae:∀rs p r fr,jA rs=some (p,r,fr)→p→uc Tryz.prog 231 rs r fr:=by
 intro rs p r fr h hp
 unfold jA at h
 split at h<;>cases h
 obtain⟨hc0,hc1,hc2,hc3⟩:=hp
 rename_i z1 z2 z4 z5
 obtain⟨z1,rfl⟩:∃m,z1=chs m:=⟨_,hc0⟩
 obtain⟨z2,rfl⟩:∃m:Nat,z2=m:=⟨_,hc1⟩
 obtain⟨z4,rfl⟩:∃m:Nat,z4=m:=⟨_,hc2⟩
 obtain⟨z5,rfl⟩:∃m:Nat,z5=m:=⟨_,hc3⟩
 simp only [Int.toNat_natCast,yb]
 exact vaN z1 z2 ⟨z4,z5⟩
@[go_sem] def zai (l:List Py) (cs:List Ch):D:= .tup [.bool (jX l cs).1, .int .i64 (jX l cs).2]
@[go_sem] abbrev bco:FuncId:=171
@[go_sem] def ga6:Tab:=[(169,bq),(231,jA)]
theorem yp:za Tryz.prog ga6:=(za.cons jJ (za.cons qae za.nil))
set_option maxRecDepth 8000 in
set_option maxHeartbeats 1000000 in
theorem jaN (l:List Py) (cs:List Ch) (hs:∀c∈cs,c.holds.length≤1000000):va Tryz.prog 171 [.sl (pys l), .sl (chs cs)] (zai l cs):=by
 refine .of (gdy yp (Nat.le_of_ble_eq_true rfl) ?_)
 simp -implicitDefEqProofs only [cdA,go_sem,Go.Proofs.Tryz.f171,reduceIte,reduceCtorEq,Nat.reduceEqDiff,Nat.reduceAdd,Nat.reduceLeDiff,Nat.reduceSub,Nat.reduceMul,Nat.reduceLT,Nat.reduceShiftRight,Nat.reduceMod,Int.reduceLE,Int.reduceLT,Int.reduceToNat,List.cons.injEq,cdB]
 have hbad:¬(gax l∧cs.length≤32∧(cs.map Ch.id).Nodup)→false=(jX l cs).1∧1=(jX l cs).2:=fun h=>by rw [jX,if_neg h];exact⟨rfl,rfl⟩
 have hcz:kaT l=0↔gax l:=by unfold kaT;split<;>rename_i h<;>simp only [h]<;>decide
 refine⟨fun h0 hl=>⟨fun h=>hbad fun ho=> ?_,fun hle _=> ?_⟩,fun h0=>hbad fun h=>h0 (hcz.2 h.1)⟩
 ·have:=ho.2.1;omega
 have hok:=hcz.1 h0
 refine SWp.loop (ι:={i:Nat // i≤cs.length∧((cs.take i).map Ch.id).Nodup}) (fun i=>⟨[(0, .sl (pys l)),(1, .sl (chs cs)),(6, .int .i64 (hlL (cs.take i.1)).length),(22, .sl (chs cs)),(23, .int .i64 cs.length),(24, .int .i64 i.1)],[],0⟩) (fun i=>cs.length - i.1) ⟨0,by simp⟩ ?_ ?_
 ·simp [go_sem,hlL]
 ·rintro⟨i,hi,hnd⟩
  refine qa yp.toS jbk _ _ _ rfl ?_
  simp -implicitDefEqProofs only [cdA,go_sem,reduceIte,reduceCtorEq,Nat.reduceEqDiff,Nat.reduceAdd,Nat.reduceLeDiff,Nat.reduceSub,Nat.reduceMul,Nat.reduceLT,Nat.reduceShiftRight,Nat.reduceMod,Int.reduceLE,Int.reduceLT,Int.reduceToNat,List.cons.injEq,cdB]
  refine⟨fun h1=>⟨by omega,by omega,fun _=> ?_⟩,fun h1 _=> ?_⟩
  ·have hi':i<cs.length:=by omega
   have hlen:(cs.take i).length=i:=by rw [List.length_take];omega
   have hidl:(cs.take (i+1)).map Ch.id=(cs.take i).map Ch.id++[(cs.getD i default).id]:=by rw [take_succ hi',List.map_append];rfl
   have hsu:(hlL (cs.take (i+1))).length=(hlL (cs.take i)).length+(cs.getD i default).holds.length:=by
    rw [take_succ hi',wbh,List.length_append];simp [hlL,hlC]
   have hb1:=hs _ (ua.2 ⟨i,hi',rfl⟩)
   have hb2:=uaU (cs:=cs.take i) (n:=32) (fun c hc=>hs c (List.mem_of_mem_take hc)) (by omega)
   generalize hc:cs.getD i default=c at*
   refine SWp.loop (ι:={k:Nat // k≤(cs.take i).length∧∀j,j<k→((cs.take i).getD j default).id≠c.id}) (fun k=>⟨[(0, .sl (pys l)),(1, .sl (chs cs)),(6, .int .i64 (hlL (cs.take i)).length),(8, .ref 0 0),(22, .sl (chs cs)),(23, .int .i64 cs.length),(24, .int .i64 i),(31, .c (.sl (chs (cs.take i)))),(32, .int .i64 (cs.take i).length),(33, .int .i64 k.1)],
    [(0, .box [.c (.int .u64 c.id), .c (.int .u64 c.loc), .c (.int .u64 c.rem), .c (.int .u64 c.res), .c (.int .u64 c.most), .c (.sl (hds c.holds)), .c (.bool c.op)])],1⟩) (fun k=>(cs.take i).length - k.1) ⟨0,by simp⟩ ?_ ?_
   ·simp [go_sem]
   ·rintro⟨k,hk,hin⟩
    refine qa yp.toS jbk _ _ _ rfl ?_
    simp -implicitDefEqProofs only [cdA,go_sem,reduceIte,reduceCtorEq,Nat.reduceEqDiff,Nat.reduceAdd,Nat.reduceLeDiff,Nat.reduceSub,Nat.reduceMul,Nat.reduceLT,Nat.reduceShiftRight,Nat.reduceMod,Int.reduceLE,Int.reduceLT,Int.reduceToNat,List.cons.injEq,cdB]
    refine⟨fun h2=>⟨by omega,fun h3=>hbad fun ho=> ?_,fun h3=>⟨⟨k+1,by omega,fun j hj=> ?_⟩,by dsimp only;omega,i64_in _ (by omega)⟩⟩,fun h2 _=>⟨⟨i+1,hi', ?_⟩,by dsimp only;omega,by rw [i64_in _ (by omega),hsu];omega,i64_in _ (by omega)⟩⟩
    ·have h4:(cs.map Ch.id).Nodup:=ho.2.2
     rw [←List.take_append_drop (i+1) cs,List.map_append]at h4
     have h5:=(List.nodup_append.1 h4).1
     rw [hidl,List.nodup_append]at h5
     exact h5.2.2 _ (List.mem_map.2 ⟨_,ua.2 ⟨k,by omega,rfl⟩,rfl⟩) _ (.head _) (by omega)
    ·by_cases hji:j=k
     ·subst hji;omega
     ·exact hin j (by omega)
    ·rw [hidl,List.nodup_append]
     refine⟨hnd,List.nodup_cons.2 ⟨by simp,List.nodup_nil⟩,fun a ha b hb=> ?_⟩
     rw [List.mem_singleton]at hb
     obtain⟨x,hx,rfl⟩:=List.mem_map.1 ha
     obtain⟨j,hj,rfl⟩:=ua.1 hx
     rw [hb];exact hin j (by omega)
  ·have hi':i=cs.length:=by omega
   subst hi'
   rw [List.take_length]at hnd⊢
   have hb2:=uaU (cs:=cs) (n:=32) hs (by omega)
   have hA:jX l cs=(decide ((∀p∈yK l,(p.chan,p.id,p.n)∈hlL cs)∧(hlL cs).length=(yK l).length),0):=by rw [jX,if_pos ⟨hok,by omega,hnd⟩]
   have hl256:=hok.1
   refine SWp.loop (ι:={i:Nat // i≤l.length∧∀q∈yK (l.take i),(q.chan,q.id,q.n)∈hlL cs}) (fun i=>⟨[(1, .sl (chs cs)),(6, .int .i64 (hlL cs).length),(11, .int .i64 (yK (l.take i.1)).length),(49, .sl (pys l)),(50, .int .i64 l.length),(51, .int .i64 i.1)],[],0⟩) (fun i=>l.length - i.1) ⟨0,by simp,by simp [yK]⟩ ?_ ?_
   ·simp [go_sem,yK]
   ·rintro⟨i,hi,hall⟩
    refine qa yp.toS jbk _ _ _ rfl ?_
    simp -implicitDefEqProofs only [cdA,go_sem,reduceIte,reduceCtorEq,Nat.reduceEqDiff,Nat.reduceAdd,Nat.reduceLeDiff,Nat.reduceSub,Nat.reduceMul,Nat.reduceLT,Nat.reduceShiftRight,Nat.reduceMod,Int.reduceLE,Int.reduceLT,Int.reduceToNat,List.cons.injEq,cdB]
    rw [hA]
    have hple:(yK (l.take i)).length≤i:=Nat.le_trans List.filter_sublist.length_le (by rw [List.length_take];exact Nat.min_le_left _ _)
    refine⟨fun h2=> ?_,fun h2=> ?_⟩
    ·have hi':i<l.length:=by omega
     have hsp:yK (l.take (i+1))=yK (l.take i)++(if(l.getD i default).state=1 then [l.getD i default]else []):=by
      rw [take_succ hi',gbE]
      congr 1
      unfold yK
      split
      ·rename_i h;rw [List.filter_cons_of_pos (by simpa using h),List.filter_nil]
      ·rename_i h;rw [List.filter_cons_of_neg (by simpa using h),List.filter_nil]
     refine⟨by omega,fun h3=>⟨fun h4=>⟨⟨i+1,hi',fun q hq=> ?_⟩,by dsimp only;omega,by rw [i64_in _ (by omega),hsp,if_pos h3,List.length_append,List.length_singleton];omega,i64_in _ (by omega)⟩,fun h4=>⟨(decide_eq_false fun h=>h4 (h.1 _ (jbD.2 ⟨ua.2 ⟨i,hi',rfl⟩,h3⟩))).symm,rfl⟩⟩,fun h3=>⟨⟨i+1,hi',fun q hq=> ?_⟩,by dsimp only;omega,by rw [hsp,if_neg h3,List.append_nil],i64_in _ (by omega)⟩⟩
     ·rw [hsp,if_pos h3,List.mem_append,List.mem_singleton]at hq
      rcases hq with hq|rfl
      ·exact hall q hq
      ·exact h4
     ·rw [hsp,if_neg h3,List.append_nil]at hq;exact hall q hq
    ·have hi':i=l.length:=by omega
     subst hi'
     rw [List.take_length]at hall⊢
     refine⟨decide_eq_decide.2 ⟨fun h=>⟨hall,by omega⟩,fun h=>by rw [h.2]⟩,rfl⟩
@[go_sem] def bah (l:List Py) (cs:List Ch):Prop:=(∀c∈cs,c.holds.length≤1000000)
def qA:List D→Option (Prop×D×Fr)
 |[.c (.sl z6), .c (.sl z7)]=>some (z6=pys (ji z6)∧z7=chs (ug z7)∧bah (ji z6) (ug z7),zai (ji z6) (ug z7),[])
 |_=>none
attribute [go_sem] qA
theorem xae:∀rs p r fr,qA rs=some (p,r,fr)→p→uc Tryz.prog 171 rs r fr:=by
 intro rs p r fr h hp
 unfold qA at h
 split at h<;>cases h
 obtain⟨hc0,hc1,hp⟩:=hp
 rename_i z6 z7
 obtain⟨z6,rfl⟩:∃m,z6=pys m:=⟨_,hc0⟩
 obtain⟨z7,rfl⟩:∃m,z7=chs m:=⟨_,hc1⟩
 simp only [yb,jb]
 simp only [yb,jb,bah]at hp
 exact jaN z6 z7 hp
end Dm
namespace Dm
open Go Go.Proofs Go.IntWalk
@[go_sem] def bai (w:Wl):D:= .int .i64 (wU w)
@[go_sem] abbrev kcp:FuncId:=86
@[go_sem] def ga7:Tab:=[(167,zA),(168,xA),(169,bq),(170,uA),(171,qA)]
theorem qM:za Tryz.prog ga7:=(za.cons gad (za.cons yae (za.cons jJ (za.cons vae (za.cons xae za.nil)))))
set_option maxRecDepth 8000 in
set_option maxHeartbeats 1000000 in
theorem yaO (w:Wl) (h:w.f.next≤18446744073709551615):va Tryz.prog 86 [.agg [.sl (chs w.c), .sl (wts w.w), .sl (ivs w.i), .sl (pys w.p), .c (.int .u64 (w.f.next:Int)), .sl (evs w.f.l), .c (.int .u64 (w.next:Int)), .c (.int .u64 (w.tick:Int))]] (bai w):=by
 refine .of (vev qM (Nat.le_of_ble_eq_true rfl) ?_)
 simp -implicitDefEqProofs only [cdA,go_sem,Go.Proofs.Tryz.f86,reduceIte,reduceCtorEq,Nat.reduceEqDiff,Nat.reduceAdd,Nat.reduceLeDiff,Nat.reduceSub,Nat.reduceMul,Nat.reduceLT,Nat.reduceShiftRight,Nat.reduceMod,Int.reduceLE,Int.reduceLT,Int.reduceToNat,List.cons.injEq,cdB]
 have hbad:¬okW w→1=wU w:=fun h=>by rw [wU,if_neg h]
 have hl0:qbw w.c=0↔vbw w.c:=by unfold qbw;split<;>rename_i h<;>simp only [h]<;>decide
 have hi0:bac w.i=0↔waM w.i:=by unfold bac;split<;>rename_i h<;>simp only [h]<;>decide
 have hp0:kaT w.p=0↔gax w.p:=by unfold kaT;split<;>rename_i h<;>simp only [h]<;>decide
 refine⟨fun h1=>⟨fun h2=>⟨fun h3=>⟨h,fun h4 _=>⟨fun h5=>⟨fun h6=>⟨fun h7=>hbad fun ho=> ?_,fun h7 _=> ?_⟩,fun h6=>hbad fun ho=> ?_⟩,fun h5=>hbad fun ho=> ?_⟩,fun h4=>hbad fun ho=>h4 (jaT.2 ho.2.2.1)⟩,fun h3=>hbad fun ho=>h3 (hp0.2 (bas.1 ho.2.2.2.2.2.2.2).1)⟩,fun h2=>hbad fun ho=>h2 (hi0.2 ho.2.1)⟩,fun h1=>hbad fun ho=>h1 (hl0.2 ho.1)⟩
 ·have:=ho.2.2.2.2.2.1;unfold MM at this;omega
 rotate_left 1
 ·have:=ho.2.2.2.2.1;omega
 ·have:=ho.2.2.2.1;omega
 have hpok:=hp0.1 h3
 have hp256:=hpok.1
 have hL:=hl0.1 h1
 refine SWp.loop (ι:={i:Nat // i≤w.p.length∧∀j,j<i→(w.p.getD j default).id<w.next}) (fun i=>⟨[(1, .ref 0 0),(46, .sl (pys w.p)),(47, .int .i64 w.p.length),(48, .int .i64 i.1)],
  [(0, .box [.sl (chs w.c), .sl (wts w.w), .sl (ivs w.i), .sl (pys w.p), .c (.int .u64 w.f.next), .sl (evs w.f.l), .c (.int .u64 w.next), .c (.int .u64 w.tick)])],1⟩) (fun i=>w.p.length - i.1) ⟨0,by simp⟩ ?_ ?_
 ·simp [go_sem]
 ·rintro⟨i,hi,hall⟩
  refine qa qM.toS zdR _ _ _ rfl ?_
  simp -implicitDefEqProofs only [cdA,go_sem,reduceIte,reduceCtorEq,Nat.reduceEqDiff,Nat.reduceAdd,Nat.reduceLeDiff,Nat.reduceSub,Nat.reduceMul,Nat.reduceLT,Nat.reduceShiftRight,Nat.reduceMod,Int.reduceLE,Int.reduceLT,Int.reduceToNat,List.cons.injEq,cdB]
  refine⟨fun h8=>⟨by omega,fun h9=>hbad fun ho=> ?_,fun h9=>⟨⟨i+1,by omega,fun j hj=> ?_⟩,by dsimp only;omega,i64_in _ (by omega)⟩⟩,fun h8=>⟨fun c hc=>by have:=(hL.2.1 c hc).2.2.1;omega,fun h9=> ?_,fun h9=>hbad fun ho=> ?_⟩⟩
  ·have:=jb5 ho _ (ua.2 ⟨i,by omega,rfl⟩);omega
  ·by_cases hji:j=i
   ·subst hji;omega
   ·exact hall j (by omega)
  ·have ha:jX w.p w.c=(true,0):=by
    refine Prod.ext h9 ?_
    unfold jX at h9⊢
    split at h9
    ·rename_i h;rw [if_pos h]
    ·cases h9
   rw [wU,if_pos]
   exact⟨hL,hi0.1 h2,jaT.1 h4,by omega,by omega,by unfold MM;omega,fun _=>hall _ (by omega),ha⟩
  ·rw [ho.2.2.2.2.2.2.2]at h9;cases h9
@[go_sem] def gai (w:Wl):Prop:=(w.f.next≤18446744073709551615)
def gA:List D→Option (Prop×D×Fr)
 |[.agg [.c (.sl z2), .c (.sl z3), .c (.sl z4), .c (.sl z5), .c (.int .u64 z7), .c (.sl z8), .c (.int .u64 z9), .c (.int .u64 z10)]]=>some (z2=chs (ug z2)∧z3=wts (vl z3)∧z4=ivs (qi z4)∧z5=pys (ji z5)∧z7=(z7.toNat:Int)∧z8=evs (xh z8)∧z9=(z9.toNat:Int)∧z10=(z10.toNat:Int)∧gai (⟨(ug z2),(vl z3),(qi z4),(ji z5),(⟨z7.toNat,(xh z8)⟩:Fd),z9.toNat,z10.toNat⟩:Wl),bai (⟨(ug z2),(vl z3),(qi z4),(ji z5),(⟨z7.toNat,(xh z8)⟩:Fd),z9.toNat,z10.toNat⟩:Wl),[])
 |_=>none
attribute [go_sem] gA
theorem wae:∀rs p r fr,gA rs=some (p,r,fr)→p→uc Tryz.prog 86 rs r fr:=by
 intro rs p r fr h hp
 unfold gA at h
 split at h<;>cases h
 obtain⟨hc0,hc1,hc2,hc3,hc4,hc5,hc6,hc7,hp⟩:=hp
 rename_i z2 z3 z4 z5 z7 z8 z9 z10
 obtain⟨z2,rfl⟩:∃m,z2=chs m:=⟨_,hc0⟩
 obtain⟨z3,rfl⟩:∃m,z3=wts m:=⟨_,hc1⟩
 obtain⟨z4,rfl⟩:∃m,z4=ivs m:=⟨_,hc2⟩
 obtain⟨z5,rfl⟩:∃m,z5=pys m:=⟨_,hc3⟩
 obtain⟨z7,rfl⟩:∃m:Nat,z7=m:=⟨_,hc4⟩
 obtain⟨z8,rfl⟩:∃m,z8=evs m:=⟨_,hc5⟩
 obtain⟨z9,rfl⟩:∃m:Nat,z9=m:=⟨_,hc6⟩
 obtain⟨z10,rfl⟩:∃m:Nat,z10=m:=⟨_,hc7⟩
 simp only [Int.toNat_natCast,yb,qb,vb,jb,qc]
 simp only [Int.toNat_natCast,yb,qb,vb,jb,qc,gai]at hp
 exact yaO ⟨z2,z3,z4,z5,⟨z7,z8⟩,z9,z10⟩ hp
end Dm
