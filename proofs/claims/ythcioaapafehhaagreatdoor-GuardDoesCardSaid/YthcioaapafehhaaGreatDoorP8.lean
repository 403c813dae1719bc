import Derived.Test.YthcioaapafehhaaGreatDoorP7

set_option linter.unusedSimpArgs false
set_option linter.unusedVariables false
set_option linter.unusedSectionVars false
set_option linter.defProp false
set_option maxRecDepth 20000
set_option maxHeartbeats 4000000
namespace Dm
open Go Go.Proofs Go.IntWalk
@[go_sem] def baL (l:List Ky):D:= .vec 0 l.length
@[go_sem] def zau (l:List Ky):Fr:=[(4,158,true,kys l)]
@[go_sem] abbrev gdm:FuncId:=135
@[go_sem] def bbI:Tab:=[]
theorem gaL:za Tryz.prog bbI:=za.nil
theorem vbp (l:List Ky) (hl:l.length≤1000000):zf Tryz.prog 135 [.sl (kys l)] (baL l) (zau l):=by
 refine .of (wec gaL (Nat.le_of_ble_eq_true rfl) ?_)
 simp -implicitDefEqProofs only [cdA,go_sem,Go.Proofs.Tryz.f135,simprocAttr, -Int.reduceEq,List.cons.injEq,cdB]
 refine fun b hb=>⟨fun h=> ?_,fun h=> ?_⟩
 ·exact⟨[none],by simp [go_sem,hb h],by cases l<;>simp_all [go_sem,kys]⟩
 ·exact⟨by omega,[some 0],by simp [go_sem]⟩
@[go_sem] def zbJ (l:List Ky):Prop:=(l.length≤1000000)
def bM:List D→Option (Prop×D×Fr)
 |[.c (.sl z1)]=>some (z1=kys (je z1)∧zbJ (je z1),baL (je z1),zau (je z1))
 |_=>none
attribute [go_sem] bM
theorem uaE:ga 135 bM:=by
 intro rs p r fr h hp
 unfold bM at h
 split at h<;>cases h
 obtain⟨hc0,hp⟩:=hp
 rename_i z1
 have:=vbp (je z1) hp
 rw [←hc0]at this
 exact And.intro rfl this
def kay (b:Bk):Prop:=xU b.w∧(b.a.l.length≤2000000∧∀t∈b.a.l,t.text.length≤1000000)∧b.r.length≤1000000∧(b.k.length≤1000000∧∀k∈b.k,k.print.length≤1000000∧k.reply.length≤1000000)∧b.s.length≤1000000
@[go_sem] def wbF (b:Bk):D:= .agg [.vec 0 b.w.c.length, .sl (wts b.w.w), .sl (ivs b.w.i), .sl (pys b.w.p), .int .u64 b.w.f.next, .sl (evs b.w.f.l), .int .u64 b.w.next, .int .u64 b.w.tick, .vec 1 b.a.l.length, .vec 2 b.r.length, .sl (kys b.k), .sl (cts b.s)]
@[go_sem] def ybe (b:Bk):Fr:=[(7,86,true,chs b.w.c),(3,83,true,tms b.a.l),(3,70,true,rks b.r)]
@[go_sem] abbrev weK:FuncId:=64
@[go_sem] def kcy:Tab:=[(127,jJ),(132,kJ),(128,qB),(129,uz),(130,gz),(131,uu),(137,xB),(133,yB),(134,vn),(135,bM),(136,qO)]
theorem vi:za Tryz.prog kcy:=(za.cons gaa (za.cons baa (za.cons yZ (za.cons jV (za.cons bV (za.cons bP (za.cons gY (za.cons wY (za.cons br (za.cons uaE (za.cons qaG za.nil)))))))))))
theorem xbe (b:Bk) (h:kay b):zf Tryz.prog 64 [.agg [.sl (chs b.w.c), .sl (wts b.w.w), .sl (ivs b.w.i), .sl (pys b.w.p), .c (.int .u64 (b.w.f.next:Int)), .sl (evs b.w.f.l), .c (.int .u64 (b.w.next:Int)), .c (.int .u64 (b.w.tick:Int)), .sl (tms b.a.l), .sl (rks b.r), .sl (kys b.k), .sl (cts b.s)]] (wbF b) (ybe b):=by
 refine .of (ufn vi (Nat.le_of_ble_eq_true rfl) ?_)
 simp -implicitDefEqProofs only [cdA,go_sem,Go.Proofs.Tryz.f64,simprocAttr, -Int.reduceEq,List.cons.injEq,cdB]
 refine xb.run vdx vi qa (by kernel_rfl) (by kernel_rfl) ?_
 simp -implicitDefEqProofs only [cdA,go_sem,simprocAttr, -Int.reduceEq,List.cons.injEq,cdB]
 obtain⟨⟨h1,h2,h3,h4,h5,h6⟩,⟨ha,ha2⟩,hr,⟨hk,hk2⟩,hs⟩:=h
 refine⟨h1,h3,h4,h5,h6,fun _=>SWp.loop (ι:={i:Nat // i≤b.w.c.length}) (fun i=>⟨[(1, .ref 0 0),(2, .ref 1 0),(3, .ref 2 0),(35, .vec 3 b.w.c.length),(36, .int .i64 b.w.c.length),(37, .int .i64 i.1)],
  [(3, .vec true 7 86 (chs b.w.c)),(2, .box [.vec 3 b.w.c.length, .sl (wts b.w.w), .sl (ivs b.w.i), .sl (pys b.w.p), .c (.int .u64 b.w.f.next), .sl (evs b.w.f.l), .c (.int .u64 b.w.next), .c (.int .u64 b.w.tick)]),
    (1, .box [.nil, .nil, .nil, .nil, .c (.int .u64 0), .nil, .c (.int .u64 0), .c (.int .u64 0), .nil, .nil, .nil, .nil]),(0, .box [.sl (chs b.w.c), .sl (wts b.w.w), .sl (ivs b.w.i), .sl (pys b.w.p), .c (.int .u64 b.w.f.next), .sl (evs b.w.f.l), .c (.int .u64 b.w.next), .c (.int .u64 b.w.tick), .sl (tms b.a.l), .sl (rks b.r), .sl (kys b.k), .sl (cts b.s)])],4⟩) (fun i=>b.w.c.length - i.1) ⟨0,by omega⟩ ?_ ?_⟩
 ·simp [go_sem]
 ·rintro⟨i,hi⟩
  refine ya vi.toS vdO _ _ _ rfl ?_
  simp -implicitDefEqProofs only [cdA,go_sem,simprocAttr, -Int.reduceEq,List.cons.injEq,cdB]
  refine⟨fun h7=>⟨by omega,by omega, ?_⟩,fun _=> ?_⟩
  ·have hi':i<b.w.c.length:=by omega
   have hself:b.w.c.set i (b.w.c.getD i default)=b.w.c:=by
    rw [xe hi'];exact List.set_getElem_self hi'
   have hhl:=h2 _ (va.2 ⟨i,hi',rfl⟩)
   refine xb.run wdx vi qa (by kernel_rfl) (by kernel_rfl) ?_
   simp -implicitDefEqProofs only [cdA,go_sem,simprocAttr, -Int.reduceEq,List.cons.injEq,cdB]
   exact⟨hhl,by omega,hi',⟨i+1,hi'⟩,by dsimp only;omega,i64_in _ (by omega),by rw [hself]⟩
  refine xb.run udx vi qa (by kernel_rfl) (by kernel_rfl) ?_
  simp -implicitDefEqProofs only [cdA,go_sem,simprocAttr, -Int.reduceEq,List.cons.injEq,cdB]
  refine⟨by omega,hr,hk,hs,fun _=>SWp.loop (ι:={i:Nat // i≤b.a.l.length}) (fun i=>⟨[(1, .ref 0 0),(2, .ref 1 0),(73, .vec 4 b.a.l.length),(74, .int .i64 b.a.l.length),(75, .int .i64 i.1)],[(6, .vec true 4 158 (kys b.k)),(5, .vec true 3 70 (rks b.r)),(4, .vec true 3 83 (tms b.a.l)),(3, .vec true 7 86 (chs b.w.c)),(7, .vec true 3 160 (cts b.s)),(0, .box [.vec 3 b.w.c.length, .sl (wts b.w.w), .sl (ivs b.w.i), .sl (pys b.w.p), .c (.int .u64 b.w.f.next), .sl (evs b.w.f.l), .c (.int .u64 b.w.next), .c (.int .u64 b.w.tick), .vec 4 b.a.l.length, .vec 5 b.r.length, .vec 6 b.k.length, .vec 7 b.s.length]),(1, .box [.nil, .nil, .nil, .nil, .c (.int .u64 0), .nil, .c (.int .u64 0), .c (.int .u64 0), .nil, .nil, .nil, .nil])],8⟩) (fun i=>b.a.l.length - i.1) ⟨0,by omega⟩ ?_ ?_⟩
  ·simp [go_sem]
  ·rintro⟨j,hj⟩
   refine ya vi.toS vdO _ _ _ rfl ?_
   simp -implicitDefEqProofs only [cdA,go_sem,simprocAttr, -Int.reduceEq,List.cons.injEq,cdB]
   refine⟨fun h7=>⟨by omega,by omega, ?_⟩,fun _=> ?_⟩
   ·have hj':j<b.a.l.length:=by omega
    have hself:b.a.l.set j (b.a.l.getD j default)=b.a.l:=by
     rw [xe hj'];exact List.set_getElem_self hj'
    have hhl:=ha2 _ (va.2 ⟨j,hj',rfl⟩)
    refine xb.run ycP vi qa (by kernel_rfl) (by kernel_rfl) ?_
    simp -implicitDefEqProofs only [cdA,go_sem,simprocAttr, -Int.reduceEq,List.cons.injEq,cdB]
    exact⟨hhl,by omega,hj',⟨j+1,hj'⟩,by dsimp only;omega,i64_in _ (by omega),by rw [hself]⟩
   refine fun _=>SWp.loop (ι:={i:Nat // i≤b.k.length}) (fun i=>⟨[(1, .ref 0 0),(2, .ref 1 0),(91, .vec 6 b.k.length),(92, .int .i64 b.k.length),(93, .int .i64 i.1)],[(6, .vec true 4 158 (kys b.k)),(5, .vec true 3 70 (rks b.r)),(4, .vec true 3 83 (tms b.a.l)),(3, .vec true 7 86 (chs b.w.c)),(7, .vec true 3 160 (cts b.s)),(0, .box [.vec 3 b.w.c.length, .sl (wts b.w.w), .sl (ivs b.w.i), .sl (pys b.w.p), .c (.int .u64 b.w.f.next), .sl (evs b.w.f.l), .c (.int .u64 b.w.next), .c (.int .u64 b.w.tick), .vec 4 b.a.l.length, .vec 5 b.r.length, .vec 6 b.k.length, .vec 7 b.s.length]),(1, .box [.nil, .nil, .nil, .nil, .c (.int .u64 0), .nil, .c (.int .u64 0), .c (.int .u64 0), .nil, .nil, .nil, .nil])],8⟩) (fun i=>b.k.length - i.1) ⟨0,by omega⟩ ?_ ?_
   ·simp [go_sem]
   ·rintro⟨m,hm⟩
    refine ya vi.toS vdO _ _ _ rfl ?_
    simp -implicitDefEqProofs only [cdA,go_sem,simprocAttr, -Int.reduceEq,List.cons.injEq,cdB]
    refine⟨fun h7=>⟨by omega,by omega, ?_⟩,fun _=> ?_⟩
    ·have hm':m<b.k.length:=by omega
     have hself:b.k.set m (b.k.getD m default)=b.k:=by
      rw [xe hm'];exact List.set_getElem_self hm'
     have hhl:=hk2 _ (va.2 ⟨m,hm',rfl⟩)
     refine xb.veQ xcP [0,1,0,0,8,0,0,64,192,0,512,1984,4039,8135,1267650600228229401496703221703,32767,65535,131071] vi qa (by kernel_rfl) (by kernel_rfl) (by kernel_rfl) ?_
     simp -implicitDefEqProofs only [cdA,go_sem,simprocAttr, -Int.reduceEq,List.cons.injEq,cdB]
     refine⟨hhl.1,hhl.2,by omega,hm',by rw [hself],by omega,hm',⟨m+1,hm'⟩,by dsimp only;omega,i64_in _ (by omega), ?_⟩
     rw [hself]
     exact congrArg (fun l=>Ob.vec true 4 158 (kys l)) hself
    exact⟨[some 3,some 4,some 5],by simp [go_sem],rfl,rfl,rfl,⟨rfl,_,_,_,rfl⟩,rfl,_,_,_,rfl⟩
@[go_sem] def vcy (b:Bk):Prop:=(kay b)
def uU:List D→Option (Prop×D×Fr)
 |[.agg [.c (.sl z4), .c (.sl z5), .c (.sl z6), .c (.sl z7), .c (.int .u64 z9), .c (.sl z10), .c (.int .u64 z11), .c (.int .u64 z12), .c (.sl z14), .c (.sl z15), .c (.sl z16), .c (.sl z17)]]=>some (z4=chs (yb z4)∧z5=wts (jd z5)∧z6=ivs (qc z6)∧z7=pys (vb z7)∧z9=(z9.toNat:Int)∧z10=evs (jb z10)∧z11=(z11.toNat:Int)∧z12=(z12.toNat:Int)∧z14=tms (qb z14)∧z15=rks (gb z15)∧z16=kys (je z16)∧z17=cts (qd z17)∧vcy (⟨(⟨(yb z4),(jd z5),(qc z6),(vb z7),(⟨z9.toNat,(jb z10)⟩:Fd),z11.toNat,z12.toNat⟩:Wl),(⟨(qb z14)⟩:Ar),(gb z15),(je z16),(qd z17)⟩:Bk),wbF (⟨(⟨(yb z4),(jd z5),(qc z6),(vb z7),(⟨z9.toNat,(jb z10)⟩:Fd),z11.toNat,z12.toNat⟩:Wl),(⟨(qb z14)⟩:Ar),(gb z15),(je z16),(qd z17)⟩:Bk),ybe (⟨(⟨(yb z4),(jd z5),(qc z6),(vb z7),(⟨z9.toNat,(jb z10)⟩:Fd),z11.toNat,z12.toNat⟩:Wl),(⟨(qb z14)⟩:Ar),(gb z15),(je z16),(qd z17)⟩:Bk))
 |_=>none
attribute [go_sem] uU
theorem zan:ga 64 uU:=by
 intro rs p r fr h hp
 unfold uU at h
 split at h<;>cases h
 obtain⟨hc0,hc1,hc2,hc3,hc4,hc5,hc6,hc7,hc8,hc9,hc10,hc11,hp⟩:=hp
 rename_i z4 z5 z6 z7 z9 z10 z11 z12 z14 z15 z16 z17
 have:=xbe ⟨⟨(yb z4),(jd z5),(qc z6),(vb z7),⟨z9.toNat,(jb z10)⟩,z11.toNat,z12.toNat⟩,⟨(qb z14)⟩,(gb z15),(je z16),(qd z17)⟩ hp
 rw [←hc0,←hc1,←hc2,←hc3,←hc4,←hc5,←hc6,←hc7,←hc8,←hc9,←hc10,←hc11]at this
 exact And.intro rfl this
@[go_sem] def zcl (b:Bk):D:= .agg [.sl (chs b.w.c), .sl (wts b.w.w), .sl (ivs b.w.i), .sl (pys b.w.p), .int .u64 b.w.f.next, .sl (evs b.w.f.l), .int .u64 b.w.next, .int .u64 b.w.tick, .sl (tms b.a.l), .sl (rks b.r), .sl (kys b.k), .sl (cts b.s)]
@[go_sem] abbrev vfc:FuncId:=64
@[go_sem] def ke7:Tab:=[]
theorem jcy (b:Bk) (h:kay b):ja Tryz.prog 64 [.agg [.sl (chs b.w.c), .sl (wts b.w.w), .sl (ivs b.w.i), .sl (pys b.w.p), .c (.int .u64 (b.w.f.next:Int)), .sl (evs b.w.f.l), .c (.int .u64 (b.w.next:Int)), .c (.int .u64 (b.w.tick:Int)), .sl (tms b.a.l), .sl (rks b.r), .sl (kys b.k), .sl (cts b.s)]] (zcl b):=by
 refine zf.toPure (xbe b h) ?_
 simp [go_sem,vbY,xap,gao,pw,news,lk]
@[go_sem] def zdf (b:Bk):Prop:=(kay b)
def xaE:List D→Option (Prop×D×Fr)
 |[.agg [.c (.sl z20), .c (.sl z21), .c (.sl z22), .c (.sl z23), .c (.int .u64 z25), .c (.sl z26), .c (.int .u64 z27), .c (.int .u64 z28), .c (.sl z30), .c (.sl z31), .c (.sl z32), .c (.sl z33)]]=>some (z20=chs (yb z20)∧z21=wts (jd z21)∧z22=ivs (qc z22)∧z23=pys (vb z23)∧z25=(z25.toNat:Int)∧z26=evs (jb z26)∧z27=(z27.toNat:Int)∧z28=(z28.toNat:Int)∧z30=tms (qb z30)∧z31=rks (gb z31)∧z32=kys (je z32)∧z33=cts (qd z33)∧zdf (⟨(⟨(yb z20),(jd z21),(qc z22),(vb z23),(⟨z25.toNat,(jb z26)⟩:Fd),z27.toNat,z28.toNat⟩:Wl),(⟨(qb z30)⟩:Ar),(gb z31),(je z32),(qd z33)⟩:Bk),zcl (⟨(⟨(yb z20),(jd z21),(qc z22),(vb z23),(⟨z25.toNat,(jb z26)⟩:Fd),z27.toNat,z28.toNat⟩:Wl),(⟨(qb z30)⟩:Ar),(gb z31),(je z32),(qd z33)⟩:Bk),[])
 |_=>none
attribute [go_sem] xaE
theorem bbx:ga 64 xaE:=by
 intro rs p r fr h hp
 unfold xaE at h
 split at h<;>cases h
 obtain⟨hc0,hc1,hc2,hc3,hc4,hc5,hc6,hc7,hc8,hc9,hc10,hc11,hp⟩:=hp
 rename_i z20 z21 z22 z23 z25 z26 z27 z28 z30 z31 z32 z33
 have:=jcy ⟨⟨(yb z20),(jd z21),(qc z22),(vb z23),⟨z25.toNat,(jb z26)⟩,z27.toNat,z28.toNat⟩,⟨(qb z30)⟩,(gb z31),(je z32),(qd z33)⟩ hp
 rw [←hc0,←hc1,←hc2,←hc3,←hc4,←hc5,←hc6,←hc7,←hc8,←hc9,←hc10,←hc11]at this
 exact this
end Dm
namespace Dm
open Go Go.Proofs
set_option maxRecDepth 20000
theorem wf_u64 {n:Int} (h:(Lit.int .u64 n).wf=true):0≤n∧n≤18446744073709551615:=by
 simp [Lit.wf,IntKind.min,IntKind.max,IntKind.bits,IntKind.signed]at h
 omega
theorem wf_i64 {n:Int} (h:(Lit.int .i64 n).wf=true): -9223372036854775808≤n∧n≤9223372036854775807:=by
 simp [Lit.wf,IntKind.min,IntKind.max,IntKind.bits,IntKind.signed]at h
 omega
theorem wf_u8 {n:Int} (h:(Lit.int .u8 n).wf=true):0≤n∧n≤255:=by
 simp [Lit.wf,IntKind.min,IntKind.max,IntKind.bits,IntKind.signed]at h
 omega
theorem zas {k:Nat} {xs:List C} (h:Typ Tryz.prog (k+1) 23 xs):∃n:Nat,xs=[.int .u64 (n:Int)]∧n≤18446744073709551615:=by
 simp only [Typ,Tryz.underlying23]at h
 obtain⟨n,rfl,h1⟩:=h
 have:=wf_u64 h1
 exact⟨n.toNat,by rw [Int.toNat_of_nonneg (by omega)],by omega⟩
theorem wfz {k:Nat} {xs:List C} (h:Typ Tryz.prog (k+1) 3 xs):∃n:Int,xs=[.int .i64 n]∧ -9223372036854775808≤n∧n≤9223372036854775807:=by
 simp only [Typ,Tryz.underlying3]at h
 obtain⟨n,rfl,h1⟩:=h
 have:=wf_i64 h1
 exact⟨n,rfl,by omega,by omega⟩
theorem ufz {k:Nat} {xs:List C} (h:Typ Tryz.prog (k+1) 5 xs):∃n:Nat,xs=[.int .u8 (n:Int)]∧n≤255:=by
 simp only [Typ,Tryz.underlying5]at h
 obtain⟨n,rfl,h1⟩:=h
 have:=wf_u8 h1
 exact⟨n.toNat,by rw [Int.toNat_of_nonneg (by omega)],by omega⟩
theorem xcM {k:Nat} {xs:List C} (h:Typ Tryz.prog (k+2) 81 xs):∃l:List UInt8,xs=[.sl (u8s l)]∧True:=by
 simp only [Typ,Tryz.underlying81]at h
 obtain⟨els,rfl,_,h2⟩:=h
 have:∀els:List (List C),(∀x∈els,Typ Tryz.prog (k+1) 5 x)→∃l:List UInt8,els=u8s l:=by
  intro els
  induction els with
  |nil=>exact fun _=>⟨[],rfl⟩
  |cons x t ih=>
   intro h3
   obtain⟨l,h4⟩:=ih (fun y hy=>h3 y (List.mem_cons_of_mem _ hy))
   obtain⟨n,rfl,h6⟩:=ufz (k:=k) (h3 x (List.mem_cons_self ..))
   subst h4
   refine⟨UInt8.ofNat n::l, ?_⟩
   have e:(UInt8.ofNat n).toNat=n:=UInt8.toNat_ofNat_of_lt' (by show n<256;omega)
   simp [u8s,e]
 obtain⟨l,rfl⟩:=this els h2
 exact⟨l,rfl,trivial⟩
def Hd.rng (e:Hd):Prop:=e.id≤18446744073709551615∧e.n≤18446744073709551615
theorem kdv {k:Nat} {xs:List C} (h:Typ Tryz.prog (k+2) 198 xs):(Hd.dec xs).enc=xs∧(Hd.dec xs).rng:=by
 simp only [Typ,Tryz.underlying198,xx,Tryz.underlying23]at h
 obtain⟨_,_,rfl,⟨s0,rfl,h0⟩,_,_,rfl,⟨s1,rfl,h1⟩,rfl⟩:=h
 have q0:=wf_u64 h0
 have q1:=wf_u64 h1
 simp only [List.cons_append,List.nil_append,List.append_nil]
 refine⟨by simp [Hd.dec,Hd.enc,Int.toNat_of_nonneg q0.1,Int.toNat_of_nonneg q1.1], ?_⟩
 simp only [Hd.dec,Hd.rng]
 exact⟨by omega,by omega⟩
theorem jb5 {els:List (List C)} (h:∀x∈els,(Hd.dec x).enc=x):hds (bn els)=els:=by
 simp only [hds,bn,List.map_map]
 refine(List.map_congr_left fun x hx=> ?_).trans (List.map_id _)
 exact h x hx
theorem veW {k:Nat} {xs:List C} (h:Typ Tryz.prog (k+3) 84 xs):∃l,xs=[.sl (hds l)]∧∀e∈l,e.rng:=by
 simp only [Typ,Tryz.underlying84]at h
 obtain⟨els,rfl,_,h2⟩:=h
 have h3:∀x∈els,(Hd.dec x).enc=x∧(Hd.dec x).rng:=fun x hx=>kdv (k:=k) (h2 x hx)
 refine⟨bn els,by rw [jb5 fun x hx=>(h3 x hx).1],fun e he=> ?_⟩
 obtain⟨x,hx,rfl⟩:=List.mem_map.1 he
 exact(h3 x hx).2
def Ch.rng (e:Ch):Prop:=e.id≤18446744073709551615∧e.loc≤18446744073709551615∧e.rem≤18446744073709551615∧e.res≤18446744073709551615∧e.most≤18446744073709551615∧(∀q∈e.holds,q.rng)∧True
theorem weW {k:Nat} {xs:List C} (h:Typ Tryz.prog (k+4) 86 xs):(Ch.dec xs).enc=xs∧(Ch.dec xs).rng:=by
 simp only [Typ,Tryz.underlying86,xx,Tryz.underlying4,Tryz.underlying23]at h
 obtain⟨_,_,rfl,⟨s0,rfl,h0⟩,_,_,rfl,⟨s1,rfl,h1⟩,_,_,rfl,⟨s2,rfl,h2⟩,_,_,rfl,⟨s3,rfl,h3⟩,_,_,rfl,⟨s4,rfl,h4⟩,_,_,rfl,hs5,_,_,rfl,⟨s6,rfl⟩,rfl⟩:=h
 have q0:=wf_u64 h0
 have q1:=wf_u64 h1
 have q2:=wf_u64 h2
 have q3:=wf_u64 h3
 have q4:=wf_u64 h4
 obtain⟨s5,rfl,q5⟩:=veW (k:=k+0) hs5
 simp only [List.cons_append,List.nil_append,List.append_nil]
 refine⟨by simp [Ch.dec,Ch.enc,Int.toNat_of_nonneg q0.1,Int.toNat_of_nonneg q1.1,Int.toNat_of_nonneg q2.1,Int.toNat_of_nonneg q3.1,Int.toNat_of_nonneg q4.1,kaA], ?_⟩
 simp only [Ch.dec,Ch.rng,kaA]
 exact⟨by omega,by omega,by omega,by omega,by omega,q5,trivial⟩
theorem wb0 {els:List (List C)} (h:∀x∈els,(Ch.dec x).enc=x):chs (yb els)=els:=by
 simp only [chs,yb,List.map_map]
 refine(List.map_congr_left fun x hx=> ?_).trans (List.map_id _)
 exact h x hx
theorem qeV {k:Nat} {xs:List C} (h:Typ Tryz.prog (k+5) 32 xs):∃l,xs=[.sl (chs l)]∧∀e∈l,e.rng:=by
 simp only [Typ,Tryz.underlying32]at h
 obtain⟨els,rfl,_,h2⟩:=h
 have h3:∀x∈els,(Ch.dec x).enc=x∧(Ch.dec x).rng:=fun x hx=>weW (k:=k) (h2 x hx)
 refine⟨yb els,by rw [wb0 fun x hx=>(h3 x hx).1],fun e he=> ?_⟩
 obtain⟨x,hx,rfl⟩:=List.mem_map.1 he
 exact(h3 x hx).2
def Wt.rng (e:Wt):Prop:=e.id≤18446744073709551615∧True
theorem bdu {k:Nat} {xs:List C} (h:Typ Tryz.prog (k+2) 153 xs):(Wt.dec xs).enc=xs∧(Wt.dec xs).rng:=by
 simp only [Typ,Tryz.underlying153,xx,Tryz.underlying23,Tryz.underlying151]at h
 obtain⟨_,_,rfl,⟨s0,rfl,h0⟩,_,_,rfl,⟨s1,rfl,h1⟩,rfl⟩:=h
 have q0:=wf_u64 h0
 simp only [List.cons_append,List.nil_append,List.append_nil]
 refine⟨by simp [Wt.dec,Wt.enc,Int.toNat_of_nonneg q0.1], ?_⟩
 simp only [Wt.dec,Wt.rng]
 exact⟨by omega,trivial⟩
theorem xci {els:List (List C)} (h:∀x∈els,(Wt.dec x).enc=x):wts (jd els)=els:=by
 simp only [wts,jd,List.map_map]
 refine(List.map_congr_left fun x hx=> ?_).trans (List.map_id _)
 exact h x hx
theorem jeV {k:Nat} {xs:List C} (h:Typ Tryz.prog (k+3) 33 xs):∃l,xs=[.sl (wts l)]∧∀e∈l,e.rng:=by
 simp only [Typ,Tryz.underlying33]at h
 obtain⟨els,rfl,_,h2⟩:=h
 have h3:∀x∈els,(Wt.dec x).enc=x∧(Wt.dec x).rng:=fun x hx=>bdu (k:=k) (h2 x hx)
 refine⟨jd els,by rw [xci fun x hx=>(h3 x hx).1],fun e he=> ?_⟩
 obtain⟨x,hx,rfl⟩:=List.mem_map.1 he
 exact(h3 x hx).2
def Iv.rng (e:Iv):Prop:=e.hash≤18446744073709551615∧e.n≤18446744073709551615∧e.till≤18446744073709551615∧(-9223372036854775808≤e.state∧e.state≤9223372036854775807)
theorem xdv {k:Nat} {xs:List C} (h:Typ Tryz.prog (k+2) 189 xs):(Iv.dec xs).enc=xs∧(Iv.dec xs).rng:=by
 simp only [Typ,Tryz.underlying189,xx,Tryz.underlying3,Tryz.underlying23]at h
 obtain⟨_,_,rfl,⟨s0,rfl,h0⟩,_,_,rfl,⟨s1,rfl,h1⟩,_,_,rfl,⟨s2,rfl,h2⟩,_,_,rfl,⟨s3,rfl,h3⟩,rfl⟩:=h
 have q0:=wf_u64 h0
 have q1:=wf_u64 h1
 have q2:=wf_u64 h2
 have q3:=wf_i64 h3
 simp only [List.cons_append,List.nil_append,List.append_nil]
 refine⟨by simp [Iv.dec,Iv.enc,Int.toNat_of_nonneg q0.1,Int.toNat_of_nonneg q1.1,Int.toNat_of_nonneg q2.1], ?_⟩
 simp only [Iv.dec,Iv.rng]
 exact⟨by omega,by omega,by omega,⟨by omega,by omega⟩⟩
theorem jb6 {els:List (List C)} (h:∀x∈els,(Iv.dec x).enc=x):ivs (qc els)=els:=by
 simp only [ivs,qc,List.map_map]
 refine(List.map_congr_left fun x hx=> ?_).trans (List.map_id _)
 exact h x hx
theorem keV {k:Nat} {xs:List C} (h:Typ Tryz.prog (k+3) 34 xs):∃l,xs=[.sl (ivs l)]∧∀e∈l,e.rng:=by
 simp only [Typ,Tryz.underlying34]at h
 obtain⟨els,rfl,_,h2⟩:=h
 have h3:∀x∈els,(Iv.dec x).enc=x∧(Iv.dec x).rng:=fun x hx=>xdv (k:=k) (h2 x hx)
 refine⟨qc els,by rw [jb6 fun x hx=>(h3 x hx).1],fun e he=> ?_⟩
 obtain⟨x,hx,rfl⟩:=List.mem_map.1 he
 exact(h3 x hx).2
def Py.rng (e:Py):Prop:=e.id≤18446744073709551615∧e.hash≤18446744073709551615∧e.chan≤18446744073709551615∧e.n≤18446744073709551615∧(-9223372036854775808≤e.state∧e.state≤9223372036854775807)
theorem qdv {k:Nat} {xs:List C} (h:Typ Tryz.prog (k+2) 192 xs):(Py.dec xs).enc=xs∧(Py.dec xs).rng:=by
 simp only [Typ,Tryz.underlying192,xx,Tryz.underlying3,Tryz.underlying23]at h
 obtain⟨_,_,rfl,⟨s0,rfl,h0⟩,_,_,rfl,⟨s1,rfl,h1⟩,_,_,rfl,⟨s2,rfl,h2⟩,_,_,rfl,⟨s3,rfl,h3⟩,_,_,rfl,⟨s4,rfl,h4⟩,rfl⟩:=h
 have q0:=wf_u64 h0
 have q1:=wf_u64 h1
 have q2:=wf_u64 h2
 have q3:=wf_u64 h3
 have q4:=wf_i64 h4
 simp only [List.cons_append,List.nil_append,List.append_nil]
 refine⟨by simp [Py.dec,Py.enc,Int.toNat_of_nonneg q0.1,Int.toNat_of_nonneg q1.1,Int.toNat_of_nonneg q2.1,Int.toNat_of_nonneg q3.1], ?_⟩
 simp only [Py.dec,Py.rng]
 exact⟨by omega,by omega,by omega,by omega,⟨by omega,by omega⟩⟩
theorem yca {els:List (List C)} (h:∀x∈els,(Py.dec x).enc=x):pys (vb els)=els:=by
 simp only [pys,vb,List.map_map]
 refine(List.map_congr_left fun x hx=> ?_).trans (List.map_id _)
 exact h x hx
theorem veV {k:Nat} {xs:List C} (h:Typ Tryz.prog (k+3) 35 xs):∃l,xs=[.sl (pys l)]∧∀e∈l,e.rng:=by
 simp only [Typ,Tryz.underlying35]at h
 obtain⟨els,rfl,_,h2⟩:=h
 have h3:∀x∈els,(Py.dec x).enc=x∧(Py.dec x).rng:=fun x hx=>qdv (k:=k) (h2 x hx)
 refine⟨vb els,by rw [yca fun x hx=>(h3 x hx).1],fun e he=> ?_⟩
 obtain⟨x,hx,rfl⟩:=List.mem_map.1 he
 exact(h3 x hx).2
def Ev.rng (e:Ev):Prop:=e.seq≤18446744073709551615∧(-9223372036854775808≤e.kind∧e.kind≤9223372036854775807)∧e.a≤18446744073709551615∧e.n≤18446744073709551615
theorem jdv {k:Nat} {xs:List C} (h:Typ Tryz.prog (k+2) 195 xs):(Ev.dec xs).enc=xs∧(Ev.dec xs).rng:=by
 simp only [Typ,Tryz.underlying195,xx,Tryz.underlying3,Tryz.underlying23]at h
 obtain⟨_,_,rfl,⟨s0,rfl,h0⟩,_,_,rfl,⟨s1,rfl,h1⟩,_,_,rfl,⟨s2,rfl,h2⟩,_,_,rfl,⟨s3,rfl,h3⟩,rfl⟩:=h
 have q0:=wf_u64 h0
 have q1:=wf_i64 h1
 have q2:=wf_u64 h2
 have q3:=wf_u64 h3
 simp only [List.cons_append,List.nil_append,List.append_nil]
 refine⟨by simp [Ev.dec,Ev.enc,Int.toNat_of_nonneg q0.1,Int.toNat_of_nonneg q2.1,Int.toNat_of_nonneg q3.1], ?_⟩
 simp only [Ev.dec,Ev.rng]
 exact⟨by omega,⟨by omega,by omega⟩,by omega,by omega⟩
theorem vb2 {els:List (List C)} (h:∀x∈els,(Ev.dec x).enc=x):evs (jb els)=els:=by
 simp only [evs,jb,List.map_map]
 refine(List.map_congr_left fun x hx=> ?_).trans (List.map_id _)
 exact h x hx
theorem weV {k:Nat} {xs:List C} (h:Typ Tryz.prog (k+3) 36 xs):∃l,xs=[.sl (evs l)]∧∀e∈l,e.rng:=by
 simp only [Typ,Tryz.underlying36]at h
 obtain⟨els,rfl,_,h2⟩:=h
 have h3:∀x∈els,(Ev.dec x).enc=x∧(Ev.dec x).rng:=fun x hx=>jdv (k:=k) (h2 x hx)
 refine⟨jb els,by rw [vb2 fun x hx=>(h3 x hx).1],fun e he=> ?_⟩
 obtain⟨x,hx,rfl⟩:=List.mem_map.1 he
 exact(h3 x hx).2
def Fd.rng (e:Fd):Prop:=e.next≤18446744073709551615∧(∀q∈e.l,q.rng)
theorem ueV {k:Nat} {xs:List C} (h:Typ Tryz.prog (k+4) 38 xs):(Fd.dec xs).enc=xs∧(Fd.dec xs).rng:=by
 simp only [Typ,Tryz.underlying38,xx,Tryz.underlying23]at h
 obtain⟨_,_,rfl,⟨s0,rfl,h0⟩,_,_,rfl,hs1,rfl⟩:=h
 have q0:=wf_u64 h0
 obtain⟨s1,rfl,q1⟩:=weV (k:=k+0) hs1
 simp only [List.cons_append,List.nil_append,List.append_nil]
 refine⟨by simp [Fd.dec,Fd.enc,Int.toNat_of_nonneg q0.1,kL], ?_⟩
 simp only [Fd.dec,Fd.rng,kL]
 exact⟨by omega,q1⟩
def Tm.rng (e:Tm):Prop:=e.key≤18446744073709551615∧(-9223372036854775808≤e.up∧e.up≤9223372036854775807)∧True
theorem keW {k:Nat} {xs:List C} (h:Typ Tryz.prog (k+3) 83 xs):(Tm.dec xs).enc=xs∧(Tm.dec xs).rng:=by
 simp only [Typ,Tryz.underlying83,xx,Tryz.underlying3,Tryz.underlying23]at h
 obtain⟨_,_,rfl,⟨s0,rfl,h0⟩,_,_,rfl,⟨s1,rfl,h1⟩,_,_,rfl,hs2,rfl⟩:=h
 have q0:=wf_u64 h0
 have q1:=wf_i64 h1
 obtain⟨s2,rfl,q2⟩:=xcM (k:=k+0) hs2
 simp only [List.cons_append,List.nil_append,List.append_nil]
 refine⟨by simp [Tm.dec,Tm.enc,Int.toNat_of_nonneg q0.1,jr], ?_⟩
 simp only [Tm.dec,Tm.rng,jr]
 exact⟨by omega,⟨by omega,by omega⟩,q2⟩
theorem gcg {els:List (List C)} (h:∀x∈els,(Tm.dec x).enc=x):tms (qb els)=els:=by
 simp only [tms,qb,List.map_map]
 refine(List.map_congr_left fun x hx=> ?_).trans (List.map_id _)
 exact h x hx
theorem geV {k:Nat} {xs:List C} (h:Typ Tryz.prog (k+4) 41 xs):∃l,xs=[.sl (tms l)]∧∀e∈l,e.rng:=by
 simp only [Typ,Tryz.underlying41]at h
 obtain⟨els,rfl,_,h2⟩:=h
 have h3:∀x∈els,(Tm.dec x).enc=x∧(Tm.dec x).rng:=fun x hx=>keW (k:=k) (h2 x hx)
 refine⟨qb els,by rw [gcg fun x hx=>(h3 x hx).1],fun e he=> ?_⟩
 obtain⟨x,hx,rfl⟩:=List.mem_map.1 he
 exact(h3 x hx).2
def Ar.rng (e:Ar):Prop:=(∀q∈e.l,q.rng)
theorem beV {k:Nat} {xs:List C} (h:Typ Tryz.prog (k+5) 43 xs):(Ar.dec xs).enc=xs∧(Ar.dec xs).rng:=by
 simp only [Typ,Tryz.underlying43,xx]at h
 obtain⟨_,_,rfl,hs0,rfl⟩:=h
 obtain⟨s0,rfl,q0⟩:=geV (k:=k+0) hs0
 simp only [List.cons_append,List.nil_append,List.append_nil]
 refine⟨by simp [Ar.dec,Ar.enc,qS], ?_⟩
 simp only [Ar.dec,Ar.rng,qS]
 exact q0
def Rk.rng (e:Rk):Prop:=e.id≤18446744073709551615∧e.key≤18446744073709551615∧True
theorem jeW {k:Nat} {xs:List C} (h:Typ Tryz.prog (k+2) 70 xs):(Rk.dec xs).enc=xs∧(Rk.dec xs).rng:=by
 simp only [Typ,Tryz.underlying70,xx,Tryz.underlying4,Tryz.underlying23]at h
 obtain⟨_,_,rfl,⟨s0,rfl,h0⟩,_,_,rfl,⟨s1,rfl,h1⟩,_,_,rfl,⟨s2,rfl⟩,rfl⟩:=h
 have q0:=wf_u64 h0
 have q1:=wf_u64 h1
 simp only [List.cons_append,List.nil_append,List.append_nil]
 refine⟨by simp [Rk.dec,Rk.enc,Int.toNat_of_nonneg q0.1,Int.toNat_of_nonneg q1.1], ?_⟩
 simp only [Rk.dec,Rk.rng]
 exact⟨by omega,by omega,trivial⟩
theorem vce {els:List (List C)} (h:∀x∈els,(Rk.dec x).enc=x):rks (gb els)=els:=by
 simp only [rks,gb,List.map_map]
 refine(List.map_congr_left fun x hx=> ?_).trans (List.map_id _)
 exact h x hx
theorem zeW {k:Nat} {xs:List C} (h:Typ Tryz.prog (k+3) 44 xs):∃l,xs=[.sl (rks l)]∧∀e∈l,e.rng:=by
 simp only [Typ,Tryz.underlying44]at h
 obtain⟨els,rfl,_,h2⟩:=h
 have h3:∀x∈els,(Rk.dec x).enc=x∧(Rk.dec x).rng:=fun x hx=>jeW (k:=k) (h2 x hx)
 refine⟨gb els,by rw [vce fun x hx=>(h3 x hx).1],fun e he=> ?_⟩
 obtain⟨x,hx,rfl⟩:=List.mem_map.1 he
 exact(h3 x hx).2
def Ky.rng (e:Ky):Prop:=e.k≤18446744073709551615∧True∧True∧e.till≤18446744073709551615
theorem zdv {k:Nat} {xs:List C} (h:Typ Tryz.prog (k+3) 158 xs):(Ky.dec xs).enc=xs∧(Ky.dec xs).rng:=by
 simp only [Typ,Tryz.underlying158,xx,Tryz.underlying23]at h
 obtain⟨_,_,rfl,⟨s0,rfl,h0⟩,_,_,rfl,hs1,_,_,rfl,hs2,_,_,rfl,⟨s3,rfl,h3⟩,rfl⟩:=h
 have q0:=wf_u64 h0
 obtain⟨s1,rfl,q1⟩:=xcM (k:=k+0) hs1
 obtain⟨s2,rfl,q2⟩:=xcM (k:=k+0) hs2
 have q3:=wf_u64 h3
 simp only [List.cons_append,List.nil_append,List.append_nil]
 refine⟨by simp [Ky.dec,Ky.enc,Int.toNat_of_nonneg q0.1,Int.toNat_of_nonneg q3.1,jr,jr], ?_⟩
 simp only [Ky.dec,Ky.rng,jr,jr]
 exact⟨by omega,q1,q2,by omega⟩
theorem gb6 {els:List (List C)} (h:∀x∈els,(Ky.dec x).enc=x):kys (je els)=els:=by
 simp only [kys,je,List.map_map]
 refine(List.map_congr_left fun x hx=> ?_).trans (List.map_id _)
 exact h x hx
theorem yeW {k:Nat} {xs:List C} (h:Typ Tryz.prog (k+4) 45 xs):∃l,xs=[.sl (kys l)]∧∀e∈l,e.rng:=by
 simp only [Typ,Tryz.underlying45]at h
 obtain⟨els,rfl,_,h2⟩:=h
 have h3:∀x∈els,(Ky.dec x).enc=x∧(Ky.dec x).rng:=fun x hx=>zdv (k:=k) (h2 x hx)
 refine⟨je els,by rw [gb6 fun x hx=>(h3 x hx).1],fun e he=> ?_⟩
 obtain⟨x,hx,rfl⟩:=List.mem_map.1 he
 exact(h3 x hx).2
def Ct.rng (e:Ct):Prop:=e.root≤18446744073709551615∧e.b≤18446744073709551615∧e.n≤18446744073709551615
theorem ydv {k:Nat} {xs:List C} (h:Typ Tryz.prog (k+2) 160 xs):(Ct.dec xs).enc=xs∧(Ct.dec xs).rng:=by
 simp only [Typ,Tryz.underlying160,xx,Tryz.underlying23]at h
 obtain⟨_,_,rfl,⟨s0,rfl,h0⟩,_,_,rfl,⟨s1,rfl,h1⟩,_,_,rfl,⟨s2,rfl,h2⟩,rfl⟩:=h
 have q0:=wf_u64 h0
 have q1:=wf_u64 h1
 have q2:=wf_u64 h2
 simp only [List.cons_append,List.nil_append,List.append_nil]
 refine⟨by simp [Ct.dec,Ct.enc,Int.toNat_of_nonneg q0.1,Int.toNat_of_nonneg q1.1,Int.toNat_of_nonneg q2.1], ?_⟩
 simp only [Ct.dec,Ct.rng]
 exact⟨by omega,by omega,by omega⟩
theorem yb1 {els:List (List C)} (h:∀x∈els,(Ct.dec x).enc=x):cts (qd els)=els:=by
 simp only [cts,qd,List.map_map]
 refine(List.map_congr_left fun x hx=> ?_).trans (List.map_id _)
 exact h x hx
theorem xeW {k:Nat} {xs:List C} (h:Typ Tryz.prog (k+3) 46 xs):∃l,xs=[.sl (cts l)]∧∀e∈l,e.rng:=by
 simp only [Typ,Tryz.underlying46]at h
 obtain⟨els,rfl,_,h2⟩:=h
 have h3:∀x∈els,(Ct.dec x).enc=x∧(Ct.dec x).rng:=fun x hx=>ydv (k:=k) (h2 x hx)
 refine⟨qd els,by rw [yb1 fun x hx=>(h3 x hx).1],fun e he=> ?_⟩
 obtain⟨x,hx,rfl⟩:=List.mem_map.1 he
 exact(h3 x hx).2
def Cv.rng (e:Cv):Prop:=(-9223372036854775808≤e.kind∧e.kind≤9223372036854775807)∧e.a≤18446744073709551615∧e.b≤18446744073709551615
theorem qeW {k:Nat} {xs:List C} (h:Typ Tryz.prog (k+2) 59 xs):(Cv.dec xs).enc=xs∧(Cv.dec xs).rng:=by
 simp only [Typ,Tryz.underlying59,xx,Tryz.underlying3,Tryz.underlying23]at h
 obtain⟨_,_,rfl,⟨s0,rfl,h0⟩,_,_,rfl,⟨s1,rfl,h1⟩,_,_,rfl,⟨s2,rfl,h2⟩,rfl⟩:=h
 have q0:=wf_i64 h0
 have q1:=wf_u64 h1
 have q2:=wf_u64 h2
 simp only [List.cons_append,List.nil_append,List.append_nil]
 refine⟨by simp [Cv.dec,Cv.enc,Int.toNat_of_nonneg q1.1,Int.toNat_of_nonneg q2.1], ?_⟩
 simp only [Cv.dec,Cv.rng]
 exact⟨⟨by omega,by omega⟩,by omega,by omega⟩
theorem kb1 {els:List (List C)} (h:∀x∈els,(Cv.dec x).enc=x):cvs (uc els)=els:=by
 simp only [cvs,uc,List.map_map]
 refine(List.map_congr_left fun x hx=> ?_).trans (List.map_id _)
 exact h x hx
theorem vdv {k:Nat} {xs:List C} (h:Typ Tryz.prog (k+3) 24 xs):∃l,xs=[.sl (cvs l)]∧∀e∈l,e.rng:=by
 simp only [Typ,Tryz.underlying24]at h
 obtain⟨els,rfl,_,h2⟩:=h
 have h3:∀x∈els,(Cv.dec x).enc=x∧(Cv.dec x).rng:=fun x hx=>qeW (k:=k) (h2 x hx)
 refine⟨uc els,by rw [kb1 fun x hx=>(h3 x hx).1],fun e he=> ?_⟩
 obtain⟨x,hx,rfl⟩:=List.mem_map.1 he
 exact(h3 x hx).2
def Tk.rng (e:Tk):Prop:=e.root≤18446744073709551615∧(∀q∈e.l,q.rng)∧(-9223372036854775808≤e.tag∧e.tag≤9223372036854775807)
theorem yeV {k:Nat} {xs:List C} (h:Typ Tryz.prog (k+4) 26 xs):(Tk.dec xs).enc=xs∧(Tk.dec xs).rng:=by
 simp only [Typ,Tryz.underlying26,xx,Tryz.underlying3,Tryz.underlying23]at h
 obtain⟨_,_,rfl,⟨s0,rfl,h0⟩,_,_,rfl,hs1,_,_,rfl,⟨s2,rfl,h2⟩,rfl⟩:=h
 have q0:=wf_u64 h0
 obtain⟨s1,rfl,q1⟩:=vdv (k:=k+0) hs1
 have q2:=wf_i64 h2
 simp only [List.cons_append,List.nil_append,List.append_nil]
 refine⟨by simp [Tk.dec,Tk.enc,Int.toNat_of_nonneg q0.1,xS], ?_⟩
 simp only [Tk.dec,Tk.rng,xS]
 exact⟨by omega,q1,⟨by omega,by omega⟩⟩
def It.rng (e:It):Prop:=e.hash≤18446744073709551615∧e.n≤18446744073709551615
theorem wdv {k:Nat} {xs:List C} (h:Typ Tryz.prog (k+2) 250 xs):(It.dec xs).enc=xs∧(It.dec xs).rng:=by
 simp only [Typ,Tryz.underlying250,xx,Tryz.underlying23]at h
 obtain⟨_,_,rfl,⟨s0,rfl,h0⟩,_,_,rfl,⟨s1,rfl,h1⟩,rfl⟩:=h
 have q0:=wf_u64 h0
 have q1:=wf_u64 h1
 simp only [List.cons_append,List.nil_append,List.append_nil]
 refine⟨by simp [It.dec,It.enc,Int.toNat_of_nonneg q0.1,Int.toNat_of_nonneg q1.1], ?_⟩
 simp only [It.dec,It.rng]
 exact⟨by omega,by omega⟩
theorem qb6 {els:List (List C)} (h:∀x∈els,(It.dec x).enc=x):its (zk els)=els:=by
 simp only [its,zk,List.map_map]
 refine(List.map_congr_left fun x hx=> ?_).trans (List.map_id _)
 exact h x hx
theorem xeV {k:Nat} {xs:List C} (h:Typ Tryz.prog (k+3) 27 xs):∃l,xs=[.sl (its l)]∧∀e∈l,e.rng:=by
 simp only [Typ,Tryz.underlying27]at h
 obtain⟨els,rfl,_,h2⟩:=h
 have h3:∀x∈els,(It.dec x).enc=x∧(It.dec x).rng:=fun x hx=>wdv (k:=k) (h2 x hx)
 refine⟨zk els,by rw [qb6 fun x hx=>(h3 x hx).1],fun e he=> ?_⟩
 obtain⟨x,hx,rfl⟩:=List.mem_map.1 he
 exact(h3 x hx).2
def Wl.rng (w:Wl):Prop:=(∀e∈w.c,e.rng)∧(∀e∈w.w,e.rng)∧(∀e∈w.i,e.rng)∧(∀e∈w.p,e.rng)∧w.f.rng∧w.next≤18446744073709551615∧w.tick≤18446744073709551615
theorem gdv {k:Nat} {xs:List C} (h:Typ Tryz.prog (k+6) 40 xs):∃w:Wl,xs=w.enc∧w.rng:=by
 rw [show k+6=(k+5)+1 from rfl,Typ,Tryz.underlying40]at h
 simp only [xx]at h
 obtain⟨_,_,rfl,h0,_,_,rfl,h1,_,_,rfl,h2,_,_,rfl,h3,_,_,rfl,h4,_,_,rfl,h5,_,_,rfl,h6,rfl⟩:=h
 obtain⟨c,rfl,q0⟩:=qeV (k:=k) h0
 obtain⟨w,rfl,q1⟩:=jeV (k:=k+2) h1
 obtain⟨i,rfl,q2⟩:=keV (k:=k+2) h2
 obtain⟨p,rfl,q3⟩:=veV (k:=k+2) h3
 obtain⟨e4,q4⟩:=ueV (k:=k+1) h4
 obtain⟨n,rfl,q5⟩:=zas (k:=k+4) h5
 obtain⟨t,rfl,q6⟩:=zas (k:=k+4) h6
 refine⟨⟨c,w,i,p,Fd.dec _,n,t⟩, ?_,q0,q1,q2,q3,q4,q5,q6⟩
 rw [←e4]
 simp [Wl.enc,Fd.enc,Fd.dec,kL]
def Bk.rng (b:Bk):Prop:=b.w.rng∧b.a.rng∧(∀e∈b.r,e.rng)∧(∀e∈b.k,e.rng)∧∀e∈b.s,e.rng
theorem jco {k:Nat} {xs:List C} (h:Typ Tryz.prog (k+7) 48 xs):∃b:Bk,xs=b.enc∧b.rng:=by
 rw [show k+7=(k+6)+1 from rfl,Typ,Tryz.underlying48]at h
 simp only [xx]at h
 obtain⟨_,_,rfl,h0,_,_,rfl,h1,_,_,rfl,h2,_,_,rfl,h3,_,_,rfl,h4,rfl⟩:=h
 obtain⟨w,rfl,q0⟩:=gdv (k:=k) h0
 obtain⟨e1,q1⟩:=beV (k:=k+1) h1
 obtain⟨r,rfl,q2⟩:=zeW (k:=k+3) h2
 obtain⟨y,rfl,q3⟩:=yeW (k:=k+2) h3
 obtain⟨s,rfl,q4⟩:=xeW (k:=k+3) h4
 refine⟨⟨w,Ar.dec _,r,y,s⟩, ?_,q0,q1,q2,q3,q4⟩
 rw [←e1]
 simp [Bk.enc,Wl.enc,Ar.enc,Ar.dec,qS]
def Rq.rng (r:Rq):Prop:=r.id≤18446744073709551615∧(-9223372036854775808≤r.method∧r.method≤9223372036854775807)∧r.key≤18446744073709551615∧r.t.rng∧r.a≤18446744073709551615∧r.n≤18446744073709551615∧r.till≤18446744073709551615∧(∀e∈r.items,e.rng)∧∀e∈r.l,e.rng
theorem udv {k:Nat} {xs:List C} (h:Typ Tryz.prog (k+5) 29 xs):∃r:Rq,xs=r.enc∧r.rng:=by
 rw [show k+5=(k+4)+1 from rfl,Typ,Tryz.underlying29]at h
 simp only [xx]at h
 obtain⟨_,_,rfl,h0,_,_,rfl,h1,_,_,rfl,h2,_,_,rfl,h3,_,_,rfl,h4,_,_,rfl,h5,_,_,rfl,h6,_,_,rfl,h7,_,_,rfl,h8,rfl⟩:=h
 obtain⟨i,rfl,q0⟩:=zas (k:=k+3) h0
 obtain⟨m,rfl,q1⟩:=wfz (k:=k+3) h1
 obtain⟨y,rfl,q2⟩:=zas (k:=k+3) h2
 obtain⟨e3,q3⟩:=yeV (k:=k) h3
 obtain⟨a,rfl,q4⟩:=zas (k:=k+3) h4
 obtain⟨n,rfl,q5⟩:=zas (k:=k+3) h5
 obtain⟨t,rfl,q6⟩:=zas (k:=k+3) h6
 obtain⟨l,rfl,q7⟩:=xeV (k:=k+1) h7
 obtain⟨c,rfl,q8⟩:=vdv (k:=k+1) h8
 refine⟨⟨i,m,y,Tk.dec _,a,n,t,l,c⟩, ?_,q0,q1,q2,q3,q4,q5,q6,q7,q8⟩
 rw [←e3]
 simp [Rq.enc,Tk.enc,Tk.dec,xS]
end Dm
namespace Dm
open Go Go.Proofs Go.IntWalk
def uG (b:Bk) (r:Rq) (who:Nat):Us×Int:=if(vao r).2=0∧yS b=0 then(⟨b.w.tick,r.method,(vao r).1,who⟩,0)else(⟨0,0,0,0⟩,1)
@[go_sem] def ycm (b:Bk) (r:Rq) (who:Nat):D:= .tup [.agg [.int .u64 ((uG b r who).1.tick:Nat), .int .i64 (uG b r who).1.method, .int .u64 ((uG b r who).1.amount:Nat), .int .u64 ((uG b r who).1.who:Nat)], .int .i64 (uG b r who).2]
@[go_sem] abbrev wfc:FuncId:=17
@[go_sem] def qdf:Tab:=[(57,kbk),(31,bp)]
theorem ybG:za Tryz.prog qdf:=(za.cons ybU (za.cons zq za.nil))
theorem xcz (b:Bk) (r:Rq) (who:Nat) (h:b.w.f.next≤18446744073709551615):ja Tryz.prog 17 [.agg [.sl (chs b.w.c), .sl (wts b.w.w), .sl (ivs b.w.i), .sl (pys b.w.p), .c (.int .u64 (b.w.f.next:Int)), .sl (evs b.w.f.l), .c (.int .u64 (b.w.next:Int)), .c (.int .u64 (b.w.tick:Int)), .sl (tms b.a.l), .sl (rks b.r), .sl (kys b.k), .sl (cts b.s)], .agg [.c (.int .u64 (r.id:Int)), .c (.int .i64 r.method), .c (.int .u64 (r.key:Int)), .c (.int .u64 (r.t.root:Int)), .sl (cvs r.t.l), .c (.int .i64 r.t.tag), .c (.int .u64 (r.a:Int)), .c (.int .u64 (r.n:Int)), .c (.int .u64 (r.till:Int)), .sl (its r.items), .sl (cvs r.l)], .c (.int .u64 (who:Int))] (ycm b r who):=by
 refine .of (wfj ybG (Nat.le_of_ble_eq_true rfl) ?_)
 simp -implicitDefEqProofs only [cdA,go_sem,Go.Proofs.Tryz.f17,simprocAttr, -Int.reduceEq,List.cons.injEq,cdB]
 refine⟨fun h1=>⟨h,fun h2=> ?_,fun h2=> ?_⟩,fun h1=> ?_⟩
 ·rw [uG,if_pos ⟨h1,h2⟩];exact⟨⟨rfl,rfl,rfl,rfl⟩,rfl⟩
 ·rw [uG,if_neg fun h=>h2 h.2];exact⟨⟨rfl,rfl,rfl,rfl⟩,rfl⟩
 ·rw [uG,if_neg fun h=>h1 h.1];exact⟨⟨rfl,rfl,rfl,rfl⟩,rfl⟩
@[go_sem] def jdf (b:Bk) (r:Rq) (who:Nat):Prop:=(b.w.f.next≤18446744073709551615)
def yan:List D→Option (Prop×D×Fr)
 |[.agg [.c (.sl z3), .c (.sl z4), .c (.sl z5), .c (.sl z6), .c (.int .u64 z8), .c (.sl z9), .c (.int .u64 z10), .c (.int .u64 z11), .c (.sl z13), .c (.sl z14), .c (.sl z15), .c (.sl z16)], .agg [.c (.int .u64 z18), .c (.int .i64 z19), .c (.int .u64 z20), .c (.int .u64 z22), .c (.sl z23), .c (.int .i64 z24), .c (.int .u64 z25), .c (.int .u64 z26), .c (.int .u64 z27), .c (.sl z28), .c (.sl z29)], .c (.int .u64 z30)]=>some (z3=chs (yb z3)∧z4=wts (jd z4)∧z5=ivs (qc z5)∧z6=pys (vb z6)∧z8=(z8.toNat:Int)∧z9=evs (jb z9)∧z10=(z10.toNat:Int)∧z11=(z11.toNat:Int)∧z13=tms (qb z13)∧z14=rks (gb z14)∧z15=kys (je z15)∧z16=cts (qd z16)∧z18=(z18.toNat:Int)∧z20=(z20.toNat:Int)∧z22=(z22.toNat:Int)∧z23=cvs (uc z23)∧z25=(z25.toNat:Int)∧z26=(z26.toNat:Int)∧z27=(z27.toNat:Int)∧z28=its (zk z28)∧z29=cvs (uc z29)∧z30=(z30.toNat:Int)∧jdf (⟨(⟨(yb z3),(jd z4),(qc z5),(vb z6),(⟨z8.toNat,(jb z9)⟩:Fd),z10.toNat,z11.toNat⟩:Wl),(⟨(qb z13)⟩:Ar),(gb z14),(je z15),(qd z16)⟩:Bk) (⟨z18.toNat,z19,z20.toNat,(⟨z22.toNat,(uc z23),z24⟩:Tk),z25.toNat,z26.toNat,z27.toNat,(zk z28),(uc z29)⟩:Rq) z30.toNat,ycm (⟨(⟨(yb z3),(jd z4),(qc z5),(vb z6),(⟨z8.toNat,(jb z9)⟩:Fd),z10.toNat,z11.toNat⟩:Wl),(⟨(qb z13)⟩:Ar),(gb z14),(je z15),(qd z16)⟩:Bk) (⟨z18.toNat,z19,z20.toNat,(⟨z22.toNat,(uc z23),z24⟩:Tk),z25.toNat,z26.toNat,z27.toNat,(zk z28),(uc z29)⟩:Rq) z30.toNat,[])
 |_=>none
attribute [go_sem] yan
theorem zaz:ga 17 yan:=by
 intro rs p r fr h hp
 unfold yan at h
 split at h<;>cases h
 obtain⟨hc0,hc1,hc2,hc3,hc4,hc5,hc6,hc7,hc8,hc9,hc10,hc11,hc12,hc13,hc14,hc15,hc16,hc17,hc18,hc19,hc20,hc21,hp⟩:=hp
 rename_i z3 z4 z5 z6 z8 z9 z10 z11 z13 z14 z15 z16 z18 z19 z20 z22 z23 z24 z25 z26 z27 z28 z29 z30
 have:=xcz ⟨⟨(yb z3),(jd z4),(qc z5),(vb z6),⟨z8.toNat,(jb z9)⟩,z10.toNat,z11.toNat⟩,⟨(qb z13)⟩,(gb z14),(je z15),(qd z16)⟩ ⟨z18.toNat,z19,z20.toNat,⟨z22.toNat,(uc z23),z24⟩,z25.toNat,z26.toNat,z27.toNat,(zk z28),(uc z29)⟩ z30.toNat hp
 rw [←hc0,←hc1,←hc2,←hc3,←hc4,←hc5,←hc6,←hc7,←hc8,←hc9,←hc10,←hc11,←hc12,←hc13,←hc14,←hc15,←hc16,←hc17,←hc18,←hc19,←hc20,←hc21]at this
 exact this
def qau (b:Bk) (r:Rq) (who:Nat):Bool×Int:=
 if(uG b r who).2≠0 then(false,(uG b r who).2)else if(bao b.r r.t.root).2≠0 then(false,0)else
 if(yas b.a.l (bao b.r r.t.root).1 r.t).2≠0∨(yas b.a.l (bao b.r r.t.root).1 r.t).1=false then(false,(yas b.a.l (bao b.r r.t.root).1 r.t).2)else
 if(kao r.t.l (uG b r who).1).2≠0∨(kao r.t.l (uG b r who).1).1=false then(false,(kao r.t.l (uG b r who).1).2)else
 if(uao b.s r.t.root r.t.l (uG b r who).1.amount).2≠0∨(uao b.s r.t.root r.t.l (uG b r who).1.amount).1=false then(false,(uao b.s r.t.root r.t.l (uG b r who).1.amount).2)else(true,0)
@[go_sem] def gck (b:Bk) (r:Rq) (who:Nat):D:= .tup [.bool (qau b r who).1, .int .i64 (qau b r who).2]
@[go_sem] abbrev jfc:FuncId:=14
@[go_sem] def wde:Tab:=[(17,yan),(42,vag),(44,kO),(46,xae),(48,zah)]
theorem vo:za Tryz.prog wde:=(za.cons zaz (za.cons kba (za.cons kaG (za.cons ba7 (za.cons bba za.nil)))))
theorem xcy (b:Bk) (r:Rq) (who:Nat) (h:b.w.f.next≤18446744073709551615):ja Tryz.prog 14 [.agg [.sl (chs b.w.c), .sl (wts b.w.w), .sl (ivs b.w.i), .sl (pys b.w.p), .c (.int .u64 (b.w.f.next:Int)), .sl (evs b.w.f.l), .c (.int .u64 (b.w.next:Int)), .c (.int .u64 (b.w.tick:Int)), .sl (tms b.a.l), .sl (rks b.r), .sl (kys b.k), .sl (cts b.s)], .agg [.c (.int .u64 (r.id:Int)), .c (.int .i64 r.method), .c (.int .u64 (r.key:Int)), .c (.int .u64 (r.t.root:Int)), .sl (cvs r.t.l), .c (.int .i64 r.t.tag), .c (.int .u64 (r.a:Int)), .c (.int .u64 (r.n:Int)), .c (.int .u64 (r.till:Int)), .sl (its r.items), .sl (cvs r.l)], .c (.int .u64 (who:Int))] (gck b r who):=by
 refine .of (qfj vo (Nat.le_of_ble_eq_true rfl) ?_)
 simp -implicitDefEqProofs only [cdA,go_sem,Go.Proofs.Tryz.f14,simprocAttr, -Int.reduceEq,List.cons.injEq,cdB]
 refine⟨h,fun hu=>⟨fun hk=> ?_,fun hk=> ?_⟩,fun hu=> ?_⟩
 rotate_left 1
 ·rw [qau,if_neg (fun h=>h hu),if_pos hk];exact⟨rfl,rfl⟩
 ·rw [qau,if_pos hu];exact⟨rfl,rfl⟩
 refine SWp.loop (ι:={i:Nat // i≤3∧(0<i→¬((yas b.a.l (bao b.r r.t.root).1 r.t).2≠0∨(yas b.a.l (bao b.r r.t.root).1 r.t).1=false))∧(1<i→¬((kao r.t.l (uG b r who).1).2≠0∨(kao r.t.l (uG b r who).1).1=false))∧(2<i→¬((uao b.s r.t.root r.t.l (uG b r who).1.amount).2≠0∨(uao b.s r.t.root r.t.l (uG b r who).1.amount).1=false))}) (fun i=>⟨[(42, .agg [.fn (.func 43) [] [.ref 0 0, .ref 3 0, .ref 1 0], .fn (.func 45) [] [.ref 1 0, .ref 2 0], .fn (.func 47) [] [.ref 0 0, .ref 1 0, .ref 2 0]]),(43, .int .i64 i.1)],[(3, .box [.int .u64 (bao b.r r.t.root).1]),(2, .box [.int .u64 (uG b r who).1.tick, .int .i64 (uG b r who).1.method, .int .u64 (uG b r who).1.amount, .int .u64 (uG b r who).1.who]),(1, .box [.c (.int .u64 r.id), .c (.int .i64 r.method), .c (.int .u64 r.key), .c (.int .u64 r.t.root), .sl (cvs r.t.l), .c (.int .i64 r.t.tag), .c (.int .u64 r.a), .c (.int .u64 r.n), .c (.int .u64 r.till), .sl (its r.items), .sl (cvs r.l)]),(0, .box [.sl (chs b.w.c), .sl (wts b.w.w), .sl (ivs b.w.i), .sl (pys b.w.p), .c (.int .u64 b.w.f.next), .sl (evs b.w.f.l), .c (.int .u64 b.w.next), .c (.int .u64 b.w.tick), .sl (tms b.a.l), .sl (rks b.r), .sl (kys b.k), .sl (cts b.s)])],4⟩) (fun i=>3 - i.1) ⟨0,by simp⟩ ?_ ?_
 ·simp [go_sem]
 ·rintro⟨i,hi,h1,h2,h3⟩
  match i,hi,h1,h2,h3 with
  |3,_,h1,h2,h3=>
   refine ya vo.toS jdh _ _ _ rfl ?_
   simp -implicitDefEqProofs only [cdA,go_sem,simprocAttr, -Int.reduceEq,List.cons.injEq,cdB]
   refine⟨fun h=>h.elim, ?_⟩
   rw [qau,if_neg (fun h=>h hu),if_neg (fun h=>h hk),if_neg (h1 (by decide)),if_neg (h2 (by decide)),if_neg (h3 (by decide))];exact⟨rfl,rfl⟩
  |2,_,h1,h2,h3=>
   refine ya vo.toS jdh _ _ _ rfl ?_
   simp -implicitDefEqProofs only [cdA,go_sem,simprocAttr, -Int.reduceEq,List.cons.injEq,cdB]
   refine qfm vo (Nat.le_of_ble_eq_true rfl) ?_
   simp -implicitDefEqProofs only [cdA,go_sem,Go.Proofs.Tryz.f47,simprocAttr, -Int.reduceEq,List.cons.injEq,cdB]
   refine⟨fun h6=>⟨fun h7=>⟨⟨3,by decide,fun _=>h1 (by decide),fun _=>h2 (by decide),fun _ h=>h.elim (fun h=>h h6) fun h=>(Bool.noConfusion (h7.symm.trans h))⟩,by dsimp only;omega,by kernel_rfl⟩,fun h7=> ?_⟩,fun h6=> ?_⟩
   ·rw [qau,if_neg (fun h=>h hu),if_neg (fun h=>h hk),if_neg (h1 (by decide)),if_neg (h2 (by decide)),if_pos (.inr h7)];exact⟨rfl,rfl⟩
   ·rw [qau,if_neg (fun h=>h hu),if_neg (fun h=>h hk),if_neg (h1 (by decide)),if_neg (h2 (by decide)),if_pos (.inl h6)];exact⟨rfl,rfl⟩
  |1,_,h1,h2,h3=>
   refine ya vo.toS jdh _ _ _ rfl ?_
   simp -implicitDefEqProofs only [cdA,go_sem,simprocAttr, -Int.reduceEq,List.cons.injEq,cdB]
   refine yfm vo (Nat.le_of_ble_eq_true rfl) ?_
   simp -implicitDefEqProofs only [cdA,go_sem,Go.Proofs.Tryz.f45,simprocAttr, -Int.reduceEq,List.cons.injEq,cdB]
   refine⟨fun h6=>⟨fun h7=>⟨⟨2,by decide,fun _=>h1 (by decide),fun _ h=>h.elim (fun h=>h h6) fun h=>(Bool.noConfusion (h7.symm.trans h)),fun h=>absurd h (by decide)⟩,by dsimp only;omega,by kernel_rfl⟩,fun h7=> ?_⟩,fun h6=> ?_⟩
   ·rw [qau,if_neg (fun h=>h hu),if_neg (fun h=>h hk),if_neg (h1 (by decide)),if_pos (.inr h7)];exact⟨rfl,rfl⟩
   ·rw [qau,if_neg (fun h=>h hu),if_neg (fun h=>h hk),if_neg (h1 (by decide)),if_pos (.inl h6)];exact⟨rfl,rfl⟩
  |0,_,h1,h2,h3=>
   refine ya vo.toS jdh _ _ _ rfl ?_
   simp -implicitDefEqProofs only [cdA,go_sem,simprocAttr, -Int.reduceEq,List.cons.injEq,cdB]
   refine bfl vo (Nat.le_of_ble_eq_true rfl) ?_
   simp -implicitDefEqProofs only [cdA,go_sem,Go.Proofs.Tryz.f43,simprocAttr, -Int.reduceEq,List.cons.injEq,cdB]
   refine⟨fun h6=>⟨fun h7=>⟨⟨1,by decide,fun _ h=>h.elim (fun h=>h h6) fun h=>(Bool.noConfusion (h7.symm.trans h)),fun h=>absurd h (by decide),fun h=>absurd h (by decide)⟩,by dsimp only;omega,by kernel_rfl⟩,fun h7=> ?_⟩,fun h6=> ?_⟩
   ·rw [qau,if_neg (fun h=>h hu),if_neg (fun h=>h hk),if_pos (.inr h7)];exact⟨rfl,rfl⟩
   ·rw [qau,if_neg (fun h=>h hu),if_neg (fun h=>h hk),if_pos (.inl h6)];exact⟨rfl,rfl⟩
@[go_sem] def ude (b:Bk) (r:Rq) (who:Nat):Prop:=(b.w.f.next≤18446744073709551615)
def bam:List D→Option (Prop×D×Fr)
 |[.agg [.c (.sl z33), .c (.sl z34), .c (.sl z35), .c (.sl z36), .c (.int .u64 z38), .c (.sl z39), .c (.int .u64 z40), .c (.int .u64 z41), .c (.sl z43), .c (.sl z44), .c (.sl z45), .c (.sl z46)], .agg [.c (.int .u64 z48), .c (.int .i64 z49), .c (.int .u64 z50), .c (.int .u64 z52), .c (.sl z53), .c (.int .i64 z54), .c (.int .u64 z55), .c (.int .u64 z56), .c (.int .u64 z57), .c (.sl z58), .c (.sl z59)], .c (.int .u64 z60)]=>some (z33=chs (yb z33)∧z34=wts (jd z34)∧z35=ivs (qc z35)∧z36=pys (vb z36)∧z38=(z38.toNat:Int)∧z39=evs (jb z39)∧z40=(z40.toNat:Int)∧z41=(z41.toNat:Int)∧z43=tms (qb z43)∧z44=rks (gb z44)∧z45=kys (je z45)∧z46=cts (qd z46)∧z48=(z48.toNat:Int)∧z50=(z50.toNat:Int)∧z52=(z52.toNat:Int)∧z53=cvs (uc z53)∧z55=(z55.toNat:Int)∧z56=(z56.toNat:Int)∧z57=(z57.toNat:Int)∧z58=its (zk z58)∧z59=cvs (uc z59)∧z60=(z60.toNat:Int)∧ude (⟨(⟨(yb z33),(jd z34),(qc z35),(vb z36),(⟨z38.toNat,(jb z39)⟩:Fd),z40.toNat,z41.toNat⟩:Wl),(⟨(qb z43)⟩:Ar),(gb z44),(je z45),(qd z46)⟩:Bk) (⟨z48.toNat,z49,z50.toNat,(⟨z52.toNat,(uc z53),z54⟩:Tk),z55.toNat,z56.toNat,z57.toNat,(zk z58),(uc z59)⟩:Rq) z60.toNat,gck (⟨(⟨(yb z33),(jd z34),(qc z35),(vb z36),(⟨z38.toNat,(jb z39)⟩:Fd),z40.toNat,z41.toNat⟩:Wl),(⟨(qb z43)⟩:Ar),(gb z44),(je z45),(qd z46)⟩:Bk) (⟨z48.toNat,z49,z50.toNat,(⟨z52.toNat,(uc z53),z54⟩:Tk),z55.toNat,z56.toNat,z57.toNat,(zk z58),(uc z59)⟩:Rq) z60.toNat,[])
 |_=>none
attribute [go_sem] bam
theorem bay:ga 14 bam:=by
 intro rs p r fr h hp
 unfold bam at h
 split at h<;>cases h
 obtain⟨hc0,hc1,hc2,hc3,hc4,hc5,hc6,hc7,hc8,hc9,hc10,hc11,hc12,hc13,hc14,hc15,hc16,hc17,hc18,hc19,hc20,hc21,hp⟩:=hp
 rename_i z33 z34 z35 z36 z38 z39 z40 z41 z43 z44 z45 z46 z48 z49 z50 z52 z53 z54 z55 z56 z57 z58 z59 z60
 have:=xcy ⟨⟨(yb z33),(jd z34),(qc z35),(vb z36),⟨z38.toNat,(jb z39)⟩,z40.toNat,z41.toNat⟩,⟨(qb z43)⟩,(gb z44),(je z45),(qd z46)⟩ ⟨z48.toNat,z49,z50.toNat,⟨z52.toNat,(uc z53),z54⟩,z55.toNat,z56.toNat,z57.toNat,(zk z58),(uc z59)⟩ z60.toNat hp
 rw [←hc0,←hc1,←hc2,←hc3,←hc4,←hc5,←hc6,←hc7,←hc8,←hc9,←hc10,←hc11,←hc12,←hc13,←hc14,←hc15,←hc16,←hc17,←hc18,←hc19,←hc20,←hc21]at this
 exact this
end Dm
namespace Dm
open Go Go.Proofs Go.IntWalk
theorem ybC:∀{l:List Tm} {o:Nat} {k:NK} {v:Int},(l.map nmT).Nodup→(alk k (bkO o l)=some v↔∃i,i<l.length∧nmT (l.getD i default)=k∧v=((o+i:Nat):Int))
 |[],o,k,v,_=>by simp [bkO,alk]
 |x::l,o,k,v,h=>by
  rw [List.map_cons,List.nodup_cons]at h
  rw [bkO,alk]
  by_cases hx:nmT x=k
  ·rw [if_pos hx]
   constructor
   ·intro e;cases e;exact⟨0,by simp,hx,rfl⟩
   ·rintro⟨i,hi,hk,rfl⟩
    cases i with
    |zero=>rfl
    |succ j=>
     refine absurd (List.mem_map.2 ⟨l.getD j default,va.2 ⟨j,by simpa using hi,rfl⟩, ?_⟩) h.1
     rw [List.getD_cons_succ]at hk
     rw [hk,hx]
  ·rw [if_neg hx,ybC h.2]
   constructor
   ·rintro⟨i,hi,hk,rfl⟩;exact⟨i+1,by simpa using hi,by rw [List.getD_cons_succ];exact hk,by omega⟩
   ·rintro⟨i,hi,hk,rfl⟩
    cases i with
    |zero=>exact absurd hk hx
    |succ j=>exact⟨j,by simpa using hi,by rw [List.getD_cons_succ]at hk;exact hk,by omega⟩
theorem vc8 {l:List Tm} {k:NK} {v:Int} (h:kH l):alk k (bkA l)=some v↔∃i,i<l.length∧nmT (l.getD i default)=k∧v=(i:Int):=by
 have:alk k (bkA l)=some v↔_:=ybC (l:=l) (o:=0) (k:=k) (v:=v) h.2.1
 simpa only [Nat.zero_add]using this
theorem ycr {l:List Tm} {k:NK} {v:Int} (h:kH l) (hv:alk k (bkA l)=some v):0≤v∧v<l.length:=by
 obtain⟨i,hi,_,rfl⟩:=(vc8 h).1 hv;omega
def ubb (l:List Tm) (key:Nat) (text:List UInt8) (ts:List (List UInt8)):Option Int:=goA (bkA l) (alk (key, -1,text) (bkA l)) ts
theorem ucP {l:List Tm} {key:Nat} {text x:List UInt8} {ts:List (List UInt8)}:ubb l key text (ts++[x])=goA (bkA l) (ubb l key text ts) [x]:=w5
theorem jdz {l:List Tm} (hl:kH l) {key:Nat} {text:List UInt8} {ts:List (List UInt8)} {v:Int} (h:ubb l key text ts=some v):0≤v∧v<l.length:=by
 have hg:∀{ts:List (List UInt8)} {a:Int},(0≤a∧a<l.length)→goA (bkA l) (some a) ts=some v→0≤v∧v<l.length:=by
  intro ts
  induction ts with
  |nil=>intro a ha h;cases h;exact ha
  |cons x ts ih=>
   intro a ha h
   rw [goA]at h
   cases e:alk (0,a,x) (bkA l)with
   |none=>rw [e,yo]at h;cases h
   |some b=>rw [e]at h;exact ih (ycr hl e) h
 unfold ubb at h
 cases e:alk (key, -1,text) (bkA l)with
 |none=>rw [e,yo]at h;cases h
 |some b=>rw [e]at h;exact hg (ycr hl e) h
theorem kcH {l:List Tm} {t:Tm} (h:(bh l t).2.2=0):kH l∧t.up<l.length∧t.text.length≤4096∧
 (((bh l t).1=l∧alk (nmT t) (bkA l)=some (bh l t).2.1)∨((bh l t).1=l++[t]∧alk (nmT t) (bkA l)=none∧(bh l t).2.1=(l.length:Int)∧l.length<1048576)):=by
 unfold bh at*
 split at h
 ·cases h
 rename_i h1
 rw [if_neg h1]
 have hok:kH l:=Classical.not_not.1 fun h=>h1 (.inl h)
 have hup:t.up<l.length:=by have:¬(l.length:Int)≤t.up:=fun h=>h1 (.inr h);omega
 split at h
 ·cases h
 rename_i h2
 rw [if_neg h2]
 refine⟨hok,hup,by omega, ?_⟩
 split at h
 ·rename_i v hv;exact .inl ⟨rfl,by rw [hv]⟩
 ·rename_i hv
  split at h
  ·cases h
  rename_i h4
  have:=hok.1
  rw [if_neg h4]
  exact .inr ⟨rfl,hv,rfl,by omega⟩
theorem gbM {l:List Tm} {t:Tm} (h:(bh l t).2.2=0) (ht: -1≤t.up∧(-1<t.up→t.key=0)):kH (bh l t).1:=by
 obtain⟨hok,hup,htx,⟨e,_⟩|⟨e,hn,_,hl⟩⟩:=kcH h
 ·rw [e];exact hok
 ·rw [e]
  refine⟨by rw [List.length_append,List.length_singleton];omega, ?_,fun i hi=> ?_⟩
  ·rw [List.map_append,List.nodup_append]
   refine⟨hok.2.1,by simp,fun x hx y hy=> ?_⟩
   simp at hy
   subst hy
   rintro rfl
   exact kbc.1 hn hx
  ·rw [List.mem_range,List.length_append,List.length_singleton]at hi
   by_cases hil:i<l.length
   ·rw [show(l++[t]).getD i default=l.getD i default by simp [List.getD_eq_getElem?_getD,List.getElem?_append_left hil]]
    exact hok.2.2 i (List.mem_range.2 hil)
   ·have:i=l.length:=by omega
    subst this
    rw [show(l++[t]).getD l.length default=t by simp]
    exact⟨ht.1,hup,ht.2,htx⟩
theorem wcH {l:List Tm} {t:Tm} {v:Int} (hl:kH l) (hv:alk (nmT t) (bkA l)=some v) (hup:t.up<l.length) (htx:t.text.length≤4096):bh l t=(l,v,0):=by
 rw [bh,if_neg (by rintro(h|h);exact h hl;omega),if_neg (by omega),hv]
end Dm
namespace Dm
open Go Go.Proofs Go.IntWalk
theorem ja2 (l:List Nat):(gm l).length≤l.length*9:=by
 have:=qad (l:=l) (i:=l.length)
 rwa [List.take_length]at this
theorem kcs (c:Cv):(qP c).length≤27:=by
 unfold qP
 split
 ·split
  ·have:=ja2 [c.kind.toNat,c.a,c.b];simpa using this
  ·have:=ja2 [c.kind.toNat,c.a];simp at this;omega
 ·simp
theorem kb3 {l:List Tm} {key root:Nat} {cs:List Cv} (h:kH l):ku l key (gm [root]) (cs.map qP)=match ubb l key (gm [root]) (cs.map qP)with|some i=>(i,0)|none=>(0,5):=by
 rw [ku,if_neg (fun h'=>h' h),if_neg]
 ·rfl
 ·rintro(h|⟨x,hx,h⟩)
  ·have:=ja2 [root];simp at this;omega
  ·obtain⟨c,_,rfl⟩:=List.mem_map.1 hx
   have:=kcs c;omega
theorem vcP {l:List Tm} {key:Nat} {t:Tk} (h:kH l) (ht:vaY t):yas l key t=(decide (ubb l key (gm [t.root]) (t.l.map qP)=some t.tag),0):=by
 rw [yas,if_neg (by rintro(h'|h');exact h' ht;exact h' h),kb3 h]
 congr 1
 rw [decide_eq_decide]
 cases ubb l key (gm [t.root]) (t.l.map qP)with
 |none=>exact⟨fun h=>absurd h.1 (by decide),fun h=>by cases h⟩
 |some i=>exact⟨fun h=>congrArg some h.2,fun h=>⟨rfl,by cases h;rfl⟩⟩
theorem vas {b:Bk}:yS b=0↔uac b.w=0∧kH b.a.l∧kak b.r∧kaH b.k=0∧vk b.s=0:=by
 have ha:ym b.a.l=0↔kH b.a.l:=by unfold ym zn;split<;>rename_i h<;>simp only [h]<;>decide
 have hr:wZ b.r=0↔kak b.r:=by unfold wZ;split<;>rename_i h<;>simp only [h]<;>decide
 unfold yS
 split
 ·rename_i h;exact⟨fun h'=>absurd h' h,fun h'=>h'.1⟩
 rename_i h1
 split
 ·rename_i h;exact⟨fun h'=>absurd h' h,fun h'=>ha.2 h'.2.1⟩
 rename_i h2
 split
 ·rename_i h;exact⟨fun h'=>absurd h' h,fun h'=>hr.2 h'.2.2.1⟩
 rename_i h3
 split
 ·rename_i h;exact⟨fun h'=>absurd h' h,fun h'=>h'.2.2.2.1⟩
 rename_i h4
 have d:∀{x:Int},¬x≠0→x=0:=fun h=>Classical.not_not.1 h
 exact⟨fun h=>⟨d h1,ha.1 (d h2),hr.1 (d h3),d h4,h⟩,fun h=>h.2.2.2.2⟩
theorem xc5 {r:Rq}:rqS r=0↔gbg r:=by unfold rqS;split<;>rename_i h<;>simp only [h]<;>decide
theorem ubY {r:Rq} (h:rqS r=0):(vao r).2=0∧(vao r).1≤4611686018427387904:=by
 have ho:=xc5.1 h
 rw [vao,if_pos h]
 obtain⟨_,hr,_⟩:=ho
 rw [xay]at hr
 simp only [List.all_cons,Bool.and_eq_true]at hr
 obtain⟨_,_,h4,_,h16,_⟩:=hr
 split
 ·rename_i h1
  rw [h1]at h4
  refine⟨rfl, ?_⟩
  rw [gq,if_neg (show¬kaY .i64 (zw 1) 4=0 by decide)]at h4
  have:=of_decide_eq_true h4
  exact(this.elim (fun h=>absurd h (show¬kaY .i64 (zw 1) 64=0 by decide)) id).2
 split
 ·rename_i h1
  rw [h1]at h16
  rw [gq,if_neg (show¬kaY .i64 (zw 2) 16=0 by decide)]at h16
  have h2:=of_decide_eq_true h16
  refine⟨h2, ?_⟩
  unfold jah at h2⊢
  split at h2
  ·rename_i h3
   rw [if_pos h3]
   split at h2
   ·rename_i h4;rw [if_pos h4];exact h4
   ·cases h2
  ·cases h2
 ·exact⟨rfl,by decide⟩
theorem zdz {b:Bk} {r:Rq} {who:Nat}:(uG b r who).2=0↔gbg r∧yS b=0:=by
 unfold uG
 split
 ·rename_i h
  refine⟨fun _=>⟨?_,h.2⟩,fun _=>rfl⟩
  have h1:=h.1
  unfold vao at h1
  split at h1
  ·rename_i h3;exact xc5.1 h3
  ·exact xc5.1 h1
 ·rename_i h
  exact⟨fun h=>absurd h (show¬(1:Int)=0 by decide),fun h'=>absurd ⟨(ubY (xc5.2 h'.1)).1,h'.2⟩ h⟩
theorem ydz {b:Bk} {r:Rq} {who:Nat} (h:gbg r) (hb:yS b=0):uG b r who=(⟨b.w.tick,r.method,(vao r).1,who⟩,0):=by
 rw [uG,if_pos ⟨(ubY (xc5.2 h)).1,hb⟩]
theorem ubW {b:Bk} {r:Rq} {who:Nat} (h:¬(gbg r∧yS b=0)):uG b r who=(⟨0,0,0,0⟩,1):=by
 rw [uG,if_neg]
 intro h'
 refine h (zdz (who:=who).1 ?_)
 rw [uG,if_pos h']
theorem zcD {r:Rq} {tick who:Nat} (h:gbg r):jbA ⟨tick,r.method,(vao r).1,who⟩=true:=
 decide_eq_true ⟨by have:=h.1.1;show 0≤r.method;omega,by have:=h.1.2;show r.method<16;omega,(ubY (xc5.2 h)).2⟩
def yew (l:List Ct) (root:Nat) (cav:List Cv) (n:Nat):Bool:=(cav.foldl xP []).all (fun x=>decide ((wg l root x.1:Int)+n≤4611686018427387904∧(wg l root x.1:Int)+n≤x.2))
theorem bcC {l:List Ct} {root:Nat} {cav:List Cv} {n:Nat} (h1:cav.length≤16) (h2:∀c∈cav,ko c=0) (h3:vk l=0) (h4:n≤4611686018427387904):uao l root cav n=(yew l root cav n,0):=by
 have hc:vZ cav=(cav.foldl xP [],0):=by rw [vZ,if_pos ⟨h1,List.all_eq_true.2 fun c hc=>decide_eq_true (h2 c hc)⟩]
 have hs:js l root cav n=if yew l root cav n=true then((cav.foldl xP []).map fun x=>(x.1,(wg l root x.1:Int)+n),0)else([],8):=by
  rw [js,hc,if_pos ⟨rfl,h3,h4⟩];rfl
 rw [uao,hs]
 cases yew l root cav n<;>rfl
theorem uc8 {l:List Cv} {u:Us} (h1:l.length≤16) (h2:∀c∈l,ko c=0) (h3:jbA u=true):kao l u=(l.all fun c=>gn c u,0):=by
 rw [kao,if_pos ⟨h1,h3,h2⟩]
end Dm
namespace Dm
open Go Go.Proofs Go.IntWalk
theorem gdu {t:Tk}:yac t=0↔vaY t:=by unfold yac;split<;>rename_i h<;>simp only [h]<;>decide
theorem wcs {b:Bk} {t:Tm} (hb:yS b=0) (h:(bh b.a.l t).2.2=0) (ht: -1≤t.up∧(-1<t.up→t.key=0)):yS {b with a:=⟨(bh b.a.l t).1⟩}=0:=by
 obtain⟨h1,_,h3⟩:=vas.1 hb
 exact vas.2 ⟨h1,gbM h ht,h3⟩
end Dm
namespace Dm
open Go Go.Proofs Go.IntWalk
def wdU (x:Iv) (tick:Nat):Int:=if x.state=1∧x.till<tick then 4 else x.state
@[go_sem] def xcm (x:Iv) (tick:Nat):D:= .int .i64 (wdU x tick)
@[go_sem] abbrev ufc:FuncId:=187
@[go_sem] def udf:Tab:=[]
theorem vbH:za Tryz.prog udf:=za.nil
theorem gcz (x:Iv) (tick:Nat):ja Tryz.prog 187 [.agg [.c (.int .u64 (x.hash:Int)), .c (.int .u64 (x.n:Int)), .c (.int .u64 (x.till:Int)), .c (.int .i64 x.state)], .c (.int .u64 (tick:Int))] (xcm x tick):=by
 refine .of (zeh vbH (Nat.le_of_ble_eq_true rfl) ?_)
 simp -implicitDefEqProofs only [cdA,go_sem,Go.Proofs.Tryz.f187,simprocAttr, -Int.reduceEq,List.cons.injEq,cdB]
 unfold wdU
 refine⟨fun h1=>⟨fun h2=> ?_,fun h2=> ?_⟩,fun h1=> ?_⟩
 ·rw [if_pos ⟨h1,by omega⟩]
 ·rw [if_neg (by rintro⟨_,h⟩;omega)]
 ·rw [if_neg (by rintro⟨h,_⟩;exact h1 h)]
def vaE:List D→Option (Prop×D×Fr)
 |[.agg [.c (.int .u64 z201), .c (.int .u64 z202), .c (.int .u64 z203), .c (.int .i64 z204)], .c (.int .u64 z205)]=>some (z201=(z201.toNat:Int)∧z202=(z202.toNat:Int)∧z203=(z203.toNat:Int)∧z205=(z205.toNat:Int),xcm (⟨z201.toNat,z202.toNat,z203.toNat,z204⟩:Iv) z205.toNat,[])
 |_=>none
attribute [go_sem] vaE
theorem zby:ga 187 vaE:=by
 intro rs p r fr h hp
 unfold vaE at h
 split at h<;>cases h
 obtain⟨hc0,hc1,hc2,hc3⟩:=hp
 rename_i z201 z202 z203 z204 z205
 have:=gcz ⟨z201.toNat,z202.toNat,z203.toNat,z204⟩ z205.toNat
 rw [←hc0,←hc1,←hc2,←hc3]at this
 exact this
@[go_sem] def wat (l:List Iv):D:= .vec 0 l.length
@[go_sem] def vaj (l:List Iv):Fr:=[(4,189,true,ivs l)]
@[go_sem] abbrev xcZ:FuncId:=129
@[go_sem] def jbp:Tab:=[]
theorem waB:za Tryz.prog jbp:=za.nil
theorem ga0 (l:List Iv) (hl:l.length≤1000000):zf Tryz.prog 129 [.sl (ivs l)] (wat l) (vaj l):=by
 refine .of (gc7 waB (Nat.le_of_ble_eq_true rfl) ?_)
 simp -implicitDefEqProofs only [cdA,go_sem,Go.Proofs.Tryz.f129,simprocAttr, -Int.reduceEq,List.cons.injEq,cdB]
 refine fun b hb=>⟨fun h=> ?_,fun h=> ?_⟩
 ·exact⟨[none],by simp [go_sem,hb h],by cases l<;>simp_all [go_sem,ivs]⟩
 ·exact⟨by omega,[some 0],by simp [go_sem]⟩
@[go_sem] def kbp (l:List Iv):Prop:=(l.length≤1000000)
def uD:List D→Option (Prop×D×Fr)
 |[.c (.sl z206)]=>some (z206=ivs (qc z206)∧kbp (qc z206),wat (qc z206),vaj (qc z206))
 |_=>none
attribute [go_sem] uD
theorem wap:ga 129 uD:=by
 intro rs p r fr h hp
 unfold uD at h
 split at h<;>cases h
 obtain⟨hc0,hp⟩:=hp
 rename_i z206
 have:=ga0 (qc z206) hp
 rw [←hc0]at this
 exact And.intro rfl this
def k6 (tick:Nat) (x:Iv):Bool:=decide (wdU x tick=4∨x.state=3)
def jq (l:List Iv) (tick:Nat):List Iv×Int:=if ya2 l then(l.filter fun x=> !k6 tick x,0)else([],1)
@[go_sem] def qbf (l:List Iv) (tick:Nat):D:= .tup [.sl (ivs (jq l tick).1), .int .i64 (jq l tick).2]
@[go_sem] abbrev udQ:FuncId:=100
@[go_sem] def xb6:Tab:=[(160,vJ),(187,vaE),(129,uD)]
theorem kf:za Tryz.prog xb6:=(za.cons zab (za.cons zby (za.cons wap za.nil)))
theorem ybI (l:List Iv) (tick:Nat):ja Tryz.prog 100 [.sl (ivs l), .c (.int .u64 (tick:Int))] (qbf l tick):=by
 refine .of (gd9 kf (Nat.le_of_ble_eq_true rfl) ?_)
 simp -implicitDefEqProofs only [cdA,go_sem,Go.Proofs.Tryz.f100,simprocAttr, -Int.reduceEq,List.cons.injEq,cdB]
 have hcz:wao l=0↔ya2 l:=by unfold wao;split<;>rename_i h<;>simp only [h]<;>decide
 refine⟨fun h0=> ?_,fun h0=>by
  have hno:¬ya2 l:=fun h=>h0 (hcz.2 h)
  rw [jq,wao,if_neg hno,if_neg hno];exact⟨rfl,rfl⟩⟩
 have hok:=hcz.1 h0
 have h256:=hok.1
 refine⟨by omega, ?_⟩
 refine jk.sld ?_
 refine x9 (n:=42) (fn:=Tryz.f188) (by kernel_rfl) rfl rfl rfl (Nat.le_of_ble_eq_true rfl) (rs:=[.tmp 4]) rfl ?_
 refine SWm.seq (SWm.awp kf.toS xaM rfl ?_)
 simp -implicitDefEqProofs only [cdA,go_sem,simprocAttr, -Int.reduceEq,List.cons.injEq,cdB]
 refine SWm.seq (SWm.awp kf.toS xaM rfl ?_)
 simp -implicitDefEqProofs only [cdA,go_sem,simprocAttr, -Int.reduceEq,List.cons.injEq,cdB]
 refine qel kf (Nat.le_of_ble_eq_true rfl) ?_
 simp -implicitDefEqProofs only [cdA,go_sem,Go.Proofs.Tryz.f240,simprocAttr, -Int.reduceEq,List.cons.injEq,cdB]
 refine fun _=>SWp.loop (ι:={i:Nat // i≤l.length∧∀j,j<i→k6 tick (l.getD j default)=false}) (fun i=>⟨[(0, .vec 1 l.length),(1, .fn (.func 186) [] [.ref 0 0]),(7, .int .i64 l.length),(8, .int .i64 i.1)],
  [(1, .vec true 4 189 (ivs l)),(0, .box [.c (.int .u64 tick)])],2⟩) (fun i=>l.length - i.1) ⟨0,by simp⟩ ?_ ?_
 ·simp [go_sem]
 ·rintro⟨i,hi,hall⟩
  refine ya kf.toS wdk _ _ _ rfl ?_
  simp -implicitDefEqProofs only [cdA,go_sem,simprocAttr, -Int.reduceEq,List.cons.injEq,cdB]
  refine⟨fun h4=>⟨by omega,by omega, ?_⟩,fun h4=> ?_⟩
  ·skip
   refine zc8 kf (Nat.le_of_ble_eq_true rfl) ?_
   simp -implicitDefEqProofs only [cdA,go_sem,Go.Proofs.Tryz.f186,simprocAttr, -Int.reduceEq,List.cons.injEq,cdB]
   have hi':i<l.length:=by omega
   have hov:∀x:Iv,k6 tick x=true↔wdU x tick=4∨x.state=3:=fun x=>decide_eq_true_iff
   have hb0:k6 tick (l.getD i default)=true→l.take i=(l.take (i+1)).filter (fun y=> !k6 tick y):=fun hv=>by
    rw [take_succ hi',List.filter_append,List.filter_eq_self.2 (fun x hx=> ?_),List.filter_cons_of_neg (by rw [hv];decide),List.filter_nil,List.append_nil]
    obtain⟨j,hj,rfl⟩:=va.1 hx
    rw [List.length_take]at hj
    rw [List.getD_eq_getElem?_getD,List.getElem?_take_of_lt (by omega),←List.getD_eq_getElem?_getD,hall j (by omega)];rfl
   refine⟨fun h1=>⟨fun h2=> ?_,fun h2=>⟨⟨i+1,by omega,fun j hj=> ?_⟩,by dsimp only;omega,i64_in _ (by omega)⟩⟩,fun h1=> ?_⟩
   rotate_left 1
   ·by_cases hji:j=i
    ·subst hji
     have:¬k6 tick (l.getD j default)=true:=fun h=>by
      rcases(hov _).1 h with h|h
      ·exact h1 h
      ·exact h2 h
     simpa using this
    ·exact hall j (by omega)
   all_goals
    have hb1:=hb0 ((hov _).2 (by first|exact .inl h1|exact .inr h2))
    refine SWm.seq (SWm.awp kf.toS xaM rfl ?_)
    simp -implicitDefEqProofs only [cdA,go_sem,simprocAttr, -Int.reduceEq,List.cons.injEq,cdB]
    refine⟨fun h=>h.elim, ?_⟩
    refine SWm.seq (SWm.seq (SWm.awp kf.toS xaM rfl ?_))
    simp -implicitDefEqProofs only [cdA,go_sem,simprocAttr, -Int.reduceEq,List.cons.injEq,cdB]
    rw [i64_in _ (by omega)]
    refine SWm.block (SWm.of (SWp.loop (ι:={x:Nat×Nat×List Iv // x.1<x.2.1∧x.2.1≤l.length∧x.2.2.length=l.length∧x.2.2.take x.1=(l.take x.2.1).filter (fun y=> !k6 tick y)∧x.2.2.drop x.2.1=l.drop x.2.1})
     (fun x=>⟨[(0, .vec 1 l.length),(1, .fn (.func 186) [] [.ref 0 0]),(5, .int .i64 x.1.1),(6, .int .i64 x.1.2.1)],
      [(2, .box [.c (.int .u64 (l.getD i default).hash), .c (.int .u64 (l.getD i default).n), .c (.int .u64 (l.getD i default).till), .c (.int .i64 (l.getD i default).state)]),(1, .vec true 4 189 (ivs x.1.2.2)),(0, .box [.c (.int .u64 tick)])],3⟩) (fun x=>l.length - x.1.2.1) ⟨(i,i+1,l),by dsimp only;omega,by dsimp only;omega,rfl,hb1,rfl⟩ ?_ ?_))
   all_goals first|(simp [go_sem];done)|skip
   all_goals
    rintro⟨⟨k,j,m⟩,hkj,hj,hml,hmt,hmd⟩
    refine ya kf.toS xaM _ _ _ rfl ?_
    simp -implicitDefEqProofs only [cdA,go_sem,simprocAttr, -Int.reduceEq,List.cons.injEq,cdB]
    dsimp only at hkj hj hml hmt hmd
    refine fun _=>⟨fun h5=>⟨by omega,⟨hml.symm,by omega⟩, ?_⟩,fun h5=> ?_⟩
    ·skip
     refine zc8 kf (Nat.le_of_ble_eq_true rfl) ?_
     simp -implicitDefEqProofs only [cdA,go_sem,Go.Proofs.Tryz.f186,simprocAttr, -Int.reduceEq,List.cons.injEq,cdB]
     have hj':j<l.length:=by omega
     have hmj:m.getD j default=l.getD j default:=by
      have h6:(m.drop j)[0]? =(l.drop j)[0]? :=by rw [hmd]
      rw [List.getElem?_drop,List.getElem?_drop,Nat.add_zero]at h6
      rw [List.getD_eq_getElem?_getD,h6,←List.getD_eq_getElem?_getD]
     have hmd2:m.drop (j+1)=l.drop (j+1):=by
      rw [←List.drop_drop,hmd,List.drop_drop]
     have hgo:k6 tick (l.getD j default)=true→m.take k=(l.take (j+1)).filter (fun y=> !k6 tick y):=fun hv=>by
      rw [take_succ hj',List.filter_append,List.filter_cons_of_neg (by rw [hv];decide),List.filter_nil,List.append_nil,hmt]
     have hkeep:¬k6 tick (l.getD j default)=true→(m.set k (l.getD j default)).take (k+1)=(l.take (j+1)).filter (fun y=> !k6 tick y):=fun hv=>by
      rw [take_succ hj',List.filter_append,List.filter_cons_of_pos (by simpa using hv),List.filter_nil,←hmt,List.take_set,take_succ (by omega),List.set_append_right _ _ (by rw [List.length_take];omega),List.length_take,show k - min k m.length=0 by omega]
      rfl
     rw [hmj]
     refine⟨fun h6=>⟨fun h7=>⟨⟨(k,j+1,m),by dsimp only;omega,hj',hml,hgo ((hov _).2 (.inr h7)),hmd2⟩,by dsimp only;omega,⟨rfl,i64_in _ (by omega)⟩,rfl⟩,fun h7=>⟨by omega,⟨hml.symm,by omega⟩,⟨(k+1,j+1,m.set k (l.getD j default)),by dsimp only;omega,hj',by dsimp only;rw [List.length_set];exact hml,hkeep (fun h=>by rcases(hov _).1 h with h|h<;>first|exact h6 h|exact h7 h), ?_⟩,by dsimp only;omega,⟨i64_in _ (by omega),i64_in _ (by omega)⟩,rfl⟩⟩,
      fun h6=>⟨⟨(k,j+1,m),by dsimp only;omega,hj',hml,hgo ((hov _).2 (.inl h6)),hmd2⟩,by dsimp only;omega,⟨rfl,i64_in _ (by omega)⟩,rfl⟩⟩
     dsimp only
     rw [List.drop_set_of_lt (by omega)];exact hmd2
    ·have hj':j=l.length:=by omega
     subst hj'
     refine SWm.opn 1 rfl fun cp hc hcm=> ?_
     rw [uat]at hc
     refine SWm.awp kf.toS xaM rfl ?_
     simp -implicitDefEqProofs only [cdA,go_sem,List.map_cons,List.map_nil,hml,eq_self,simprocAttr, -Int.reduceEq,List.cons.injEq,cdB]
     have hsw:jq l tick=(m.take k,0):=by rw [jq,if_pos hok,hmt,List.take_length]
     have hkl:(m.take k).length=k:=by rw [List.length_take];omega
     have hfin:∀Z:List (List C),List.take k (fit cp 4 (List.take k (fit cp 4 (ivs m))++Z))=ivs (m.take k):=fun Z=>by
      rw [bac (by rw [List.length_append,List.length_take,jf];omega) (by omega),List.take_append_of_le_length (by rw [List.length_take,jf];omega),List.take_take,Nat.min_self,bac (by rw [uat];omega) (by omega)]
      simp [ivs,List.map_take]
     rw [hfin,hsw]
     exact⟨by omega,by omega,⟨hkl.symm,_,_,_,rfl⟩,rfl⟩
  ·have hi':i=l.length:=by omega
   subst hi'
   have hsw:jq l tick=(l,0):=by
    rw [jq,if_pos hok,List.filter_eq_self.2 fun x hx=> ?_]
    obtain⟨j,hj,rfl⟩:=va.1 hx
    rw [hall j (by omega)];rfl
   refine SWm.seq (SWm.awp kf.toS xaM rfl ?_)
   simp -implicitDefEqProofs only [cdA,go_sem,simprocAttr, -Int.reduceEq,List.cons.injEq,cdB]
   rw [hsw]
   exact⟨⟨rfl,_,_,_,rfl⟩,rfl⟩
def qV:List D→Option (Prop×D×Fr)
 |[.c (.sl z207), .c (.int .u64 z208)]=>some (z207=ivs (qc z207)∧z208=(z208.toNat:Int),qbf (qc z207) z208.toNat,[])
 |_=>none
attribute [go_sem] qV
theorem zaU:ga 100 qV:=by
 intro rs p r fr h hp
 unfold qV at h
 split at h<;>cases h
 obtain⟨hc0,hc1⟩:=hp
 rename_i z207 z208
 have:=ybI (qc z207) z208.toNat
 rw [←hc0,←hc1]at this
 exact this
end Dm
namespace Dm
open Go Go.Proofs Go.IntWalk
theorem jbk {w:Wl} (h:okW w):xU w:=by
 obtain⟨h1,h2,h3,h4,_⟩:=h
 have h7:=h3.2.2.1
 refine⟨by have:=h1.1;omega,fun c hc=>by have:=(h1.2.1 c hc).2.2.1;omega,by omega,by have:=h2.1;omega, ?_,by omega⟩
 rename_i h8
 have h9:=h8.2.2.2
 have:uaN w.p:=by
  unfold kac at h9
  split at h9
  ·rename_i h;exact h.1
  ·cases h9
 have:=this.1;omega
theorem qcg {l:List Iv} {tick:Nat} (h:(jq l tick).2=0):ya2 l∧ya2 (jq l tick).1∧(jq l tick).1=l.filter fun x=> !k6 tick x:=by
 unfold jq at h⊢
 split at h
 ·rename_i h1
  rw [if_pos h1]
  have hs:(l.filter fun x=> !k6 tick x).Sublist l:=List.filter_sublist
  refine⟨h1,⟨Nat.le_trans hs.length_le h1.1,fun x hx=>h1.2.1 x (hs.subset hx), ?_⟩,rfl⟩
  exact(Srt.kai (lt:=ltN) Srt.zH).2 (List.Pairwise.sublist hs ((Srt.kai (lt:=ltN) Srt.zH).1 h1.2.2))
 ·cases h
theorem udL:((1:Int)=0)=False:=eq_false (by decide)
def zbY:Wl:=⟨[],[],[],[],⟨0,[]⟩,0,0⟩
theorem vcz:((13:Int)=0)=False:=eq_false (by decide)
def bcP (v:Wl) (t:Nat):Int:=if¬okW v then 1 else if t<v.tick then 13 else 0
def jao (v:Wl) (t:Nat):Wl×Int:=if bcP v t=0 then({v with i:=(jq v.i t).1,tick:=t},0)else(zbY,bcP v t)
@[go_sem] def gbl (v:Wl) (t:Nat):D:= .tup [.agg [.sl (chs (jao v t).1.c), .sl (wts (jao v t).1.w), .sl (ivs (jao v t).1.i), .sl (pys (jao v t).1.p), .int .u64 (jao v t).1.f.next, .sl (evs (jao v t).1.f.l), .int .u64 (jao v t).1.next, .int .u64 (jao v t).1.tick], .int .i64 (jao v t).2]
@[go_sem] abbrev qdU:FuncId:=34
@[go_sem] def gch:Tab:=[(82,wK),(100,qV),(189,uaG)]
theorem qe:za Tryz.prog gch:=(za.cons wab (za.cons zaU (za.cons zbz za.nil)))
theorem kbX (v:Wl) (t:Nat) (h:v.f.next≤18446744073709551615):ja Tryz.prog 34 [.agg [.sl (chs v.c), .sl (wts v.w), .sl (ivs v.i), .sl (pys v.p), .c (.int .u64 (v.f.next:Int)), .sl (evs v.f.l), .c (.int .u64 (v.next:Int)), .c (.int .u64 (v.tick:Int))], .c (.int .u64 (t:Int))] (gbl v t):=by
 refine .of (xfl qe (Nat.le_of_ble_eq_true rfl) ?_)
 simp -implicitDefEqProofs only [cdA,go_sem,Go.Proofs.Tryz.f34,simprocAttr, -Int.reduceEq,List.cons.injEq,cdB]
 refine kfq qe (Nat.le_of_ble_eq_true rfl) ?_
 simp -implicitDefEqProofs only [cdA,go_sem,Go.Proofs.Tryz.f96,simprocAttr, -Int.reduceEq,List.cons.injEq,cdB]
 refine xb.run bdy qe qa (by kernel_rfl) (by kernel_rfl) ?_
 simp -implicitDefEqProofs only [cdA,go_sem,simprocAttr, -Int.reduceEq,List.cons.injEq,cdB]
 refine⟨h, ?_⟩
 have hbad:∀e:Int,bcP v t=e→¬e=0→(chs (jao v t).1.c=[]∧wts (jao v t).1.w=[]∧ivs (jao v t).1.i=[]∧pys (jao v t).1.p=[]∧0=((jao v t).1.f.next:Int)∧evs (jao v t).1.f.l=[]∧0=((jao v t).1.next:Int)∧0=((jao v t).1.tick:Int))∧e=(jao v t).2:=fun e h1 h2=>by
  have:jao v t=(zbY,e):=by rw [jao,if_neg (by rw [h1];exact h2),h1]
  rw [this];exact⟨⟨rfl,rfl,rfl,rfl,rfl,rfl,rfl,rfl⟩,rfl⟩
 by_cases hok:okW v
 rotate_left 1
 ·have hc1:uac v=1:=by rw [uac,if_neg hok]
  rw [hc1]
  refine zen qe (Nat.le_of_ble_eq_true rfl) ?_
  simp -implicitDefEqProofs only [cdA,go_sem,Go.Proofs.Tryz.f97,udL,cdN,simprocAttr, -Int.reduceEq,List.cons.injEq,cdB]
  refine yen qe (Nat.le_of_ble_eq_true rfl) ?_
  simp -implicitDefEqProofs only [cdA,go_sem,Go.Proofs.Tryz.f98,udL,cdN,simprocAttr, -Int.reduceEq,List.cons.injEq,cdB]
  refine ucq qe (Nat.le_of_ble_eq_true rfl) ?_
  simp -implicitDefEqProofs only [cdA,go_sem,Go.Proofs.Tryz.f101,udL,cdN,simprocAttr, -Int.reduceEq,List.cons.injEq,cdB]
  refine xb.run kbW qe qa (by kernel_rfl) (by kernel_rfl) ?_
  simp -implicitDefEqProofs only [cdA,go_sem,udL,cdN,simprocAttr, -Int.reduceEq,List.cons.injEq,cdB]
  exact hbad 1 (by rw [bcP,if_pos hok]) (by decide)
 have hck:uac v=0:=zck.2 hok
 rw [hck]
 by_cases hl:v.tick≤t
 rotate_left 1
 ·have hl':((v.tick:Int)≤t)=False:=eq_false (by omega)
  refine zen qe (Nat.le_of_ble_eq_true rfl) ?_
  simp -implicitDefEqProofs only [cdA,go_sem,Go.Proofs.Tryz.f97,hl',decide_false,cdN,simprocAttr, -Int.reduceEq,List.cons.injEq,cdB]
  refine yen qe (Nat.le_of_ble_eq_true rfl) ?_
  simp -implicitDefEqProofs only [cdA,go_sem,Go.Proofs.Tryz.f98,vcz,cdN,simprocAttr, -Int.reduceEq,List.cons.injEq,cdB]
  refine ucq qe (Nat.le_of_ble_eq_true rfl) ?_
  simp -implicitDefEqProofs only [cdA,go_sem,Go.Proofs.Tryz.f101,vcz,cdN,simprocAttr, -Int.reduceEq,List.cons.injEq,cdB]
  refine xb.run kbW qe qa (by kernel_rfl) (by kernel_rfl) ?_
  simp -implicitDefEqProofs only [cdA,go_sem,vcz,cdN,simprocAttr, -Int.reduceEq,List.cons.injEq,cdB]
  exact hbad 13 (by rw [bcP,if_neg (fun h=>h hok),if_pos (by omega)]) (by decide)
 have hl':((v.tick:Int)≤t)=True:=eq_true (by omega)
 have hsw:(jq v.i t).2=0:=by rw [jq,if_pos hok.2.1]
 refine zen qe (Nat.le_of_ble_eq_true rfl) ?_
 simp -implicitDefEqProofs only [cdA,go_sem,Go.Proofs.Tryz.f97,hl',decide_true,cdN,simprocAttr, -Int.reduceEq,List.cons.injEq,cdB]
 refine yen qe (Nat.le_of_ble_eq_true rfl) ?_
 simp -implicitDefEqProofs only [cdA,go_sem,Go.Proofs.Tryz.f98,hsw,cdN,simprocAttr, -Int.reduceEq,List.cons.injEq,cdB]
 refine vfq qe (Nat.le_of_ble_eq_true rfl) ?_
 simp -implicitDefEqProofs only [cdA,go_sem,Go.Proofs.Tryz.f99,hsw,cdN,simprocAttr, -Int.reduceEq,List.cons.injEq,cdB]
 have hsm:xU ⟨v.c,v.w,(jq v.i t).1,v.p,v.f,v.next,t⟩:=by
  have h2:=jbk hok
  have h3:=(qcg hsw).2.1.1
  exact⟨h2.1,h2.2.1,h2.2.2.1,by show(jq v.i t).1.length≤_;omega,h2.2.2.2.2.1,h2.2.2.2.2.2⟩
 have hfin:jao v t=(⟨v.c,v.w,(jq v.i t).1,v.p,v.f,v.next,t⟩,0):=by
  have:bcP v t=0:=by rw [bcP,if_neg (fun h=>h hok),if_neg (by omega)]
  rw [jao,if_pos this]
 refine ucq qe (Nat.le_of_ble_eq_true rfl) ?_
 simp -implicitDefEqProofs only [cdA,go_sem,Go.Proofs.Tryz.f101,eq_true hsm,cdN,simprocAttr, -Int.reduceEq,List.cons.injEq,cdB]
 rw [hfin]
 exact⟨⟨rfl,rfl,rfl,rfl,rfl,rfl,rfl,rfl⟩,rfl⟩
@[go_sem] def bch (v:Wl) (t:Nat):Prop:=(v.f.next≤18446744073709551615)
def bY:List D→Option (Prop×D×Fr)
 |[.agg [.c (.sl z604), .c (.sl z605), .c (.sl z606), .c (.sl z607), .c (.int .u64 z609), .c (.sl z610), .c (.int .u64 z611), .c (.int .u64 z612)], .c (.int .u64 z613)]=>some (z604=chs (yb z604)∧z605=wts (jd z605)∧z606=ivs (qc z606)∧z607=pys (vb z607)∧z609=(z609.toNat:Int)∧z610=evs (jb z610)∧z611=(z611.toNat:Int)∧z612=(z612.toNat:Int)∧z613=(z613.toNat:Int)∧bch (⟨(yb z604),(jd z605),(qc z606),(vb z607),(⟨z609.toNat,(jb z610)⟩:Fd),z611.toNat,z612.toNat⟩:Wl) z613.toNat,gbl (⟨(yb z604),(jd z605),(qc z606),(vb z607),(⟨z609.toNat,(jb z610)⟩:Fd),z611.toNat,z612.toNat⟩:Wl) z613.toNat,[])
 |_=>none
attribute [go_sem] bY
theorem jaW:ga 34 bY:=by
 intro rs p r fr h hp
 unfold bY at h
 split at h<;>cases h
 obtain⟨hc0,hc1,hc2,hc3,hc4,hc5,hc6,hc7,hc8,hp⟩:=hp
 rename_i z604 z605 z606 z607 z609 z610 z611 z612 z613
 have:=kbX ⟨(yb z604),(jd z605),(qc z606),(vb z607),⟨z609.toNat,(jb z610)⟩,z611.toNat,z612.toNat⟩ z613.toNat hp
 rw [←hc0,←hc1,←hc2,←hc3,←hc4,←hc5,←hc6,←hc7,←hc8]at this
 exact this
end Dm
namespace Dm
open Go Go.Proofs Go.IntWalk
def qaI (l:List Rk) (id key:Nat):Int:=if¬kak l then 1 else if Srt.thr Rk.id ltN l id=true∨qZ l key=true then 6 else if l.length=64 then 7 else 0
def zh (l:List Rk) (id key:Nat):List Rk×Int:=if qaI l id key=0 then(Srt.ins l (Srt.pos Rk.id ltN l id) ⟨id,key,false⟩,0)else([],qaI l id key)
def wB:Bk:=⟨zbY,⟨[]⟩,[],[],[]⟩
def ud (b:Bk) (id key:Nat) (l:List Rk×Int):Bk×Tk×Int:=
 if yS b≠0 then(wB,⟨0,[],0⟩,yS b)else if l.2≠0 then(wB,⟨0,[],0⟩,l.2)else
 if(bh b.a.l ⟨key, -1,gm [id]⟩).2.2≠0 then(wB,⟨0,[],0⟩,(bh b.a.l ⟨key, -1,gm [id]⟩).2.2)else
 (⟨b.w,⟨(bh b.a.l ⟨key, -1,gm [id]⟩).1⟩,l.1,b.k,b.s⟩,⟨id,[],(bh b.a.l ⟨key, -1,gm [id]⟩).2.1⟩,0)
def vq (b:Bk) (id:Nat):Bk×Int:=
 if yS b≠0 then(wB,yS b)else if(waH b.r id).2≠0 then(wB,(waH b.r id).2)else(⟨b.w,b.a,(waH b.r id).1,b.k,b.s⟩,0)
end Dm
namespace Dm
open Go Go.Proofs Go.IntWalk
theorem kce {l:List Rk} (h:kak l):Srt.Up Rk.id ltN l:=(Srt.kai (lt:=ltN) Srt.zH).1 h.2.1
theorem vb4 {l:List Rk} {id:Nat} (h:(vp l id).2=0) {x:Rk} (hx:x.id=id):kak l∧l.set (Srt.pos Rk.id ltN l id) x=Srt.put Rk.id ltN l x∧(∀y,y∈Srt.put Rk.id ltN l x↔y=x∨(y∈l∧y.id≠id))∧
 Srt.pos Rk.id ltN l id<l.length∧(l.getD (Srt.pos Rk.id ltN l id) default).id=id:=by
 obtain⟨hok,e1,g3,g4,g5⟩:=vr h
 have hu:=kce hok
 rw [e1]at g3 g4
 have ht:Srt.thr Rk.id ltN l id=true:=(Srt.baG (lt:=ltN) Srt.zH hu).2 ⟨_,va.2 ⟨_,g3,rfl⟩,g4⟩
 refine⟨hok, ?_,fun y=> ?_,g3,g4⟩
 ·rw [Srt.put,hx,if_pos ht]
 ·rw [Srt.xbK (lt:=ltN) Srt.zH hu,hx]
end Dm
namespace Dm
open Go Go.Proofs Go.IntWalk
@[go_sem] def gbh (p:Py):D:= .bool (decide (zP p))
@[go_sem] abbrev kdR:FuncId:=230
@[go_sem] def qca:Tab:=[(152,gi)]
theorem ja3:za Tryz.prog qca:=(za.cons zj za.nil)
theorem qbN (p:Py):ja Tryz.prog 230 [.agg [.c (.int .u64 (p.id:Int)), .c (.int .u64 (p.hash:Int)), .c (.int .u64 (p.chan:Int)), .c (.int .u64 (p.n:Int)), .c (.int .i64 p.state)]] (gbh p):=by
 refine .of (jek ja3 (Nat.le_of_ble_eq_true rfl) ?_)
 simp -implicitDefEqProofs only [cdA,go_sem,Go.Proofs.Tryz.f230,simprocAttr, -Int.reduceEq,List.cons.injEq,cdB]
 have hm:bO [p.n]=0↔p.n≤MM:=gG
 rw [hm]
 have ho:zP p↔(p.n≠0∧p.n≤MM)∧1≤p.state∧p.state≤3:= .rfl
 rw [show decide (zP p)=decide ((p.n≠0∧p.n≤MM)∧1≤p.state∧p.state≤3)from decide_eq_decide.2 ho]
 refine⟨fun h=>⟨fun h2=>⟨fun h3=> ?_,fun h3=> ?_⟩,fun h2=> ?_⟩,fun h=> ?_⟩
 ·rw [decide_eq_decide];exact⟨fun h4=>⟨⟨by omega,h2⟩,h3,h4⟩,fun h4=>h4.2.2⟩
 ·exact(decide_eq_false fun h4=>h3 h4.2.1).symm
 ·exact(decide_eq_false fun h4=>h2 h4.1.2).symm
 ·exact(decide_eq_false fun h4=>h4.1.1 (by omega)).symm
def yW:List D→Option (Prop×D×Fr)
 |[.agg [.c (.int .u64 z2), .c (.int .u64 z3), .c (.int .u64 z4), .c (.int .u64 z5), .c (.int .i64 z6)]]=>some (z2=(z2.toNat:Int)∧z3=(z3.toNat:Int)∧z4=(z4.toNat:Int)∧z5=(z5.toNat:Int),gbh (⟨z2.toNat,z3.toNat,z4.toNat,z5.toNat,z6⟩:Py),[])
 |_=>none
attribute [go_sem] yW
theorem waU:ga 230 yW:=by
 intro rs p r fr h hp
 unfold yW at h
 split at h<;>cases h
 obtain⟨hc0,hc1,hc2,hc3⟩:=hp
 rename_i z2 z3 z4 z5 z6
 have:=qbN ⟨z2.toNat,z3.toNat,z4.toNat,z5.toNat,z6⟩
 rw [←hc0,←hc1,←hc2,←hc3]at this
 exact this
@[go_sem] def bav (l:List Py):D:= .int .i64 (bbc l)
@[go_sem] abbrev xc0:FuncId:=169
@[go_sem] def qbr:Tab:=[(230,yW)]
theorem wC:za Tryz.prog qbr:=(za.cons waU za.nil)
theorem xa3 (l:List Py):ja Tryz.prog 169 [.sl (pys l)] (bav l):=by
 refine .of (kef wC (Nat.le_of_ble_eq_true rfl) ?_)
 simp -implicitDefEqProofs only [cdA,go_sem,Go.Proofs.Tryz.f169,simprocAttr, -Int.reduceEq,List.cons.injEq,cdB]
 have hbad:¬uaN l→1=bbc l:=fun h=>by rw [bbc,if_neg h]
 refine fun _=>⟨fun h=>hbad fun ho=> ?_,fun h _=> ?_⟩
 ·have:=ho.1;omega
 refine SWp.loop (ι:={i:Nat // i≤l.length∧(∀j,j<i→zP (l.getD j default)∧(0<j→(l.getD (j - 1) default).id<(l.getD j default).id))}) (fun i=>⟨[(0, .sl (pys l)),(8, .sl (pys l)),(9, .int .i64 l.length),(10, .int .i64 i.1)],[],0⟩) (fun i=>l.length - i.1) ⟨0,by simp⟩ ?_ ?_
 ·simp [go_sem]
 ·rintro⟨i,hi,hall⟩
  refine ya wC.toS qdi _ _ _ rfl ?_
  simp -implicitDefEqProofs only [cdA,go_sem,simprocAttr, -Int.reduceEq,List.cons.injEq,cdB]
  refine⟨fun h1=>⟨by omega, ?_⟩,fun h1=> ?_⟩
  ·refine xb.run kcN wC qa (by kernel_rfl) (by kernel_rfl) ?_
   simp -implicitDefEqProofs only [cdA,go_sem,simprocAttr, -Int.reduceEq,List.cons.injEq,cdB]
   have hi':i<l.length:=by omega
   have hm:uaN l→zP (l.getD i default):=fun h=>h.2.1 _ (va.2 ⟨i,hi',rfl⟩)
   have hnext:(0<i→(l.getD (i - 1) default).id<(l.getD i default).id)→zP (l.getD i default)→∃i_1:{i:Nat // i≤l.length∧(∀j,j<i→zP (l.getD j default)∧(0<j→(l.getD (j - 1) default).id<(l.getD j default).id))},l.length - i_1.val<l.length - i∧IntKind.i64.wrap ((i:Int)+1)=i_1.val:=fun ho h2=>by
    refine⟨⟨i+1,hi',fun j hj=> ?_⟩,by dsimp only;omega,i64_in _ (by omega)⟩
    by_cases hji:j=i
    ·subst hji;exact⟨h2,ho⟩
    ·exact hall j (by omega)
   refine⟨fun h3=> ?_,fun h3=>⟨hnext fun h=>absurd h (by omega),fun h4=>hbad fun h=>h4 (hm h)⟩⟩
   rw [i64_in _ (by omega),show((i:Int) - 1).toNat=i - 1 by omega]
   exact⟨by omega,fun h4=>⟨hnext fun _=>by omega,fun h5=>hbad fun h=>h5 (hm h)⟩,fun h4=>hbad fun h=>by have:=h.2.2 i hi' (by omega);simp only [ltN]at this;omega⟩
  ·have hi':i=l.length:=by omega
   subst hi'
   rw [bbc,if_pos]
   exact⟨by omega,fun x hx=>by obtain⟨j,hj,rfl⟩:=va.1 hx;exact(hall j hj).1,fun j hj h0=>(hall j hj).2 h0⟩
def bu:List D→Option (Prop×D×Fr)
 |[.c (.sl z7)]=>some (z7=pys (vb z7),bav (vb z7),[])
 |_=>none
attribute [go_sem] bu
theorem zQ:ga 169 bu:=by
 intro rs p r fr h hp
 unfold bu at h
 split at h<;>cases h
 have hc0:=hp
 rename_i z7
 have:=xa3 (vb z7)
 rw [←hc0]at this
 exact this
end Dm
namespace Dm
open Go Go.Proofs Go.IntWalk
@[go_sem] def wav (l:List Iv):D:= .int .i64 (wao l)
@[go_sem] abbrev gcZ:FuncId:=168
@[go_sem] def bbq:Tab:=[(152,gi)]
theorem kC:za Tryz.prog bbq:=(za.cons zj za.nil)
theorem ba2 (l:List Iv):ja Tryz.prog 168 [.sl (ivs l)] (wav l):=by
 refine .of (jef kC (Nat.le_of_ble_eq_true rfl) ?_)
 simp -implicitDefEqProofs only [cdA,go_sem,Go.Proofs.Tryz.f168,simprocAttr, -Int.reduceEq,List.cons.injEq,cdB]
 have hbad:¬ya2 l→1=wao l:=fun h=>by rw [wao,if_neg h]
 refine fun _=>⟨fun h=>hbad fun ho=> ?_,fun h _=> ?_⟩
 ·have:=ho.1;omega
 refine SWp.loop (ι:={i:Nat // i≤l.length∧(∀j,j<i→uaC (l.getD j default)∧(0<j→(l.getD (j - 1) default).hash<(l.getD j default).hash))}) (fun i=>⟨[(0, .sl (ivs l)),(8, .sl (ivs l)),(9, .int .i64 l.length),(10, .int .i64 i.1)],[],0⟩) (fun i=>l.length - i.1) ⟨0,by simp⟩ ?_ ?_
 ·simp [go_sem]
 ·rintro⟨i,hi,hall⟩
  refine ya kC.toS xdi _ _ _ rfl ?_
  simp -implicitDefEqProofs only [cdA,go_sem,simprocAttr, -Int.reduceEq,List.cons.injEq,cdB]
  refine⟨fun h1=>⟨by omega, ?_⟩,fun h1=> ?_⟩
  ·refine xb.run jcN kC qa (by kernel_rfl) (by kernel_rfl) ?_
   simp -implicitDefEqProofs only [cdA,go_sem,simprocAttr, -Int.reduceEq,List.cons.injEq,cdB]
   have hi':i<l.length:=by omega
   have hmn:bO [(l.getD i default).n]=0↔(l.getD i default).n≤MM:=gG
   have hm:ya2 l→uaC (l.getD i default):=fun h=>h.2.1 _ (va.2 ⟨i,hi',rfl⟩)
   rw [hmn]
   have hnext:(0<i→(l.getD (i - 1) default).hash<(l.getD i default).hash)→
    (¬((l.getD i default).n:Int)=0→((l.getD i default).n≤MM→(¬(l.getD i default).state<1→(3<(l.getD i default).state→1=wao l)∧(¬3<(l.getD i default).state→
        ∃i_1:{i:Nat // i≤l.length∧(∀j,j<i→uaC (l.getD j default)∧(0<j→(l.getD (j - 1) default).hash<(l.getD j default).hash))},l.length - i_1.val<l.length - i∧IntKind.i64.wrap ((i:Int)+1)=i_1.val))∧((l.getD i default).state<1→1=wao l))∧
     (¬(l.getD i default).n≤MM→1=wao l))∧(((l.getD i default).n:Int)=0→1=wao l):=fun ho=>by
    refine⟨fun h2=>⟨fun h5=>⟨fun h3=>⟨fun h4=>hbad fun h=> ?_,fun h4=>⟨⟨i+1,hi',fun j hj=> ?_⟩,by dsimp only;omega,i64_in _ (by omega)⟩⟩,fun h3=>hbad fun h=> ?_⟩,fun h5=>hbad fun h=>h5 (hm h).1.2⟩,fun h2=>hbad fun h=>(hm h).1.1 (by omega)⟩
    ·have:=(hm h).2.2;omega
    ·by_cases hji:j=i
     ·subst hji;exact⟨⟨⟨by omega,h5⟩,by omega,by omega⟩,ho⟩
     ·exact hall j (by omega)
    ·have:=(hm h).2.1;omega
   refine⟨fun h2=> ?_,fun h2=>hnext fun h=>absurd h (by omega)⟩
   rw [i64_in _ (by omega),show((i:Int) - 1).toNat=i - 1 by omega]
   exact⟨by omega,fun h3=>hnext fun _=>by omega,fun h3=>hbad fun h=>by have:=h.2.2 i hi' (by omega);simp only [ltN]at this;omega⟩
  ·have hi':i=l.length:=by omega
   subst hi'
   rw [wao,if_pos]
   exact⟨by omega,fun x hx=>by obtain⟨j,hj,rfl⟩:=va.1 hx;exact(hall j hj).1,fun j hj h0=>(hall j hj).2 h0⟩
def qE:List D→Option (Prop×D×Fr)
 |[.c (.sl z1)]=>some (z1=ivs (qc z1),wav (qc z1),[])
 |_=>none
attribute [go_sem] qE
theorem yaq:ga 168 qE:=by
 intro rs p r fr h hp
 unfold qE at h
 split at h<;>cases h
 have hc0:=hp
 rename_i z1
 have:=ba2 (qc z1)
 rw [←hc0]at this
 exact this
@[go_sem] def vaw (f:Fd):D:= .int .i64 (qbA f)
@[go_sem] abbrev gc0:FuncId:=170
@[go_sem] def ybs:Tab:=[]
theorem qT:za Tryz.prog ybs:=za.nil
theorem xa4 (f:Fd) (h:f.next≤18446744073709551615):ja Tryz.prog 170 [.agg [.c (.int .u64 (f.next:Int)), .sl (evs f.l)]] (vaw f):=by
 refine .of (vef qT (Nat.le_of_ble_eq_true rfl) ?_)
 simp -implicitDefEqProofs only [cdA,go_sem,Go.Proofs.Tryz.f170,simprocAttr, -Int.reduceEq,List.cons.injEq,cdB]
 have hbad:¬ub8 f→1=qbA f:=fun h=>by rw [qbA,if_neg h]
 refine⟨fun h1=>⟨fun h2 hl=>⟨fun h3 _=> ?_,fun h3=>hbad fun ho=>h3 ?_⟩,fun h2=>hbad fun ho=> ?_⟩,fun h1=>hbad fun ho=> ?_⟩
 rotate_left 1
 ·have:=ho.2.2.1
  rw [u64_in f.l.length (by omega),u64_in ((f.next:Int) - 1) (by omega)];omega
 ·have:=ho.2.1;unfold MM at this;omega
 ·have:=ho.1;omega
 rw [u64_in f.l.length (by omega),u64_in ((f.next:Int) - 1) (by omega)]at h3
 refine SWp.loop (ι:={i:Nat // i≤f.l.length∧∀j:Nat,j<i→((f.l.getD j default).seq:Int)=f.next - (f.l.length - j:Int)∧gaB (f.l.getD j default).kind=true}) (fun i=>⟨[(1, .ref 0 0),(25, .sl (evs f.l)),(26, .int .i64 f.l.length),(27, .int .i64 i.1)],
  [(0, .box [.c (.int .u64 f.next), .sl (evs f.l)])],1⟩) (fun i=>f.l.length - i.1) ⟨0,by simp⟩ ?_ ?_
 ·simp [go_sem]
 ·rintro⟨i,hi,hall⟩
  refine ya qT.toS jdi _ _ _ rfl ?_
  simp -implicitDefEqProofs only [cdA,go_sem,simprocAttr, -Int.reduceEq,List.cons.injEq,cdB]
  have hMM:f.next≤4611686018427387904:=by omega
  refine⟨fun h4=>⟨by omega,fun _=> ?_⟩,fun h4=> ?_⟩
  ·have hi':i<f.l.length:=by omega
   have hg:ub8 f→((f.l.getD i default).seq:Int)=f.next - (f.l.length - i:Int)∧gaB (f.l.getD i default).kind=true:=fun ho=>(wS f.next f.l).1 ho.2.2.2 i hi'
   rw [i64_in ((f.l.length:Int) - (i:Nat)) (by omega),u64_in ((f.l.length:Int) - (i:Nat)) (by omega),u64_in ((f.next:Int) - _) (by omega)]
   have hk:gaB (f.l.getD i default).kind=true↔0≤(f.l.getD i default).kind∧(f.l.getD i default).kind<16:=decide_eq_true_iff
   refine⟨fun h5=>⟨fun h6=>⟨fun h7=>hbad fun ho=> ?_,fun h7=>⟨⟨i+1,hi',fun j hj=> ?_⟩,by dsimp only;omega,i64_in _ (by omega)⟩⟩,fun h6=>hbad fun ho=> ?_⟩,fun h5=>hbad fun ho=>h5 (hg ho).1⟩
   ·have:=hk.1 (hg ho).2;omega
   ·by_cases hji:j=i
    ·subst hji;exact⟨h5,hk.2 ⟨by omega,by omega⟩⟩
    ·exact hall j (by omega)
   ·have:=hk.1 (hg ho).2;omega
  ·have hi':i=f.l.length:=by omega
   subst hi'
   rw [qbA,if_pos]
   exact⟨by omega,by unfold MM;omega,by omega,(wS f.next f.l).2 hall⟩
@[go_sem] def xbs (f:Fd):Prop:=(f.next≤18446744073709551615)
def xF:List D→Option (Prop×D×Fr)
 |[.agg [.c (.int .u64 z3), .c (.sl z4)]]=>some (z3=(z3.toNat:Int)∧z4=evs (jb z4)∧xbs (⟨z3.toNat,(jb z4)⟩:Fd),vaw (⟨z3.toNat,(jb z4)⟩:Fd),[])
 |_=>none
attribute [go_sem] xF
theorem baq:ga 170 xF:=by
 intro rs p r fr h hp
 unfold xF at h
 split at h<;>cases h
 obtain⟨hc0,hc1,hp⟩:=hp
 rename_i z3 z4
 have:=xa4 ⟨z3.toNat,(jb z4)⟩ hp
 rw [←hc0,←hc1]at this
 exact this
end Dm
namespace Dm
open Go Go.Proofs Go.IntWalk
@[go_sem] theorem Hd.eqD {a b:Hd}:eqD Tryz.prog 198 [D.c (.int .u64 (a.id:Int)),D.c (.int .u64 (a.n:Int))] [D.c (.int .u64 (b.id:Int)),D.c (.int .u64 (b.n:Int))]=some (decide (a=b)):=by
 cases a;cases b
 simp only [Dm.eqD,jb2,vm,eqC,List.getElem?_cons_zero,List.getElem?_cons_succ,if_true,Option.some.injEq,Hd.mk.injEq]
 rw [Bool.eq_iff_iff]
 simp [Int.ofNat_inj]
theorem vbG {a b:List Ch}:hlL (a++b)=hlL a++hlL b:=by simp [hlL]
theorem vb9 {a b:List Py}:wQ (a++b)=wQ a++wQ b:=by simp [wQ]
theorem bb7 {l:List Py} {q:Py}:q∈wQ l↔q∈l∧q.state=1:=by
 unfold wQ;rw [List.mem_filter,decide_eq_true_eq]
theorem jcE {l:List Py} (h:uaN l):Srt.Up Py.id ltN l:=(Srt.kai (lt:=ltN) Srt.zH).1 h.2.2
theorem vcM {l:List Py} {k:Nat} (hu:Srt.Up Py.id ltN l) (h:0<l.length→(l.getD (l.length - 1) default).id<k):∀x∈l,x.id<k:=fun x hx=>by
 obtain⟨i,hi,rfl⟩:=va.1 hx
 by_cases hl:i=l.length - 1
 ·rw [hl];exact h (by omega)
 ·have:=Srt.jB.1 hu i (l.length - 1) (by omega) (by omega)
  have h2:=h (by omega)
  simp only [ltN]at this;omega
theorem jaI {p:List Py} {c:List Ch}:kac p c=(true,0)↔uaN p∧c.length≤32∧(c.map Ch.id).Nodup∧(∀q∈wQ p,(q.chan,q.id,q.n)∈hlL c)∧(hlL c).length=(wQ p).length:=by
 unfold kac
 split
 ·rename_i h
  rw [Prod.mk.injEq]
  refine⟨fun h1=>⟨h.1,h.2.1,h.2.2,of_decide_eq_true h1.1⟩,fun h1=>⟨decide_eq_true h1.2.2.2,rfl⟩⟩
 ·rename_i h
  refine⟨fun h1=>(by cases h1),fun h1=>absurd ⟨h1.1,h1.2.1,h1.2.2.1⟩ h⟩
theorem vcE {w:Wl} (h:okW w):∀x∈w.p,x.id<w.next:=by
 have h1:=(jaI.1 h.2.2.2.2.2.2.2).1
 exact vcM (jcE h1) h.2.2.2.2.2.2.1
end Dm
namespace Dm
open Go Go.Proofs Go.IntWalk
@[go_sem] def zaw (cs:List Ch) (id:Nat) (h:Hd):D:= .bool (decide ((id,h.id,h.n)∈hlL cs))
@[go_sem] abbrev qc0:FuncId:=231
@[go_sem] def jbr:Tab:=[]
theorem uC:za Tryz.prog jbr:=za.nil
theorem qa3 (cs:List Ch) (id:Nat) (h:Hd):ja Tryz.prog 231 [.sl (chs cs), .c (.int .u64 (id:Int)), .agg [.c (.int .u64 (h.id:Int)), .c (.int .u64 (h.n:Int))]] (zaw cs id h):=by
 refine .of (kek uC (Nat.le_of_ble_eq_true rfl) ?_)
 simp -implicitDefEqProofs only [cdA,go_sem,Go.Proofs.Tryz.f231,simprocAttr, -Int.reduceEq,List.cons.injEq,cdB]
 refine fun hl=>SWp.loop (ι:={i:Nat // i≤cs.length∧(id,h.id,h.n)∉hlL (cs.take i)}) (fun i=>⟨[(1, .c (.int .u64 id)),(5, .ref 0 0),(11, .sl (chs cs)),(12, .int .i64 cs.length),(13, .int .i64 i.1)],[(0, .box [.c (.int .u64 h.id), .c (.int .u64 h.n)])],1⟩) (fun i=>cs.length - i.1) ⟨0,by simp [hlL]⟩ ?_ ?_
 ·simp [go_sem]
 ·rintro⟨i,hi,hnot⟩
  refine ya uC.toS wcC _ _ _ rfl ?_
  simp -implicitDefEqProofs only [cdA,go_sem,simprocAttr, -Int.reduceEq,List.cons.injEq,cdB]
  refine⟨fun h1=>⟨by omega,fun hhl=> ?_⟩,fun h1=> ?_⟩
  ·have hi':i<cs.length:=by omega
   have hsu:hlL (cs.take (i+1))=hlL (cs.take i)++hlC (cs.getD i default):=by
    rw [take_succ hi',vbG];simp [hlL]
   generalize hc:cs.getD i default=c at*
   refine SWp.loop (ι:={k:Nat // k≤c.holds.length∧∀j,j<k→¬(c.id=id∧c.holds.getD j default=h)}) (fun k=>⟨[(1, .c (.int .u64 id)),(5, .ref 0 0),(8, .ref 1 0),(11, .sl (chs cs)),(12, .int .i64 cs.length),(13, .int .i64 i),(18, .c (.sl (hds c.holds))),(19, .int .i64 c.holds.length),(20, .int .i64 k.1)],
    [(1, .box [.c (.int .u64 c.id), .c (.int .u64 c.loc), .c (.int .u64 c.rem), .c (.int .u64 c.res), .c (.int .u64 c.most), .c (.sl (hds c.holds)), .c (.bool c.op)]),(0, .box [.c (.int .u64 h.id), .c (.int .u64 h.n)])],2⟩) (fun k=>c.holds.length - k.1) ⟨0,by simp⟩ ?_ ?_
   ·simp [go_sem]
   ·rintro⟨k,hk,hin⟩
    refine ya uC.toS wcC _ _ _ rfl ?_
    simp -implicitDefEqProofs only [cdA,go_sem,simprocAttr, -Int.reduceEq,List.cons.injEq,cdB]
    have hin1:∀a b n,(a,b,n)∈hlC c↔c.id=a∧∃x∈c.holds,x.id=b∧x.n=n:=fun a b n=>by
     unfold hlC
     rw [List.mem_map]
     constructor
     ·rintro⟨x,hx,he⟩
      simp only [Prod.mk.injEq]at he
      exact⟨he.1,x,hx,he.2⟩
     ·rintro⟨he,x,hx,h1,h2⟩
      exact⟨x,hx,by rw [he,h1,h2]⟩
    have hgo:(¬(c.id=id∧c.holds.getD k default=h))→k<c.holds.length→∃j:{k:Nat // k≤c.holds.length∧∀j,j<k→¬(c.id=id∧c.holds.getD j default=h)},c.holds.length - j.1<c.holds.length - k∧IntKind.i64.wrap ((k:Int)+1)=j.1:=fun hn hk'=>by
     refine⟨⟨k+1,hk',fun j hj=> ?_⟩,by dsimp only;omega,i64_in _ (by omega)⟩
     by_cases hji:j=k
     ·subst hji;exact hn
     ·exact hin j (by omega)
    refine⟨fun h2=>⟨by omega,fun h3=>⟨fun h4=>(decide_eq_true ?_).symm,fun h4=>hgo (fun h=>h4 h.2) (by omega)⟩,fun h3=>hgo (fun h=>h3 (by omega)) (by omega)⟩,fun h2=>⟨⟨i+1,hi', ?_⟩,by dsimp only;omega,i64_in _ (by omega)⟩⟩
    ·refine List.mem_flatMap.2 ⟨c,by rw [←hc];exact va.2 ⟨i,hi',rfl⟩,(hin1 _ _ _).2 ⟨by omega,h, ?_,rfl,rfl⟩⟩
     rw [←h4];exact va.2 ⟨k,by omega,rfl⟩
    ·rw [hsu,List.mem_append,not_or]
     refine⟨hnot,fun hm=> ?_⟩
     obtain⟨g1,x,hx,g2,g3⟩:=(hin1 _ _ _).1 hm
     obtain⟨j,hj,rfl⟩:=va.1 hx
     refine hin j (by omega) ⟨g1, ?_⟩
     cases hh:c.holds.getD j default with
     |mk a b=>rw [hh]at g2 g3;cases h;simp_all
  ·have hi':i=cs.length:=by omega
   subst hi'
   rw [List.take_length]at hnot
   exact(decide_eq_false hnot).symm
def vE:List D→Option (Prop×D×Fr)
 |[.c (.sl z1), .c (.int .u64 z2), .agg [.c (.int .u64 z4), .c (.int .u64 z5)]]=>some (z1=chs (yb z1)∧z2=(z2.toNat:Int)∧z4=(z4.toNat:Int)∧z5=(z5.toNat:Int),zaw (yb z1) z2.toNat (⟨z4.toNat,z5.toNat⟩:Hd),[])
 |_=>none
attribute [go_sem] vE
theorem jaq:ga 231 vE:=by
 intro rs p r fr h hp
 unfold vE at h
 split at h<;>cases h
 obtain⟨hc0,hc1,hc2,hc3⟩:=hp
 rename_i z1 z2 z4 z5
 have:=qa3 (yb z1) z2.toNat ⟨z4.toNat,z5.toNat⟩
 rw [←hc0,←hc1,←hc2,←hc3]at this
 exact this
@[go_sem] def gav (l:List Py) (cs:List Ch):D:= .tup [.bool (kac l cs).1, .int .i64 (kac l cs).2]
@[go_sem] abbrev yc0:FuncId:=171
@[go_sem] def ybr:Tab:=[(169,bu),(231,vE)]
theorem kr:za Tryz.prog ybr:=(za.cons zQ (za.cons jaq za.nil))
theorem ya3 (l:List Py) (cs:List Ch) (hs:∀c∈cs,c.holds.length≤1000000):ja Tryz.prog 171 [.sl (pys l), .sl (chs cs)] (gav l cs):=by
 refine .of (wef kr (Nat.le_of_ble_eq_true rfl) ?_)
 simp -implicitDefEqProofs only [cdA,go_sem,Go.Proofs.Tryz.f171,simprocAttr, -Int.reduceEq,List.cons.injEq,cdB]
 have hbad:¬(uaN l∧cs.length≤32∧(cs.map Ch.id).Nodup)→false=(kac l cs).1∧1=(kac l cs).2:=fun h=>by rw [kac,if_neg h];exact⟨rfl,rfl⟩
 have hcz:bbc l=0↔uaN l:=by unfold bbc;split<;>rename_i h<;>simp only [h]<;>decide
 refine⟨fun h0 hl=>⟨fun h=>hbad fun ho=> ?_,fun hle _=> ?_⟩,fun h0=>hbad fun h=>h0 (hcz.2 h.1)⟩
 ·have:=ho.2.1;omega
 have hok:=hcz.1 h0
 refine SWp.loop (ι:={i:Nat // i≤cs.length∧((cs.take i).map Ch.id).Nodup}) (fun i=>⟨[(0, .sl (pys l)),(1, .sl (chs cs)),(6, .int .i64 (hlL (cs.take i.1)).length),(22, .sl (chs cs)),(23, .int .i64 cs.length),(24, .int .i64 i.1)],[],0⟩) (fun i=>cs.length - i.1) ⟨0,by simp⟩ ?_ ?_
 ·simp [go_sem,hlL]
 ·rintro⟨i,hi,hnd⟩
  refine ya kr.toS ub7 _ _ _ rfl ?_
  simp -implicitDefEqProofs only [cdA,go_sem,simprocAttr, -Int.reduceEq,List.cons.injEq,cdB]
  refine⟨fun h1=>⟨by omega,by omega,fun _=> ?_⟩,fun h1 _=> ?_⟩
  ·have hi':i<cs.length:=by omega
   have hlen:(cs.take i).length=i:=by rw [List.length_take];omega
   have hidl:(cs.take (i+1)).map Ch.id=(cs.take i).map Ch.id++[(cs.getD i default).id]:=by rw [take_succ hi',List.map_append];rfl
   have hsu:(hlL (cs.take (i+1))).length=(hlL (cs.take i)).length+(cs.getD i default).holds.length:=by
    rw [take_succ hi',vbG,List.length_append];simp [hlL,hlC]
   have hb1:=hs _ (va.2 ⟨i,hi',rfl⟩)
   have hb2:=vbe (cs:=cs.take i) (n:=32) (fun c hc=>hs c (List.mem_of_mem_take hc)) (by omega)
   generalize hc:cs.getD i default=c at*
   refine SWp.loop (ι:={k:Nat // k≤(cs.take i).length∧∀j,j<k→((cs.take i).getD j default).id≠c.id}) (fun k=>⟨[(0, .sl (pys l)),(1, .sl (chs cs)),(6, .int .i64 (hlL (cs.take i)).length),(8, .ref 0 0),(22, .sl (chs cs)),(23, .int .i64 cs.length),(24, .int .i64 i),(31, .c (.sl (chs (cs.take i)))),(32, .int .i64 (cs.take i).length),(33, .int .i64 k.1)],
    [(0, .box [.c (.int .u64 c.id), .c (.int .u64 c.loc), .c (.int .u64 c.rem), .c (.int .u64 c.res), .c (.int .u64 c.most), .c (.sl (hds c.holds)), .c (.bool c.op)])],1⟩) (fun k=>(cs.take i).length - k.1) ⟨0,by simp⟩ ?_ ?_
   ·simp [go_sem]
   ·rintro⟨k,hk,hin⟩
    refine ya kr.toS ub7 _ _ _ rfl ?_
    simp -implicitDefEqProofs only [cdA,go_sem,simprocAttr, -Int.reduceEq,List.cons.injEq,cdB]
    refine⟨fun h2=>⟨by omega,fun h3=>hbad fun ho=> ?_,fun h3=>⟨⟨k+1,by omega,fun j hj=> ?_⟩,by dsimp only;omega,i64_in _ (by omega)⟩⟩,fun h2 _=>⟨⟨i+1,hi', ?_⟩,by dsimp only;omega,by rw [i64_in _ (by omega),hsu];omega,i64_in _ (by omega)⟩⟩
    ·have h4:(cs.map Ch.id).Nodup:=ho.2.2
     rw [←List.take_append_drop (i+1) cs,List.map_append]at h4
     have h5:=(List.nodup_append.1 h4).1
     rw [hidl,List.nodup_append]at h5
     exact h5.2.2 _ (List.mem_map.2 ⟨_,va.2 ⟨k,by omega,rfl⟩,rfl⟩) _ (.head _) (by omega)
    ·by_cases hji:j=k
     ·subst hji;omega
     ·exact hin j (by omega)
    ·rw [hidl,List.nodup_append]
     refine⟨hnd,List.nodup_cons.2 ⟨by simp,List.nodup_nil⟩,fun a ha b hb=> ?_⟩
     rw [List.mem_singleton]at hb
     obtain⟨x,hx,rfl⟩:=List.mem_map.1 ha
     obtain⟨j,hj,rfl⟩:=va.1 hx
     rw [hb];exact hin j (by omega)
  ·have hi':i=cs.length:=by omega
   subst hi'
   rw [List.take_length]at hnd⊢
   have hb2:=vbe (cs:=cs) (n:=32) hs (by omega)
   have hA:kac l cs=(decide ((∀p∈wQ l,(p.chan,p.id,p.n)∈hlL cs)∧(hlL cs).length=(wQ l).length),0):=by rw [kac,if_pos ⟨hok,by omega,hnd⟩]
   have hl256:=hok.1
   refine SWp.loop (ι:={i:Nat // i≤l.length∧∀q∈wQ (l.take i),(q.chan,q.id,q.n)∈hlL cs}) (fun i=>⟨[(1, .sl (chs cs)),(6, .int .i64 (hlL cs).length),(11, .int .i64 (wQ (l.take i.1)).length),(49, .sl (pys l)),(50, .int .i64 l.length),(51, .int .i64 i.1)],[],0⟩) (fun i=>l.length - i.1) ⟨0,by simp,by simp [wQ]⟩ ?_ ?_
   ·simp [go_sem,wQ]
   ·rintro⟨i,hi,hall⟩
    refine ya kr.toS ub7 _ _ _ rfl ?_
    simp -implicitDefEqProofs only [cdA,go_sem,simprocAttr, -Int.reduceEq,List.cons.injEq,cdB]
    rw [hA]
    have hple:(wQ (l.take i)).length≤i:=Nat.le_trans List.filter_sublist.length_le (by rw [List.length_take];exact Nat.min_le_left _ _)
    refine⟨fun h2=> ?_,fun h2=> ?_⟩
    ·have hi':i<l.length:=by omega
     have hsp:wQ (l.take (i+1))=wQ (l.take i)++(if(l.getD i default).state=1 then [l.getD i default]else []):=by
      rw [take_succ hi',vb9]
      congr 1
      unfold wQ
      split
      ·rename_i h;rw [List.filter_cons_of_pos (by simpa using h),List.filter_nil]
      ·rename_i h;rw [List.filter_cons_of_neg (by simpa using h),List.filter_nil]
     refine⟨by omega,fun h3=>⟨fun h4=>⟨⟨i+1,hi',fun q hq=> ?_⟩,by dsimp only;omega,by rw [i64_in _ (by omega),hsp,if_pos h3,List.length_append,List.length_singleton];omega,i64_in _ (by omega)⟩,fun h4=>⟨(decide_eq_false fun h=>h4 (h.1 _ (bb7.2 ⟨va.2 ⟨i,hi',rfl⟩,h3⟩))).symm,rfl⟩⟩,fun h3=>⟨⟨i+1,hi',fun q hq=> ?_⟩,by dsimp only;omega,by rw [hsp,if_neg h3,List.append_nil],i64_in _ (by omega)⟩⟩
     ·rw [hsp,if_pos h3,List.mem_append,List.mem_singleton]at hq
      rcases hq with hq|rfl
      ·exact hall q hq
      ·exact h4
     ·rw [hsp,if_neg h3,List.append_nil]at hq;exact hall q hq
    ·have hi':i=l.length:=by omega
     subst hi'
     rw [List.take_length]at hall⊢
     refine⟨decide_eq_decide.2 ⟨fun h=>⟨hall,by omega⟩,fun h=>by rw [h.2]⟩,rfl⟩
@[go_sem] def xbr (l:List Py) (cs:List Ch):Prop:=(∀c∈cs,c.holds.length≤1000000)
def kE:List D→Option (Prop×D×Fr)
 |[.c (.sl z6), .c (.sl z7)]=>some (z6=pys (vb z6)∧z7=chs (yb z7)∧xbr (vb z6) (yb z7),gav (vb z6) (yb z7),[])
 |_=>none
attribute [go_sem] kE
theorem qaq:ga 171 kE:=by
 intro rs p r fr h hp
 unfold kE at h
 split at h<;>cases h
 obtain⟨hc0,hc1,hp⟩:=hp
 rename_i z6 z7
 have:=ya3 (vb z6) (yb z7) hp
 rw [←hc0,←hc1]at this
 exact this
end Dm
namespace Dm
open Go Go.Proofs Go.IntWalk
@[go_sem] def uaw (w:Wl):D:= .int .i64 (uac w)
@[go_sem] abbrev zc1:FuncId:=86
@[go_sem] def kbs:Tab:=[(167,gD),(168,qE),(169,bu),(170,xF),(171,kE)]
theorem jT:za Tryz.prog kbs:=(za.cons uap (za.cons yaq (za.cons zQ (za.cons baq (za.cons qaq za.nil)))))
theorem ja4 (w:Wl) (h:w.f.next≤18446744073709551615):ja Tryz.prog 86 [.agg [.sl (chs w.c), .sl (wts w.w), .sl (ivs w.i), .sl (pys w.p), .c (.int .u64 (w.f.next:Int)), .sl (evs w.f.l), .c (.int .u64 (w.next:Int)), .c (.int .u64 (w.tick:Int))]] (uaw w):=by
 refine .of (vfp jT (Nat.le_of_ble_eq_true rfl) ?_)
 simp -implicitDefEqProofs only [cdA,go_sem,Go.Proofs.Tryz.f86,simprocAttr, -Int.reduceEq,List.cons.injEq,cdB]
 have hbad:¬okW w→1=uac w:=fun h=>by rw [uac,if_neg h]
 have hl0:xbY w.c=0↔kbY w.c:=by unfold xbY;split<;>rename_i h<;>simp only [h]<;>decide
 have hi0:wao w.i=0↔ya2 w.i:=by unfold wao;split<;>rename_i h<;>simp only [h]<;>decide
 have hp0:bbc w.p=0↔uaN w.p:=by unfold bbc;split<;>rename_i h<;>simp only [h]<;>decide
 refine⟨fun h1=>⟨fun h2=>⟨fun h3=>⟨h,fun h4 _=>⟨fun h5=>⟨fun h6=>⟨fun h7=>hbad fun ho=> ?_,fun h7 _=> ?_⟩,fun h6=>hbad fun ho=> ?_⟩,fun h5=>hbad fun ho=> ?_⟩,fun h4=>hbad fun ho=>h4 (gbc.2 ho.2.2.1)⟩,fun h3=>hbad fun ho=>h3 (hp0.2 (jaI.1 ho.2.2.2.2.2.2.2).1)⟩,fun h2=>hbad fun ho=>h2 (hi0.2 ho.2.1)⟩,fun h1=>hbad fun ho=>h1 (hl0.2 ho.1)⟩
 ·have:=ho.2.2.2.2.2.1;unfold MM at this;omega
 rotate_left 1
 ·have:=ho.2.2.2.2.1;omega
 ·have:=ho.2.2.2.1;omega
 have hpok:=hp0.1 h3
 have hp256:=hpok.1
 have hL:=hl0.1 h1
 refine SWp.loop (ι:={i:Nat // i≤w.p.length∧∀j,j<i→(w.p.getD j default).id<w.next}) (fun i=>⟨[(1, .ref 0 0),(46, .sl (pys w.p)),(47, .int .i64 w.p.length),(48, .int .i64 i.1)],
  [(0, .box [.sl (chs w.c), .sl (wts w.w), .sl (ivs w.i), .sl (pys w.p), .c (.int .u64 w.f.next), .sl (evs w.f.l), .c (.int .u64 w.next), .c (.int .u64 w.tick)])],1⟩) (fun i=>w.p.length - i.1) ⟨0,by simp⟩ ?_ ?_
 ·simp [go_sem]
 ·rintro⟨i,hi,hall⟩
  refine ya jT.toS jfa _ _ _ rfl ?_
  simp -implicitDefEqProofs only [cdA,go_sem,simprocAttr, -Int.reduceEq,List.cons.injEq,cdB]
  refine⟨fun h8=>⟨by omega,fun h9=>hbad fun ho=> ?_,fun h9=>⟨⟨i+1,by omega,fun j hj=> ?_⟩,by dsimp only;omega,i64_in _ (by omega)⟩⟩,fun h8=>⟨fun c hc=>by have:=(hL.2.1 c hc).2.2.1;omega,fun h9=> ?_,fun h9=>hbad fun ho=> ?_⟩⟩
  ·have:=vcE ho _ (va.2 ⟨i,by omega,rfl⟩);omega
  ·by_cases hji:j=i
   ·subst hji;omega
   ·exact hall j (by omega)
  ·have ha:kac w.p w.c=(true,0):=by
    refine Prod.ext h9 ?_
    unfold kac at h9⊢
    split at h9
    ·rename_i h;rw [if_pos h]
    ·cases h9
   rw [uac,if_pos]
   exact⟨hL,hi0.1 h2,gbc.1 h4,by omega,by omega,by unfold MM;omega,fun _=>hall _ (by omega),ha⟩
  ·rw [ho.2.2.2.2.2.2.2]at h9;cases h9
@[go_sem] def vbs (w:Wl):Prop:=(w.f.next≤18446744073709551615)
def jF:List D→Option (Prop×D×Fr)
 |[.agg [.c (.sl z2), .c (.sl z3), .c (.sl z4), .c (.sl z5), .c (.int .u64 z7), .c (.sl z8), .c (.int .u64 z9), .c (.int .u64 z10)]]=>some (z2=chs (yb z2)∧z3=wts (jd z3)∧z4=ivs (qc z4)∧z5=pys (vb z5)∧z7=(z7.toNat:Int)∧z8=evs (jb z8)∧z9=(z9.toNat:Int)∧z10=(z10.toNat:Int)∧vbs (⟨(yb z2),(jd z3),(qc z4),(vb z5),(⟨z7.toNat,(jb z8)⟩:Fd),z9.toNat,z10.toNat⟩:Wl),uaw (⟨(yb z2),(jd z3),(qc z4),(vb z5),(⟨z7.toNat,(jb z8)⟩:Fd),z9.toNat,z10.toNat⟩:Wl),[])
 |_=>none
attribute [go_sem] jF
theorem yar:ga 86 jF:=by
 intro rs p r fr h hp
 unfold jF at h
 split at h<;>cases h
 obtain⟨hc0,hc1,hc2,hc3,hc4,hc5,hc6,hc7,hp⟩:=hp
 rename_i z2 z3 z4 z5 z7 z8 z9 z10
 have:=ja4 ⟨(yb z2),(jd z3),(qc z4),(vb z5),⟨z7.toNat,(jb z8)⟩,z9.toNat,z10.toNat⟩ hp
 rw [←hc0,←hc1,←hc2,←hc3,←hc4,←hc5,←hc6,←hc7]at this
 exact this
end Dm
