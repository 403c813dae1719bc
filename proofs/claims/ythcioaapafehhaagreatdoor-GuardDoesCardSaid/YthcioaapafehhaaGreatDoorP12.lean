import Derived.Test.YthcioaapafehhaaGreatDoorP11

set_option linter.unusedSimpArgs false
set_option linter.unusedVariables false
set_option linter.unusedSectionVars false
set_option linter.defProp false
set_option maxRecDepth 20000
set_option maxHeartbeats 4000000
namespace Dm
open Go Go.Proofs Go.IntWalk
theorem gbw (a:Wl):qaD a a=true:=decide_eq_true ⟨rfl,qbJ _,rfl,rfl,rfl,rfl,rfl⟩
theorem qay (a:Bk):ubT a a=true:=decide_eq_true ⟨gbw _,rfl,rfl,rfl,rfl⟩
@[go_sem] theorem Us.eqD {a b:Us}:eqD Tryz.prog 64 [D.c (.int .u64 (a.tick:Int)),D.c (.int .i64 a.method),D.c (.int .u64 (a.amount:Int)),D.c (.int .u64 (a.who:Int))] [D.c (.int .u64 (b.tick:Int)),D.c (.int .i64 b.method),D.c (.int .u64 (b.amount:Int)),D.c (.int .u64 (b.who:Int))]=some (decide (a=b)):=by
 cases a;cases b
 simp only [Dm.eqD,gct,vm,eqC,List.getElem?_cons_zero,List.getElem?_cons_succ,if_true,Option.some.injEq,Us.mk.injEq]
 rw [Bool.eq_iff_iff]
 simp [Int.ofNat_inj]
@[go_sem] def wah (b:Bk) (o:Bk) (r:Rq) (who:Nat) (id:Nat) (key:Nat):D:= .bool true
@[go_sem] abbrev qcD:FuncId:=7
@[go_sem] def uaY:Tab:=[(8,zaf),(15,wae),(9,vae),(23,gj),(17,yan),(24,bJ),(14,bam),(25,kW),(26,gU),(27,gF),(12,bF),(30,xA),(22,jaf),(28,qN),(21,yaf),(29,vW),(31,bp),(32,bg),(33,qaf)]
theorem jj:za Tryz.prog uaY:=(za.cons ua8 (za.cons ja8 (za.cons qa8 (za.cons xo (za.cons zaz (za.cons qab (za.cons bay (za.cons yaV (za.cons waT (za.cons war (za.cons uar (za.cons jX (za.cons ya9 (za.cons qaF (za.cons ga8 (za.cons xaV (za.cons zq (za.cons ji (za.cons za9 za.nil)))))))))))))))))))
theorem baH (b:Bk) (o:Bk) (r:Rq) (who:Nat) (id:Nat) (key:Nat) (h:b.w.f.next≤18446744073709551615∧o.w.f.next≤18446744073709551615∧id≤18446744073709551615∧r.t.root≤18446744073709551615∧∀c∈r.t.l,c.a≤18446744073709551615∧c.b≤18446744073709551615):ja Tryz.prog 7 [.agg [.sl (chs b.w.c), .sl (wts b.w.w), .sl (ivs b.w.i), .sl (pys b.w.p), .c (.int .u64 (b.w.f.next:Int)), .sl (evs b.w.f.l), .c (.int .u64 (b.w.next:Int)), .c (.int .u64 (b.w.tick:Int)), .sl (tms b.a.l), .sl (rks b.r), .sl (kys b.k), .sl (cts b.s)], .agg [.sl (chs o.w.c), .sl (wts o.w.w), .sl (ivs o.w.i), .sl (pys o.w.p), .c (.int .u64 (o.w.f.next:Int)), .sl (evs o.w.f.l), .c (.int .u64 (o.w.next:Int)), .c (.int .u64 (o.w.tick:Int)), .sl (tms o.a.l), .sl (rks o.r), .sl (kys o.k), .sl (cts o.s)], .agg [.c (.int .u64 (r.id:Int)), .c (.int .i64 r.method), .c (.int .u64 (r.key:Int)), .c (.int .u64 (r.t.root:Int)), .sl (cvs r.t.l), .c (.int .i64 r.t.tag), .c (.int .u64 (r.a:Int)), .c (.int .u64 (r.n:Int)), .c (.int .u64 (r.till:Int)), .sl (its r.items), .sl (cvs r.l)], .c (.int .u64 (who:Int)), .c (.int .u64 (id:Int)), .c (.int .u64 (key:Int))] (wah b o r who id key):=by
 refine .of (ac7 jj (Nat.le_of_ble_eq_true rfl) ?_)
 simp -implicitDefEqProofs only [cdA,go_sem,Go.Proofs.Tryz.f7,simprocAttr, -Int.reduceEq,List.cons.injEq,cdB]
 obtain⟨h1,h2,h3,h4,h5⟩:=h
 refine⟨fun _=>⟨fun hf=>⟨fun _=>⟨?_,h1,h1,h1,⟨h1,h4,h5⟩,h1,⟨h1,h3⟩,h1,⟨h1,h3⟩,h1,h1, ?_⟩,fun _=>trivial⟩,fun _=>trivial⟩,fun _=>trivial⟩
 ·rename_i hb _
  obtain⟨⟨⟨c1,c2⟩,c3,c4,c5,c6⟩,⟨c7,c8⟩,c9,⟨c10,c11⟩,c12⟩:=hb
  exact⟨⟨by omega,fun c hc=>by have:=c1 c hc;omega,by omega,by omega,by omega,by omega⟩,⟨by omega,fun t ht=>by have:=c7 t ht;omega⟩,by omega,⟨by omega,fun k hk=>by have:=c10 k hk;unfold jb3 at this;omega⟩,by omega⟩
 refine xb.run ydy jj qa (by kernel_rfl) (by kernel_rfl) ?_
 simp -implicitDefEqProofs only [cdA,go_sem,qay,beq_self_eq_true,true_implies,false_implies,not_false_eq_true,not_true_eq_false,simprocAttr, -Int.reduceEq,List.cons.injEq,cdB]
 generalize (ud b id key (zh b.r id key)).1=X
 generalize (vq b id).1=Y
 refine⟨h1,h1,fun _=>SWp.loop (ι:={x:Nat×List Rk // x.1≤X.r.length∧x.2.length=X.r.length}) (fun x=>⟨[(6, .ref 0 0),(13, .ref 3 0),(22, .ref 8 0),(34, .ref 17 0),(38, .bool true),(207, .int .i64 X.r.length),(208, .int .i64 x.1.1)],[(0, .box [.sl (chs b.w.c), .sl (wts b.w.w), .sl (ivs b.w.i), .sl (pys b.w.p), .c (.int .u64 b.w.f.next), .sl (evs b.w.f.l), .c (.int .u64 b.w.next), .c (.int .u64 b.w.tick), .sl (tms b.a.l), .sl (rks b.r), .sl (kys b.k), .sl (cts b.s)]),(3, .box [.sl (chs b.w.c), .sl (wts b.w.w), .sl (ivs b.w.i), .sl (pys b.w.p), .c (.int .u64 b.w.f.next), .sl (evs b.w.f.l), .c (.int .u64 b.w.next), .c (.int .u64 b.w.tick), .sl (tms b.a.l), .sl (rks b.r), .sl (kys b.k), .sl (cts b.s)]),(8, .box [.sl (chs X.w.c), .sl (wts X.w.w), .sl (ivs X.w.i), .sl (pys X.w.p), .c (.int .u64 X.w.f.next), .sl (evs X.w.f.l), .c (.int .u64 X.w.next), .c (.int .u64 X.w.tick), .vec 6 X.a.l.length, .vec 7 X.r.length, .sl (kys X.k), .sl (cts X.s)]),(17, .box [.vec 16 Y.w.c.length, .sl (wts Y.w.w), .sl (ivs Y.w.i), .sl (pys Y.w.p), .c (.int .u64 Y.w.f.next), .sl (evs Y.w.f.l), .c (.int .u64 Y.w.next), .c (.int .u64 Y.w.tick), .sl (tms Y.a.l), .sl (rks Y.r), .sl (kys Y.k), .sl (cts Y.s)]),(16, .vec true 7 86 (chs Y.w.c)),(7, .vec true 3 70 (rks x.1.2)),(6, .vec true 3 83 (tms X.a.l))],19⟩) (fun x=>X.r.length - x.1.1) ⟨(0,X.r),Nat.zero_le _,rfl⟩ ?_ ?_⟩
 ·simp [go_sem]
 rintro⟨⟨i,R⟩,hi,hR⟩
 dsimp only at hi hR⊢
 refine ya jj.toS lv7 _ _ _ rfl ?_
 simp -implicitDefEqProofs only [cdA,go_sem,simprocAttr, -Int.reduceEq,List.cons.injEq,cdB]
 refine⟨fun hlt=>⟨hlt,⟨by omega,by omega⟩,hlt,⟨by omega,by omega⟩,⟨(i+1,_),by omega,by rw [List.length_set];exact hR⟩,by dsimp only;omega,i64_in _ (by omega),rfl⟩,fun hn _=> ?_⟩
 refine SWp.loop (ι:={x:Nat×List Tm // x.1≤X.a.l.length∧x.2.length=X.a.l.length}) (fun x=>⟨[(6, .ref 0 0),(13, .ref 3 0),(22, .ref 8 0),(34, .ref 17 0),(38, .bool true),(224, .int .i64 X.a.l.length),(225, .int .i64 x.1.1)],[(0, .box [.sl (chs b.w.c), .sl (wts b.w.w), .sl (ivs b.w.i), .sl (pys b.w.p), .c (.int .u64 b.w.f.next), .sl (evs b.w.f.l), .c (.int .u64 b.w.next), .c (.int .u64 b.w.tick), .sl (tms b.a.l), .sl (rks b.r), .sl (kys b.k), .sl (cts b.s)]),(3, .box [.sl (chs b.w.c), .sl (wts b.w.w), .sl (ivs b.w.i), .sl (pys b.w.p), .c (.int .u64 b.w.f.next), .sl (evs b.w.f.l), .c (.int .u64 b.w.next), .c (.int .u64 b.w.tick), .sl (tms b.a.l), .sl (rks b.r), .sl (kys b.k), .sl (cts b.s)]),(8, .box [.sl (chs X.w.c), .sl (wts X.w.w), .sl (ivs X.w.i), .sl (pys X.w.p), .c (.int .u64 X.w.f.next), .sl (evs X.w.f.l), .c (.int .u64 X.w.next), .c (.int .u64 X.w.tick), .vec 6 X.a.l.length, .vec 7 X.r.length, .sl (kys X.k), .sl (cts X.s)]),(17, .box [.vec 16 Y.w.c.length, .sl (wts Y.w.w), .sl (ivs Y.w.i), .sl (pys Y.w.p), .c (.int .u64 Y.w.f.next), .sl (evs Y.w.f.l), .c (.int .u64 Y.w.next), .c (.int .u64 Y.w.tick), .sl (tms Y.a.l), .sl (rks Y.r), .sl (kys Y.k), .sl (cts Y.s)]),(16, .vec true 7 86 (chs Y.w.c)),(7, .vec true 3 70 (rks R)),(6, .vec true 3 83 (tms x.1.2))],19⟩) (fun x=>X.a.l.length - x.1.1) ⟨(0,X.a.l),Nat.zero_le _,rfl⟩ ?_ ?_
 ·simp [go_sem]
 clear hi hn hR
 rintro⟨⟨i,A⟩,hi,hR⟩
 dsimp only at hi hR⊢
 refine ya jj.toS lv7 _ _ _ rfl ?_
 simp -implicitDefEqProofs only [cdA,go_sem,simprocAttr, -Int.reduceEq,List.cons.injEq,cdB]
 refine⟨fun hlt=>⟨hlt,⟨by omega,by omega⟩,hlt,⟨by omega,by omega⟩,⟨(i+1,_),by omega,by rw [List.length_set];exact hR⟩,by dsimp only;omega,i64_in _ (by omega),rfl⟩,fun hn _=> ?_⟩
 refine SWp.loop (ι:={x:Nat×List Ch // x.1≤Y.w.c.length∧x.2.length=Y.w.c.length}) (fun x=>⟨[(6, .ref 0 0),(13, .ref 3 0),(34, .ref 17 0),(38, .bool true),(242, .int .i64 Y.w.c.length),(243, .int .i64 x.1.1)],[(0, .box [.sl (chs b.w.c), .sl (wts b.w.w), .sl (ivs b.w.i), .sl (pys b.w.p), .c (.int .u64 b.w.f.next), .sl (evs b.w.f.l), .c (.int .u64 b.w.next), .c (.int .u64 b.w.tick), .sl (tms b.a.l), .sl (rks b.r), .sl (kys b.k), .sl (cts b.s)]),(3, .box [.sl (chs b.w.c), .sl (wts b.w.w), .sl (ivs b.w.i), .sl (pys b.w.p), .c (.int .u64 b.w.f.next), .sl (evs b.w.f.l), .c (.int .u64 b.w.next), .c (.int .u64 b.w.tick), .sl (tms b.a.l), .sl (rks b.r), .sl (kys b.k), .sl (cts b.s)]),(17, .box [.vec 16 Y.w.c.length, .sl (wts Y.w.w), .sl (ivs Y.w.i), .sl (pys Y.w.p), .c (.int .u64 Y.w.f.next), .sl (evs Y.w.f.l), .c (.int .u64 Y.w.next), .c (.int .u64 Y.w.tick), .sl (tms Y.a.l), .sl (rks Y.r), .sl (kys Y.k), .sl (cts Y.s)]),(16, .vec true 7 86 (chs x.1.2))],19⟩) (fun x=>Y.w.c.length - x.1.1) ⟨(0,Y.w.c),Nat.zero_le _,rfl⟩ ?_ ?_
 ·simp [go_sem]
 clear hi hn hR
 rintro⟨⟨i,L⟩,hi,hR⟩
 dsimp only at hi hR⊢
 refine ya jj.toS lv7 _ _ _ rfl ?_
 simp -implicitDefEqProofs only [cdA,go_sem,qay,simprocAttr, -Int.reduceEq,List.cons.injEq,cdB]
 exact⟨fun hlt=>⟨hlt,⟨by omega,by omega⟩,hlt,⟨by omega,by omega⟩,⟨(i+1,_),by omega,by rw [List.length_set];exact hR⟩,by dsimp only;omega,i64_in _ (by omega),rfl⟩,fun _=>trivial⟩
@[go_sem] def gaY (b:Bk) (o:Bk) (r:Rq) (who:Nat) (id:Nat) (key:Nat):Prop:=(b.w.f.next≤18446744073709551615∧o.w.f.next≤18446744073709551615∧id≤18446744073709551615∧r.t.root≤18446744073709551615∧∀c∈r.t.l,c.a≤18446744073709551615∧c.b≤18446744073709551615)
def gaS:List D→Option (Prop×D×Fr)
 |[.agg [.c (.sl z3), .c (.sl z4), .c (.sl z5), .c (.sl z6), .c (.int .u64 z8), .c (.sl z9), .c (.int .u64 z10), .c (.int .u64 z11), .c (.sl z13), .c (.sl z14), .c (.sl z15), .c (.sl z16)], .agg [.c (.sl z19), .c (.sl z20), .c (.sl z21), .c (.sl z22), .c (.int .u64 z24), .c (.sl z25), .c (.int .u64 z26), .c (.int .u64 z27), .c (.sl z29), .c (.sl z30), .c (.sl z31), .c (.sl z32)], .agg [.c (.int .u64 z34), .c (.int .i64 z35), .c (.int .u64 z36), .c (.int .u64 z38), .c (.sl z39), .c (.int .i64 z40), .c (.int .u64 z41), .c (.int .u64 z42), .c (.int .u64 z43), .c (.sl z44), .c (.sl z45)], .c (.int .u64 z46), .c (.int .u64 z47), .c (.int .u64 z48)]=>some (z3=chs (yb z3)∧z4=wts (jd z4)∧z5=ivs (qc z5)∧z6=pys (vb z6)∧z8=(z8.toNat:Int)∧z9=evs (jb z9)∧z10=(z10.toNat:Int)∧z11=(z11.toNat:Int)∧z13=tms (qb z13)∧z14=rks (gb z14)∧z15=kys (je z15)∧z16=cts (qd z16)∧z19=chs (yb z19)∧z20=wts (jd z20)∧z21=ivs (qc z21)∧z22=pys (vb z22)∧z24=(z24.toNat:Int)∧z25=evs (jb z25)∧z26=(z26.toNat:Int)∧z27=(z27.toNat:Int)∧z29=tms (qb z29)∧z30=rks (gb z30)∧z31=kys (je z31)∧z32=cts (qd z32)∧z34=(z34.toNat:Int)∧z36=(z36.toNat:Int)∧z38=(z38.toNat:Int)∧z39=cvs (uc z39)∧z41=(z41.toNat:Int)∧z42=(z42.toNat:Int)∧z43=(z43.toNat:Int)∧z44=its (zk z44)∧z45=cvs (uc z45)∧z46=(z46.toNat:Int)∧z47=(z47.toNat:Int)∧z48=(z48.toNat:Int)∧gaY (⟨(⟨(yb z3),(jd z4),(qc z5),(vb z6),(⟨z8.toNat,(jb z9)⟩:Fd),z10.toNat,z11.toNat⟩:Wl),(⟨(qb z13)⟩:Ar),(gb z14),(je z15),(qd z16)⟩:Bk) (⟨(⟨(yb z19),(jd z20),(qc z21),(vb z22),(⟨z24.toNat,(jb z25)⟩:Fd),z26.toNat,z27.toNat⟩:Wl),(⟨(qb z29)⟩:Ar),(gb z30),(je z31),(qd z32)⟩:Bk) (⟨z34.toNat,z35,z36.toNat,(⟨z38.toNat,(uc z39),z40⟩:Tk),z41.toNat,z42.toNat,z43.toNat,(zk z44),(uc z45)⟩:Rq) z46.toNat z47.toNat z48.toNat,wah (⟨(⟨(yb z3),(jd z4),(qc z5),(vb z6),(⟨z8.toNat,(jb z9)⟩:Fd),z10.toNat,z11.toNat⟩:Wl),(⟨(qb z13)⟩:Ar),(gb z14),(je z15),(qd z16)⟩:Bk) (⟨(⟨(yb z19),(jd z20),(qc z21),(vb z22),(⟨z24.toNat,(jb z25)⟩:Fd),z26.toNat,z27.toNat⟩:Wl),(⟨(qb z29)⟩:Ar),(gb z30),(je z31),(qd z32)⟩:Bk) (⟨z34.toNat,z35,z36.toNat,(⟨z38.toNat,(uc z39),z40⟩:Tk),z41.toNat,z42.toNat,z43.toNat,(zk z44),(uc z45)⟩:Rq) z46.toNat z47.toNat z48.toNat,[])
 |_=>none
attribute [go_sem] gaS
end Dm
