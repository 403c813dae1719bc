import Derived.Test.YthcioaapafehhaaGreatDoorP10

set_option linter.unusedSimpArgs false
set_option linter.unusedVariables false
set_option linter.unusedSectionVars false
set_option linter.defProp false
set_option maxRecDepth 20000
set_option maxHeartbeats 4000000
namespace Dm
open Go Go.Proofs Go.IntWalk
@[go_sem] def vca:D:= .agg [.int .u64 1, .sl (evs [])]
@[go_sem] abbrev udR:FuncId:=103
@[go_sem] def kdX:Tab:=[]
def baU:List D→Option (Prop×D×Fr)
 |[]=>some (True,vca,[])
 |_=>none
attribute [go_sem] baU
@[go_sem] def wca:D:= .agg [.sl (chs []), .sl (wts []), .sl (ivs []), .sl (pys []), .int .u64 1, .sl (evs []), .int .u64 1, .int .u64 0]
@[go_sem] abbrev gdR:FuncId:=36
@[go_sem] def vdX:Tab:=[(103,baU)]
def qbU:List D→Option (Prop×D×Fr)
 |[]=>some (True,wca,[])
 |_=>none
attribute [go_sem] qbU
end Dm
namespace Dm
open Go Go.Proofs Go.IntWalk
end Dm
namespace Dm
open Go Go.Proofs Go.IntWalk
@[go_sem] def gaQ (a:Ar) (root:Nat) (key:Nat):D:= .tup [.agg [.sl (tms (bh a.l ⟨key, -1,gm [root]⟩).1)], .agg [.int .u64 (if(bh a.l ⟨key, -1,gm [root]⟩).2.2=0 then root else 0:Nat), .sl (cvs []), .int .i64 (bh a.l ⟨key, -1,gm [root]⟩).2.1], .int .i64 (bh a.l ⟨key, -1,gm [root]⟩).2.2]
@[go_sem] abbrev ydo:FuncId:=158
@[go_sem] def kbQ:Tab:=[(218,bW),(149,bz)]
theorem vaa:za Tryz.prog kbQ:=(za.cons kaV (za.cons uJ za.nil))
theorem gbu (a:Ar) (root:Nat) (key:Nat) (h:root≤18446744073709551615):ja Tryz.prog 158 [.agg [.sl (tms a.l)], .c (.int .u64 (root:Int)), .c (.int .u64 (key:Int))] (gaQ a root key):=by
 refine .of (vee vaa (Nat.le_of_ble_eq_true rfl) ?_)
 simp -implicitDefEqProofs only [cdA,go_sem,Go.Proofs.Tryz.f158,simprocAttr, -Int.reduceEq,List.cons.injEq,cdB]
 refine xb.run zcN vaa qa (by kernel_rfl) (by kernel_rfl) ?_
 simp -implicitDefEqProofs only [cdA,go_sem,simprocAttr, -Int.reduceEq,List.cons.injEq,cdB]
 refine⟨fun n hn=> ?_,fun h1=>⟨⟨by rw [if_pos h1],rfl⟩,h1.symm⟩,fun h1=> ?_⟩
 ·simp at hn;omega
 ·obtain⟨h2,h3⟩:=wbh h1
  rw [if_neg h1,h2,h3]
  exact⟨rfl,rfl,rfl,rfl⟩
@[go_sem] def vbQ (a:Ar) (root:Nat) (key:Nat):Prop:=(root≤18446744073709551615)
def yA:List D→Option (Prop×D×Fr)
 |[.agg [.c (.sl z2)], .c (.int .u64 z3), .c (.int .u64 z4)]=>some (z2=tms (qb z2)∧z3=(z3.toNat:Int)∧z4=(z4.toNat:Int)∧vbQ (⟨(qb z2)⟩:Ar) z3.toNat z4.toNat,gaQ (⟨(qb z2)⟩:Ar) z3.toNat z4.toNat,[])
 |_=>none
attribute [go_sem] yA
theorem qX:ga 158 yA:=by
 intro rs p r fr h hp
 unfold yA at h
 split at h<;>cases h
 obtain⟨hc0,hc1,hc2,hp⟩:=hp
 rename_i z2 z3 z4
 have:=gbu ⟨(qb z2)⟩ z3.toNat z4.toNat hp
 rw [←hc0,←hc1,←hc2]at this
 exact this
@[go_sem] def qax (b:Bk) (id:Nat) (key:Nat):D:= .tup [.agg [.sl (chs (ud b id key (zh b.r id key)).1.w.c), .sl (wts (ud b id key (zh b.r id key)).1.w.w), .sl (ivs (ud b id key (zh b.r id key)).1.w.i), .sl (pys (ud b id key (zh b.r id key)).1.w.p), .int .u64 (ud b id key (zh b.r id key)).1.w.f.next, .sl (evs (ud b id key (zh b.r id key)).1.w.f.l), .int .u64 (ud b id key (zh b.r id key)).1.w.next, .int .u64 (ud b id key (zh b.r id key)).1.w.tick, .sl (tms (ud b id key (zh b.r id key)).1.a.l), .sl (rks (ud b id key (zh b.r id key)).1.r), .sl (kys (ud b id key (zh b.r id key)).1.k), .sl (cts (ud b id key (zh b.r id key)).1.s)], .agg [.int .u64 (ud b id key (zh b.r id key)).2.1.root, .sl (cvs (ud b id key (zh b.r id key)).2.1.l), .int .i64 (ud b id key (zh b.r id key)).2.1.tag], .int .i64 (ud b id key (zh b.r id key)).2.2]
@[go_sem] abbrev wc1:FuncId:=27
@[go_sem] def kbt:Tab:=[(32,bg),(77,jag),(158,yA),(23,gj)]
theorem jD:za Tryz.prog kbt:=(za.cons ji (za.cons qba (za.cons qX (za.cons xo za.nil))))
theorem wa5 (b:Bk) (id:Nat) (key:Nat) (h:b.w.f.next≤18446744073709551615∧id≤18446744073709551615):ja Tryz.prog 27 [.agg [.sl (chs b.w.c), .sl (wts b.w.w), .sl (ivs b.w.i), .sl (pys b.w.p), .c (.int .u64 (b.w.f.next:Int)), .sl (evs b.w.f.l), .c (.int .u64 (b.w.next:Int)), .c (.int .u64 (b.w.tick:Int)), .sl (tms b.a.l), .sl (rks b.r), .sl (kys b.k), .sl (cts b.s)], .c (.int .u64 (id:Int)), .c (.int .u64 (key:Int))] (qax b id key):=by
 refine .of (vfk jD (Nat.le_of_ble_eq_true rfl) ?_)
 simp -implicitDefEqProofs only [cdA,go_sem,Go.Proofs.Tryz.f27,simprocAttr, -Int.reduceEq,List.cons.injEq,cdB]
 obtain⟨h,hid⟩:=h
 refine⟨h,fun h1=>⟨fun h2=> ?_,fun h2=>wq (by rw [ud,if_neg (fun h=>h h1),if_pos h2])⟩,fun h1=>wq ?_⟩
 rotate_left 1
 ·rw [ud,if_pos h1,xaA.resolve_left h1]
 have hal:=wbA h2
 refine ke4 jD (Nat.le_of_ble_eq_true rfl) ?_
 simp -implicitDefEqProofs only [cdA,go_sem,Go.Proofs.Tryz.f78,simprocAttr, -Int.reduceEq,List.cons.injEq,cdB]
 refine⟨hid,fun h3=> ?_,fun h3=>wq (by rw [ud,if_neg (fun h=>h h1),if_neg (fun h=>h h2),if_pos h3])⟩
 refine xb.run vco jD qa (by kernel_rfl) (by kernel_rfl) ?_
 simp -implicitDefEqProofs only [cdA,go_sem,simprocAttr, -Int.reduceEq,List.cons.injEq,cdB]
 have hok:=gbM h3 ⟨Int.le_refl _,fun h=>absurd h (Int.lt_irrefl _)⟩
 have hokl:=hok.1
 have hsm:=qU h1
 refine⟨⟨hsm.1,⟨by omega,fun t ht=> ?_⟩,by omega,hsm.2.2.2.1,hsm.2.2.2.2⟩, ?_⟩
 ·obtain⟨j,hj,rfl⟩:=va.1 ht
  exact(hok.2.2 j (List.mem_range.2 hj)).2.2.2
 have e:ud b id key (zh b.r id key)=(⟨b.w,⟨(bh b.a.l ⟨key, -1,gm [id]⟩).1⟩,(zh b.r id key).1,b.k,b.s⟩,⟨id,[],(bh b.a.l ⟨key, -1,gm [id]⟩).2.1⟩,0):=by
  rw [ud,if_neg (fun h=>h h1),if_neg (fun h=>h h2),if_neg (fun h=>h h3)]
 rw [e,if_pos h3]
 exact⟨⟨rfl,rfl,rfl,rfl,rfl,rfl,rfl,rfl,rfl,rfl,rfl,rfl⟩,⟨rfl,rfl,rfl⟩,rfl⟩
@[go_sem] def vbt (b:Bk) (id:Nat) (key:Nat):Prop:=(b.w.f.next≤18446744073709551615∧id≤18446744073709551615)
def gF:List D→Option (Prop×D×Fr)
 |[.agg [.c (.sl z7), .c (.sl z8), .c (.sl z9), .c (.sl z10), .c (.int .u64 z12), .c (.sl z13), .c (.int .u64 z14), .c (.int .u64 z15), .c (.sl z17), .c (.sl z18), .c (.sl z19), .c (.sl z20)], .c (.int .u64 z21), .c (.int .u64 z22)]=>some (z7=chs (yb z7)∧z8=wts (jd z8)∧z9=ivs (qc z9)∧z10=pys (vb z10)∧z12=(z12.toNat:Int)∧z13=evs (jb z13)∧z14=(z14.toNat:Int)∧z15=(z15.toNat:Int)∧z17=tms (qb z17)∧z18=rks (gb z18)∧z19=kys (je z19)∧z20=cts (qd z20)∧z21=(z21.toNat:Int)∧z22=(z22.toNat:Int)∧vbt (⟨(⟨(yb z7),(jd z8),(qc z9),(vb z10),(⟨z12.toNat,(jb z13)⟩:Fd),z14.toNat,z15.toNat⟩:Wl),(⟨(qb z17)⟩:Ar),(gb z18),(je z19),(qd z20)⟩:Bk) z21.toNat z22.toNat,qax (⟨(⟨(yb z7),(jd z8),(qc z9),(vb z10),(⟨z12.toNat,(jb z13)⟩:Fd),z14.toNat,z15.toNat⟩:Wl),(⟨(qb z17)⟩:Ar),(gb z18),(je z19),(qd z20)⟩:Bk) z21.toNat z22.toNat,[])
 |_=>none
attribute [go_sem] gF
theorem war:ga 27 gF:=by
 intro rs p r fr h hp
 unfold gF at h
 split at h<;>cases h
 obtain⟨hc0,hc1,hc2,hc3,hc4,hc5,hc6,hc7,hc8,hc9,hc10,hc11,hc12,hc13,hp⟩:=hp
 rename_i z7 z8 z9 z10 z12 z13 z14 z15 z17 z18 z19 z20 z21 z22
 have:=wa5 ⟨⟨(yb z7),(jd z8),(qc z9),(vb z10),⟨z12.toNat,(jb z13)⟩,z14.toNat,z15.toNat⟩,⟨(qb z17)⟩,(gb z18),(je z19),(qd z20)⟩ z21.toNat z22.toNat hp
 rw [←hc0,←hc1,←hc2,←hc3,←hc4,←hc5,←hc6,←hc7,←hc8,←hc9,←hc10,←hc11,←hc12,←hc13]at this
 exact this
@[go_sem] def vaP (b:Bk) (id:Nat) (key:Nat):D:= .tup [.agg [.sl (chs (ud b id key (uf b.r id key)).1.w.c), .sl (wts (ud b id key (uf b.r id key)).1.w.w), .sl (ivs (ud b id key (uf b.r id key)).1.w.i), .sl (pys (ud b id key (uf b.r id key)).1.w.p), .int .u64 (ud b id key (uf b.r id key)).1.w.f.next, .sl (evs (ud b id key (uf b.r id key)).1.w.f.l), .int .u64 (ud b id key (uf b.r id key)).1.w.next, .int .u64 (ud b id key (uf b.r id key)).1.w.tick, .sl (tms (ud b id key (uf b.r id key)).1.a.l), .sl (rks (ud b id key (uf b.r id key)).1.r), .sl (kys (ud b id key (uf b.r id key)).1.k), .sl (cts (ud b id key (uf b.r id key)).1.s)], .agg [.int .u64 (ud b id key (uf b.r id key)).2.1.root, .sl (cvs (ud b id key (uf b.r id key)).2.1.l), .int .i64 (ud b id key (uf b.r id key)).2.1.tag], .int .i64 (ud b id key (uf b.r id key)).2.2]
@[go_sem] abbrev qdn:FuncId:=28
@[go_sem] def jbO:Tab:=[(32,bg),(79,kX),(158,yA),(23,gj)]
theorem jI:za Tryz.prog jbO:=(za.cons ji (za.cons waV (za.cons qX (za.cons xo za.nil))))
theorem ubt (b:Bk) (id:Nat) (key:Nat) (h:b.w.f.next≤18446744073709551615∧id≤18446744073709551615):ja Tryz.prog 28 [.agg [.sl (chs b.w.c), .sl (wts b.w.w), .sl (ivs b.w.i), .sl (pys b.w.p), .c (.int .u64 (b.w.f.next:Int)), .sl (evs b.w.f.l), .c (.int .u64 (b.w.next:Int)), .c (.int .u64 (b.w.tick:Int)), .sl (tms b.a.l), .sl (rks b.r), .sl (kys b.k), .sl (cts b.s)], .c (.int .u64 (id:Int)), .c (.int .u64 (key:Int))] (vaP b id key):=by
 refine .of (wfk jI (Nat.le_of_ble_eq_true rfl) ?_)
 simp -implicitDefEqProofs only [cdA,go_sem,Go.Proofs.Tryz.f28,simprocAttr, -Int.reduceEq,List.cons.injEq,cdB]
 obtain⟨h,hid⟩:=h
 refine⟨h,fun h1=>⟨fun h2=> ?_,fun h2=>wq (by rw [ud,if_neg (fun h=>h h1),if_pos h2])⟩,fun h1=>wq ?_⟩
 rotate_left 1
 ·rw [ud,if_pos h1,xaA.resolve_left h1]
 have hal:=jbl h2
 refine ke4 jI (Nat.le_of_ble_eq_true rfl) ?_
 simp -implicitDefEqProofs only [cdA,go_sem,Go.Proofs.Tryz.f78,simprocAttr, -Int.reduceEq,List.cons.injEq,cdB]
 refine⟨hid,fun h3=> ?_,fun h3=>wq (by rw [ud,if_neg (fun h=>h h1),if_neg (fun h=>h h2),if_pos h3])⟩
 refine xb.run vco jI qa (by kernel_rfl) (by kernel_rfl) ?_
 simp -implicitDefEqProofs only [cdA,go_sem,simprocAttr, -Int.reduceEq,List.cons.injEq,cdB]
 have hok:=gbM h3 ⟨Int.le_refl _,fun h=>absurd h (Int.lt_irrefl _)⟩
 have hokl:=hok.1
 have hsm:=qU h1
 refine⟨⟨hsm.1,⟨by omega,fun t ht=> ?_⟩,by omega,hsm.2.2.2.1,hsm.2.2.2.2⟩, ?_⟩
 ·obtain⟨j,hj,rfl⟩:=va.1 ht
  exact(hok.2.2 j (List.mem_range.2 hj)).2.2.2
 have e:ud b id key (uf b.r id key)=(⟨b.w,⟨(bh b.a.l ⟨key, -1,gm [id]⟩).1⟩,(uf b.r id key).1,b.k,b.s⟩,⟨id,[],(bh b.a.l ⟨key, -1,gm [id]⟩).2.1⟩,0):=by
  rw [ud,if_neg (fun h=>h h1),if_neg (fun h=>h h2),if_neg (fun h=>h h3)]
 rw [e,if_pos h3]
 exact⟨⟨rfl,rfl,rfl,rfl,rfl,rfl,rfl,rfl,rfl,rfl,rfl,rfl⟩,⟨rfl,rfl,rfl⟩,rfl⟩
@[go_sem] def kbO (b:Bk) (id:Nat) (key:Nat):Prop:=(b.w.f.next≤18446744073709551615∧id≤18446744073709551615)
def qN:List D→Option (Prop×D×Fr)
 |[.agg [.c (.sl z25), .c (.sl z26), .c (.sl z27), .c (.sl z28), .c (.int .u64 z30), .c (.sl z31), .c (.int .u64 z32), .c (.int .u64 z33), .c (.sl z35), .c (.sl z36), .c (.sl z37), .c (.sl z38)], .c (.int .u64 z39), .c (.int .u64 z40)]=>some (z25=chs (yb z25)∧z26=wts (jd z26)∧z27=ivs (qc z27)∧z28=pys (vb z28)∧z30=(z30.toNat:Int)∧z31=evs (jb z31)∧z32=(z32.toNat:Int)∧z33=(z33.toNat:Int)∧z35=tms (qb z35)∧z36=rks (gb z36)∧z37=kys (je z37)∧z38=cts (qd z38)∧z39=(z39.toNat:Int)∧z40=(z40.toNat:Int)∧kbO (⟨(⟨(yb z25),(jd z26),(qc z27),(vb z28),(⟨z30.toNat,(jb z31)⟩:Fd),z32.toNat,z33.toNat⟩:Wl),(⟨(qb z35)⟩:Ar),(gb z36),(je z37),(qd z38)⟩:Bk) z39.toNat z40.toNat,vaP (⟨(⟨(yb z25),(jd z26),(qc z27),(vb z28),(⟨z30.toNat,(jb z31)⟩:Fd),z32.toNat,z33.toNat⟩:Wl),(⟨(qb z35)⟩:Ar),(gb z36),(je z37),(qd z38)⟩:Bk) z39.toNat z40.toNat,[])
 |_=>none
attribute [go_sem] qN
theorem qaF:ga 28 qN:=by
 intro rs p r fr h hp
 unfold qN at h
 split at h<;>cases h
 obtain⟨hc0,hc1,hc2,hc3,hc4,hc5,hc6,hc7,hc8,hc9,hc10,hc11,hc12,hc13,hp⟩:=hp
 rename_i z25 z26 z27 z28 z30 z31 z32 z33 z35 z36 z37 z38 z39 z40
 have:=ubt ⟨⟨(yb z25),(jd z26),(qc z27),(vb z28),⟨z30.toNat,(jb z31)⟩,z32.toNat,z33.toNat⟩,⟨(qb z35)⟩,(gb z36),(je z37),(qd z38)⟩ z39.toNat z40.toNat hp
 rw [←hc0,←hc1,←hc2,←hc3,←hc4,←hc5,←hc6,←hc7,←hc8,←hc9,←hc10,←hc11,←hc12,←hc13]at this
 exact this
@[go_sem] def vbi (b:Bk) (id:Nat):D:= .tup [.agg [.sl (chs (vq b id).1.w.c), .sl (wts (vq b id).1.w.w), .sl (ivs (vq b id).1.w.i), .sl (pys (vq b id).1.w.p), .int .u64 (vq b id).1.w.f.next, .sl (evs (vq b id).1.w.f.l), .int .u64 (vq b id).1.w.next, .int .u64 (vq b id).1.w.tick, .sl (tms (vq b id).1.a.l), .sl (rks (vq b id).1.r), .sl (kys (vq b id).1.k), .sl (cts (vq b id).1.s)], .int .i64 (vq b id).2]
@[go_sem] abbrev jdS:FuncId:=29
@[go_sem] def kcb:Tab:=[(32,bg),(80,jG),(23,gj)]
theorem va5:za Tryz.prog kcb:=(za.cons ji (za.cons bar (za.cons xo za.nil)))
theorem qbO (b:Bk) (id:Nat) (h:b.w.f.next≤18446744073709551615):ja Tryz.prog 29 [.agg [.sl (chs b.w.c), .sl (wts b.w.w), .sl (ivs b.w.i), .sl (pys b.w.p), .c (.int .u64 (b.w.f.next:Int)), .sl (evs b.w.f.l), .c (.int .u64 (b.w.next:Int)), .c (.int .u64 (b.w.tick:Int)), .sl (tms b.a.l), .sl (rks b.r), .sl (kys b.k), .sl (cts b.s)], .c (.int .u64 (id:Int))] (vbi b id):=by
 refine .of (ufk va5 (Nat.le_of_ble_eq_true rfl) ?_)
 simp -implicitDefEqProofs only [cdA,go_sem,Go.Proofs.Tryz.f29,simprocAttr, -Int.reduceEq,List.cons.injEq,cdB]
 have hbad:∀e:Int,vq b id=(wB,e)→(chs (vq b id).1.w.c=[]∧wts (vq b id).1.w.w=[]∧ivs (vq b id).1.w.i=[]∧pys (vq b id).1.w.p=[]∧0=((vq b id).1.w.f.next:Int)∧evs (vq b id).1.w.f.l=[]∧0=((vq b id).1.w.next:Int)∧0=((vq b id).1.w.tick:Int)∧tms (vq b id).1.a.l=[]∧rks (vq b id).1.r=[]∧kys (vq b id).1.k=[]∧cts (vq b id).1.s=[])∧e=(vq b id).2:=fun e h=>by
  rw [h];exact⟨⟨rfl,rfl,rfl,rfl,rfl,rfl,rfl,rfl,rfl,rfl,rfl,rfl⟩,rfl⟩
 refine⟨h,fun h1=>⟨fun h2=> ?_,fun h2=>hbad _ (by rw [vq,if_neg (fun h=>h h1),if_pos h2])⟩,fun h1=>hbad _ (by rw [vq,if_pos h1,xaA.resolve_left h1])⟩
 have hsm:=qU h1
 have hal:=ybS h2
 have hok:=(vas.1 h1).2.1
 have hokl:=hok.1
 refine⟨⟨hsm.1,⟨by omega,fun t ht=> ?_⟩,by omega,hsm.2.2.2.1,hsm.2.2.2.2⟩, ?_⟩
 ·obtain⟨j,hj,rfl⟩:=va.1 ht
  exact(hok.2.2 j (List.mem_range.2 hj)).2.2.2
 have e:vq b id=(⟨b.w,b.a,(waH b.r id).1,b.k,b.s⟩,0):=by rw [vq,if_neg (fun h=>h h1),if_neg (fun h=>h h2)]
 rw [e]
 exact⟨⟨rfl,rfl,rfl,rfl,rfl,rfl,rfl,rfl,rfl,rfl,rfl,rfl⟩,rfl⟩
@[go_sem] def vcb (b:Bk) (id:Nat):Prop:=(b.w.f.next≤18446744073709551615)
def vW:List D→Option (Prop×D×Fr)
 |[.agg [.c (.sl z43), .c (.sl z44), .c (.sl z45), .c (.sl z46), .c (.int .u64 z48), .c (.sl z49), .c (.int .u64 z50), .c (.int .u64 z51), .c (.sl z53), .c (.sl z54), .c (.sl z55), .c (.sl z56)], .c (.int .u64 z57)]=>some (z43=chs (yb z43)∧z44=wts (jd z44)∧z45=ivs (qc z45)∧z46=pys (vb z46)∧z48=(z48.toNat:Int)∧z49=evs (jb z49)∧z50=(z50.toNat:Int)∧z51=(z51.toNat:Int)∧z53=tms (qb z53)∧z54=rks (gb z54)∧z55=kys (je z55)∧z56=cts (qd z56)∧z57=(z57.toNat:Int)∧vcb (⟨(⟨(yb z43),(jd z44),(qc z45),(vb z46),(⟨z48.toNat,(jb z49)⟩:Fd),z50.toNat,z51.toNat⟩:Wl),(⟨(qb z53)⟩:Ar),(gb z54),(je z55),(qd z56)⟩:Bk) z57.toNat,vbi (⟨(⟨(yb z43),(jd z44),(qc z45),(vb z46),(⟨z48.toNat,(jb z49)⟩:Fd),z50.toNat,z51.toNat⟩:Wl),(⟨(qb z53)⟩:Ar),(gb z54),(je z55),(qd z56)⟩:Bk) z57.toNat,[])
 |_=>none
attribute [go_sem] vW
theorem xaV:ga 29 vW:=by
 intro rs p r fr h hp
 unfold vW at h
 split at h<;>cases h
 obtain⟨hc0,hc1,hc2,hc3,hc4,hc5,hc6,hc7,hc8,hc9,hc10,hc11,hc12,hp⟩:=hp
 rename_i z43 z44 z45 z46 z48 z49 z50 z51 z53 z54 z55 z56 z57
 have:=qbO ⟨⟨(yb z43),(jd z44),(qc z45),(vb z46),⟨z48.toNat,(jb z49)⟩,z50.toNat,z51.toNat⟩,⟨(qb z53)⟩,(gb z54),(je z55),(qd z56)⟩ z57.toNat hp
 rw [←hc0,←hc1,←hc2,←hc3,←hc4,←hc5,←hc6,←hc7,←hc8,←hc9,←hc10,←hc11,←hc12]at this
 exact this
end Dm
namespace Dm
open Go Go.Proofs Go.IntWalk
def vcx (a b:Option Nat):Bool:=decide (kj a<kj b)
@[go_sem] def xbf (x:Option Nat):D:= .bool (udK x)
@[go_sem] abbrev wdQ:FuncId:=257
@[go_sem] def yb6:Tab:=[]
theorem ua0:za Tryz.prog yb6:=za.nil
theorem zbI (x:Option Nat):ja Tryz.prog 257 [.c (.flt .f64 x)] (xbf x):=by
 refine .of (wem ua0 (Nat.le_of_ble_eq_true rfl) ?_)
 simp -implicitDefEqProofs only [cdA,go_sem,Go.Proofs.Tryz.f257,simprocAttr, -Int.reduceEq,List.cons.injEq,cdB]
 rfl
def xV:List D→Option (Prop×D×Fr)
 |[.c (.flt .f64 z1)]=>some (True,xbf z1,[])
 |_=>none
attribute [go_sem] xV
theorem baT:∀rs p r fr,xV rs=some (p,r,fr)→p→gaH Tryz.prog 257 rs r fr:=by
 intro rs p r fr h hp
 unfold xV at h
 split at h<;>cases h
 rename_i z1
 exact zbI z1
@[go_sem] def qck (x:Option Nat) (y:Option Nat):D:= .int .i64 (vai (kj x) (kj y))
@[go_sem] abbrev bfb:FuncId:=234
@[go_sem] def zdc:Tab:=[(257,xV)]
theorem zbD:za Tryz.prog zdc:=(za.cons baT za.nil)
theorem gcs (x:Option Nat) (y:Option Nat):ja Tryz.prog 234 [.c (.flt .f64 x), .c (.flt .f64 y)] (qck x y):=by
 refine .of (uek zbD (Nat.le_of_ble_eq_true rfl) ?_)
 simp -implicitDefEqProofs only [cdA,go_sem,Go.Proofs.Tryz.f234,simprocAttr, -Int.reduceEq,List.cons.injEq,cdB]
 have h1:=uH x
 have h2:=uH y
 rw [yaB,yaB,xbF,gcx]
 generalize kj x=a at*
 generalize kj y=b at*
 generalize b9=k at*
 unfold vai
 simp only [decide_eq_true_eq,decide_eq_false_iff_not,Bool.and_eq_true,Bool.and_eq_false_iff,ne_eq,Classical.not_not]
 refine⟨fun h3=>⟨fun h4=> ?_,fun h4=> ?_⟩,fun h3=>⟨fun h4=> ?_,fun h4=>⟨fun h5=> ?_,fun h5=>⟨fun h6=> ?_,fun h6=> ?_⟩⟩⟩⟩
 all_goals (repeat' split)<;>first|rfl|(exfalso;omega)
def waD:List D→Option (Prop×D×Fr)
 |[.c (.flt .f64 z2), .c (.flt .f64 z3)]=>some (True,qck z2 z3,[])
 |_=>none
attribute [go_sem] waD
theorem qbx:∀rs p r fr,waD rs=some (p,r,fr)→p→gaH Tryz.prog 234 rs r fr:=by
 intro rs p r fr h hp
 unfold waD at h
 split at h<;>cases h
 rename_i z2 z3
 exact gcs z2 z3
@[go_sem] def gbj (a:Option Nat) (b:Option Nat):D:= .bool (vcx a b)
@[go_sem] abbrev kdT:FuncId:=192
@[go_sem] def qce:Tab:=[]
theorem ua6:za Tryz.prog qce:=za.nil
theorem xbS (a:Option Nat) (b:Option Nat):ja Tryz.prog 192 [.c (.flt .f64 a), .c (.flt .f64 b)] (gbj a b):=by
 refine .of (jeh ua6 (Nat.le_of_ble_eq_true rfl) ?_)
 simp -implicitDefEqProofs only [cdA,go_sem,Go.Proofs.Tryz.f192,simprocAttr, -Int.reduceEq,List.cons.injEq,cdB]
 have h1:=uH a
 have h2:=uH b
 have hf:=yaB a
 unfold udK at hf
 rw [hf,xbF,zb4,vcx]
 generalize kj a=x at*
 generalize kj b=y at*
 generalize b9=k at*
 by_cases h3:x=k
 ·by_cases h4:y=k
  ·have:¬x<y:=by omega
   simp [h3,h4]
  ·have:x<y:=by omega
   have:k<y:=by omega
   simp [h3,h4,this]
 ·simp [h3]
def gX:List D→Option (Prop×D×Fr)
 |[.c (.flt .f64 z4), .c (.flt .f64 z5)]=>some (True,gbj z4 z5,[])
 |_=>none
attribute [go_sem] gX
theorem baV:∀rs p r fr,gX rs=some (p,r,fr)→p→gaH Tryz.prog 192 rs r fr:=by
 intro rs p r fr h hp
 unfold gX at h
 split at h<;>cases h
 rename_i z4 z5
 exact xbS z4 z5
def uck (a b:Option Nat):Bool:=decide (kj a=kj b)
@[go_sem] def bbj (a:Option Nat) (b:Option Nat):D:= .bool (uck a b)
@[go_sem] abbrev vdT:FuncId:=108
@[go_sem] def jce:Tab:=[(192,gX)]
theorem ga6:za Tryz.prog jce:=(za.cons baV za.nil)
theorem qbS (a:Option Nat) (b:Option Nat):ja Tryz.prog 108 [.c (.flt .f64 a), .c (.flt .f64 b)] (bbj a b):=by
 refine .of (jea ga6 (Nat.le_of_ble_eq_true rfl) ?_)
 simp -implicitDefEqProofs only [cdA,go_sem,Go.Proofs.Tryz.f108,simprocAttr, -Int.reduceEq,List.cons.injEq,cdB]
 unfold vcx uck
 generalize kj a=x at*
 generalize kj b=y at*
 by_cases h3:x<y
 ·have:¬x=y:=by omega
  simp [h3,this]
 ·by_cases h4:y<x
  ·have:¬x=y:=by omega
   simp [h3,h4,this]
  ·have:x=y:=by omega
   simp [this]
def bX:List D→Option (Prop×D×Fr)
 |[.c (.flt .f64 z6), .c (.flt .f64 z7)]=>some (True,bbj z6 z7,[])
 |_=>none
attribute [go_sem] bX
theorem zaW:∀rs p r fr,bX rs=some (p,r,fr)→p→gaH Tryz.prog 108 rs r fr:=by
 intro rs p r fr h hp
 unfold bX at h
 split at h<;>cases h
 rename_i z6 z7
 exact qbS z6 z7
end Dm
namespace Dm
open Go Go.Proofs Go.IntWalk
theorem zi {α:Type} [DecidableEq α] {a b:List α} (h:¬(a.length:Int)=b.length):false=decide (a=b):=by
 rw [eq_comm,decide_eq_false_iff_not]
 rintro rfl;exact h rfl
theorem qm {α:Type} [DecidableEq α] [Inhabited α] {a b:List α} {i:Nat} (h:¬a.getD i default=b.getD i default):false=decide (a=b):=by
 rw [eq_comm,decide_eq_false_iff_not]
 rintro rfl;exact h rfl
theorem gh {α:Type} [DecidableEq α] {a b:List α} {i:Nat} (hl:(a.length:Int)=b.length) (hi:i≤a.length) (h:¬(i:Int)<a.length) (hab:a.take i=b.take i):true=decide (a=b):=by
 have e:i=a.length:=by omega
 rw [e,List.take_length,List.take_of_length_le (by omega)]at hab
 rw [hab,decide_eq_true rfl]
theorem yg {α:Type} [DecidableEq α] [Inhabited α] {a b:List α} {i:Nat} (h:(i:Int)<a.length) (hl:(a.length:Int)=b.length) (hab:a.take i=b.take i) (he:a.getD i default=b.getD i default):i+1≤a.length∧a.take (i+1)=b.take (i+1):=
 ⟨by omega,(wG (by omega) (by omega) hab).2 he⟩
attribute [go_sem] Hd.eqD
@[go_sem] def gbG (a:List Hd) (b:List Hd):D:= .bool (decide (a=b))
@[go_sem] abbrev yeL:FuncId:=256
@[go_sem] def kcz:Tab:=[]
theorem u5:za Tryz.prog kcz:=za.nil
theorem vb5 (a:List Hd) (b:List Hd):ja Tryz.prog 256 [.sl (hds a), .sl (hds b)] (gbG a b):=by
 refine .of (vem u5 (Nat.le_of_ble_eq_true rfl) ?_)
 simp -implicitDefEqProofs only [cdA,go_sem,Go.Proofs.Tryz.f256,simprocAttr, -Int.reduceEq,List.cons.injEq,cdB]
 refine fun _ _=>⟨fun hl _=> ?_,zi⟩
 refine SWp.loop (ι:={i:Nat // i≤a.length∧a.take i=b.take i}) (fun i=>⟨[(0, .sl (hds a)),(1, .sl (hds b)),(12, .int .i64 a.length),(13, .int .i64 i.1)],[],0⟩) (fun i=>a.length - i.1) ⟨0,by simp⟩ ?_ ?_
 ·simp [go_sem]
 ·rintro⟨i,hi,hab⟩
  refine ya u5.toS xdl _ _ _ rfl ?_
  simp -implicitDefEqProofs only [cdA,go_sem,simprocAttr, -Int.reduceEq,List.cons.injEq,cdB]
  refine⟨fun h=> ?_,fun h=>gh hl hi h hab⟩
  refine xb.run bcO u5 qa (by kernel_rfl) (by kernel_rfl) ?_
  simp -implicitDefEqProofs only [cdA,go_sem,simprocAttr, -Int.reduceEq,List.cons.injEq,cdB]
  exact⟨by omega,by omega,fun he=>⟨⟨i+1,yg h hl hab he⟩,by dsimp only;omega,i64_in _ (by omega)⟩,qm⟩
def kaf:List D→Option (Prop×D×Fr)
 |[.c (.sl z1), .c (.sl z2)]=>some (z1=hds (bn z1)∧z2=hds (bn z2),gbG (bn z1) (bn z2),[])
 |_=>none
attribute [go_sem] kaf
theorem qa9:ga 256 kaf:=by
 intro rs p r fr h hp
 unfold kaf at h
 split at h<;>cases h
 obtain⟨hc0,hc1⟩:=hp
 rename_i z1 z2
 have:=vb5 (bn z1) (bn z2)
 rw [←hc0,←hc1]at this
 exact this
@[go_sem] def jbD (a:Ch) (b:Ch):D:= .bool (decide (a=b))
@[go_sem] abbrev veJ:FuncId:=233
@[go_sem] def zct:Tab:=[(256,kaf)]
theorem bbm:za Tryz.prog zct:=(za.cons qa9 za.nil)
theorem bb0 (a:Ch) (b:Ch):ja Tryz.prog 233 [.agg [.c (.int .u64 (a.id:Int)), .c (.int .u64 (a.loc:Int)), .c (.int .u64 (a.rem:Int)), .c (.int .u64 (a.res:Int)), .c (.int .u64 (a.most:Int)), .sl (hds a.holds), .c (.bool a.op)], .agg [.c (.int .u64 (b.id:Int)), .c (.int .u64 (b.loc:Int)), .c (.int .u64 (b.rem:Int)), .c (.int .u64 (b.res:Int)), .c (.int .u64 (b.most:Int)), .sl (hds b.holds), .c (.bool b.op)]] (jbD a b):=by
 refine .of (wek bbm (Nat.le_of_ble_eq_true rfl) ?_)
 simp -implicitDefEqProofs only [cdA,go_sem,Go.Proofs.Tryz.f233,simprocAttr, -Int.reduceEq,List.cons.injEq,cdB]
 cases a;cases b
 simp only [Ch.mk.injEq,Int.natCast_inj]
 grind
def zae:List D→Option (Prop×D×Fr)
 |[.agg [.c (.int .u64 z4), .c (.int .u64 z5), .c (.int .u64 z6), .c (.int .u64 z7), .c (.int .u64 z8), .c (.sl z9), .c (.bool z10)], .agg [.c (.int .u64 z12), .c (.int .u64 z13), .c (.int .u64 z14), .c (.int .u64 z15), .c (.int .u64 z16), .c (.sl z17), .c (.bool z18)]]=>some (z4=(z4.toNat:Int)∧z5=(z5.toNat:Int)∧z6=(z6.toNat:Int)∧z7=(z7.toNat:Int)∧z8=(z8.toNat:Int)∧z9=hds (bn z9)∧z12=(z12.toNat:Int)∧z13=(z13.toNat:Int)∧z14=(z14.toNat:Int)∧z15=(z15.toNat:Int)∧z16=(z16.toNat:Int)∧z17=hds (bn z17),jbD (⟨z4.toNat,z5.toNat,z6.toNat,z7.toNat,z8.toNat,(bn z9),z10⟩:Ch) (⟨z12.toNat,z13.toNat,z14.toNat,z15.toNat,z16.toNat,(bn z17),z18⟩:Ch),[])
 |_=>none
attribute [go_sem] zae
theorem ua7:ga 233 zae:=by
 intro rs p r fr h hp
 unfold zae at h
 split at h<;>cases h
 obtain⟨hc0,hc1,hc2,hc3,hc4,hc5,hc6,hc7,hc8,hc9,hc10,hc11⟩:=hp
 rename_i z4 z5 z6 z7 z8 z9 z10 z12 z13 z14 z15 z16 z17 z18
 have:=bb0 ⟨z4.toNat,z5.toNat,z6.toNat,z7.toNat,z8.toNat,(bn z9),z10⟩ ⟨z12.toNat,z13.toNat,z14.toNat,z15.toNat,z16.toNat,(bn z17),z18⟩
 rw [←hc0,←hc1,←hc2,←hc3,←hc4,←hc5,←hc6,←hc7,←hc8,←hc9,←hc10,←hc11]at this
 exact this
@[go_sem] def zbK (a:List Ch) (b:List Ch):D:= .bool (decide (a=b))
@[go_sem] abbrev weL:FuncId:=174
@[go_sem] def ucB:Tab:=[(233,zae)]
theorem x6:za Tryz.prog ucB:=(za.cons ua7 za.nil)
theorem vb7 (a:List Ch) (b:List Ch):ja Tryz.prog 174 [.sl (chs a), .sl (chs b)] (zbK a b):=by
 refine .of (bef x6 (Nat.le_of_ble_eq_true rfl) ?_)
 simp -implicitDefEqProofs only [cdA,go_sem,Go.Proofs.Tryz.f174,simprocAttr, -Int.reduceEq,List.cons.injEq,cdB]
 refine vek x6 (Nat.le_of_ble_eq_true rfl) ?_
 simp -implicitDefEqProofs only [cdA,go_sem,Go.Proofs.Tryz.f232,simprocAttr, -Int.reduceEq,List.cons.injEq,cdB]
 refine fun _ _=>⟨fun hl _=> ?_,zi⟩
 refine SWp.loop (ι:={i:Nat // i≤a.length∧a.take i=b.take i}) (fun i=>⟨[(1, .sl (chs b)),(2, .fn (.func 233) [] []),(15, .sl (chs a)),(16, .int .i64 a.length),(17, .int .i64 i.1)],[],0⟩) (fun i=>a.length - i.1) ⟨0,by simp⟩ ?_ ?_
 ·simp [go_sem]
 ·rintro⟨i,hi,hab⟩
  refine ya x6.toS qdk _ _ _ rfl ?_
  simp -implicitDefEqProofs only [cdA,go_sem,simprocAttr, -Int.reduceEq,List.cons.injEq,cdB]
  refine⟨fun h=> ?_,fun h=>gh hl hi h hab⟩
  exact⟨by omega,by omega,fun he=>⟨⟨i+1,yg h hl hab he⟩,by dsimp only;omega,i64_in _ (by omega)⟩,qm⟩
def baf:List D→Option (Prop×D×Fr)
 |[.c (.sl z19), .c (.sl z20)]=>some (z19=chs (yb z19)∧z20=chs (yb z20),zbK (yb z19) (yb z20),[])
 |_=>none
attribute [go_sem] baf
theorem ua9:ga 174 baf:=by
 intro rs p r fr h hp
 unfold baf at h
 split at h<;>cases h
 obtain⟨hc0,hc1⟩:=hp
 rename_i z19 z20
 have:=vb7 (yb z19) (yb z20)
 rw [←hc0,←hc1]at this
 exact this
@[go_sem] def gbH (a:List Iv) (b:List Iv):D:= .bool (decide (a=b))
@[go_sem] abbrev qeL:FuncId:=177
@[go_sem] def xcA:Tab:=[]
theorem uL:za Tryz.prog xcA:=za.nil
theorem bb5 (a:List Iv) (b:List Iv):ja Tryz.prog 177 [.sl (ivs a), .sl (ivs b)] (gbH a b):=by
 refine .of (xeg uL (Nat.le_of_ble_eq_true rfl) ?_)
 simp -implicitDefEqProofs only [cdA,go_sem,Go.Proofs.Tryz.f177,simprocAttr, -Int.reduceEq,List.cons.injEq,cdB]
 refine gek uL (Nat.le_of_ble_eq_true rfl) ?_
 simp -implicitDefEqProofs only [cdA,go_sem,Go.Proofs.Tryz.f235,simprocAttr, -Int.reduceEq,List.cons.injEq,cdB]
 refine fun _ _=>⟨fun hl _=> ?_,zi⟩
 refine SWp.loop (ι:={i:Nat // i≤a.length∧a.take i=b.take i}) (fun i=>⟨[(1, .sl (ivs b)),(2, .fn (.func 236) [] []),(15, .sl (ivs a)),(16, .int .i64 a.length),(17, .int .i64 i.1)],[],0⟩) (fun i=>a.length - i.1) ⟨0,by simp⟩ ?_ ?_
 ·simp [go_sem]
 ·rintro⟨i,hi,hab⟩
  refine ya uL.toS jdk _ _ _ rfl ?_
  simp -implicitDefEqProofs only [cdA,go_sem,simprocAttr, -Int.reduceEq,List.cons.injEq,cdB]
  refine⟨fun h=> ?_,fun h=>gh hl hi h hab⟩
  refine⟨by omega,by omega, ?_⟩
  refine bek uL (Nat.le_of_ble_eq_true rfl) ?_
  simp -implicitDefEqProofs only [cdA,go_sem,Go.Proofs.Tryz.f236,simprocAttr, -Int.reduceEq,List.cons.injEq,cdB]
  exact⟨fun he=>⟨⟨i+1,yg h hl hab he⟩,by dsimp only;omega,i64_in _ (by omega)⟩,qm⟩
def waf:List D→Option (Prop×D×Fr)
 |[.c (.sl z21), .c (.sl z22)]=>some (z21=ivs (qc z21)∧z22=ivs (qc z22),gbH (qc z21) (qc z22),[])
 |_=>none
attribute [go_sem] waf
theorem ka9:ga 177 waf:=by
 intro rs p r fr h hp
 unfold waf at h
 split at h<;>cases h
 obtain⟨hc0,hc1⟩:=hp
 rename_i z21 z22
 have:=bb5 (qc z21) (qc z22)
 rw [←hc0,←hc1]at this
 exact this
@[go_sem] def qcn (a:List Py) (b:List Py):D:= .bool (decide (a=b))
@[go_sem] abbrev zfd:FuncId:=237
@[go_sem] def gds:Tab:=[]
theorem bak:za Tryz.prog gds:=za.nil
theorem gcH (a:List Py) (b:List Py):ja Tryz.prog 237 [.sl (pys a), .sl (pys b)] (qcn a b):=by
 refine .of (zel bak (Nat.le_of_ble_eq_true rfl) ?_)
 simp -implicitDefEqProofs only [cdA,go_sem,Go.Proofs.Tryz.f237,simprocAttr, -Int.reduceEq,List.cons.injEq,cdB]
 refine fun _ _=>⟨fun hl _=> ?_,zi⟩
 refine SWp.loop (ι:={i:Nat // i≤a.length∧a.take i=b.take i}) (fun i=>⟨[(0, .sl (pys a)),(1, .sl (pys b)),(12, .int .i64 a.length),(13, .int .i64 i.1)],[],0⟩) (fun i=>a.length - i.1) ⟨0,by simp⟩ ?_ ?_
 ·simp [go_sem]
 ·rintro⟨i,hi,hab⟩
  refine ya bak.toS kdk _ _ _ rfl ?_
  simp -implicitDefEqProofs only [cdA,go_sem,simprocAttr, -Int.reduceEq,List.cons.injEq,cdB]
  refine⟨fun h=> ?_,fun h=>gh hl hi h hab⟩
  refine xb.run vcO bak qa (by kernel_rfl) (by kernel_rfl) ?_
  simp -implicitDefEqProofs only [cdA,go_sem,simprocAttr, -Int.reduceEq,List.cons.injEq,cdB]
  exact⟨by omega,by omega,fun he=>⟨⟨i+1,yg h hl hab he⟩,by dsimp only;omega,i64_in _ (by omega)⟩,qm⟩
def baE:List D→Option (Prop×D×Fr)
 |[.c (.sl z23), .c (.sl z24)]=>some (z23=pys (vb z23)∧z24=pys (vb z24),qcn (vb z23) (vb z24),[])
 |_=>none
attribute [go_sem] baE
theorem qby:ga 237 baE:=by
 intro rs p r fr h hp
 unfold baE at h
 split at h<;>cases h
 obtain⟨hc0,hc1⟩:=hp
 rename_i z23 z24
 have:=gcH (vb z23) (vb z24)
 rw [←hc0,←hc1]at this
 exact this
@[go_sem] def kbM (a:List Py) (b:List Py):D:= .bool (decide (a=b))
@[go_sem] abbrev ueL:FuncId:=178
@[go_sem] def jcH:Tab:=[(237,baE)]
theorem xbq:za Tryz.prog jcH:=(za.cons qby za.nil)
theorem gb9 (a:List Py) (b:List Py):ja Tryz.prog 178 [.sl (pys a), .sl (pys b)] (kbM a b):=by
 refine .of (qeg xbq (Nat.le_of_ble_eq_true rfl) ?_)
 simp -implicitDefEqProofs only [cdA,go_sem,Go.Proofs.Tryz.f178,simprocAttr, -Int.reduceEq,List.cons.injEq,cdB]
def zag:List D→Option (Prop×D×Fr)
 |[.c (.sl z25), .c (.sl z26)]=>some (z25=pys (vb z25)∧z26=pys (vb z26),kbM (vb z25) (vb z26),[])
 |_=>none
attribute [go_sem] zag
theorem ga9:ga 178 zag:=by
 intro rs p r fr h hp
 unfold zag at h
 split at h<;>cases h
 obtain⟨hc0,hc1⟩:=hp
 rename_i z25 z26
 have:=gb9 (vb z25) (vb z26)
 rw [←hc0,←hc1]at this
 exact this
@[go_sem] def kck (a:List Ev) (b:List Ev):D:= .bool (decide (a=b))
@[go_sem] abbrev yfc:FuncId:=238
@[go_sem] def xdd:Tab:=[]
theorem gai:za Tryz.prog xdd:=za.nil
theorem zcu (a:List Ev) (b:List Ev):ja Tryz.prog 238 [.sl (evs a), .sl (evs b)] (kck a b):=by
 refine .of (yel gai (Nat.le_of_ble_eq_true rfl) ?_)
 simp -implicitDefEqProofs only [cdA,go_sem,Go.Proofs.Tryz.f238,simprocAttr, -Int.reduceEq,List.cons.injEq,cdB]
 refine fun _ _=>⟨fun hl _=> ?_,zi⟩
 refine SWp.loop (ι:={i:Nat // i≤a.length∧a.take i=b.take i}) (fun i=>⟨[(0, .sl (evs a)),(1, .sl (evs b)),(12, .int .i64 a.length),(13, .int .i64 i.1)],[],0⟩) (fun i=>a.length - i.1) ⟨0,by simp⟩ ?_ ?_
 ·simp [go_sem]
 ·rintro⟨i,hi,hab⟩
  refine ya gai.toS vdk _ _ _ rfl ?_
  simp -implicitDefEqProofs only [cdA,go_sem,simprocAttr, -Int.reduceEq,List.cons.injEq,cdB]
  refine⟨fun h=> ?_,fun h=>gh hl hi h hab⟩
  refine xb.run wcO gai qa (by kernel_rfl) (by kernel_rfl) ?_
  simp -implicitDefEqProofs only [cdA,go_sem,simprocAttr, -Int.reduceEq,List.cons.injEq,cdB]
  exact⟨by omega,by omega,fun he=>⟨⟨i+1,yg h hl hab he⟩,by dsimp only;omega,i64_in _ (by omega)⟩,qm⟩
def gaD:List D→Option (Prop×D×Fr)
 |[.c (.sl z27), .c (.sl z28)]=>some (z27=evs (jb z27)∧z28=evs (jb z28),kck (jb z27) (jb z28),[])
 |_=>none
attribute [go_sem] gaD
theorem kbx:ga 238 gaD:=by
 intro rs p r fr h hp
 unfold gaD at h
 split at h<;>cases h
 obtain⟨hc0,hc1⟩:=hp
 rename_i z27 z28
 have:=zcu (jb z27) (jb z28)
 rw [←hc0,←hc1]at this
 exact this
@[go_sem] def jbF (a:Fd) (b:Fd):D:= .bool (decide (a=b))
@[go_sem] abbrev keK:FuncId:=179
@[go_sem] def zcy:Tab:=[(238,gaD)]
theorem xbo:za Tryz.prog zcy:=(za.cons kbx za.nil)
theorem yb4 (a:Fd) (b:Fd):ja Tryz.prog 179 [.agg [.c (.int .u64 (a.next:Int)), .sl (evs a.l)], .agg [.c (.int .u64 (b.next:Int)), .sl (evs b.l)]] (jbF a b):=by
 refine .of (jeg xbo (Nat.le_of_ble_eq_true rfl) ?_)
 simp -implicitDefEqProofs only [cdA,go_sem,Go.Proofs.Tryz.f179,simprocAttr, -Int.reduceEq,List.cons.injEq,cdB]
 cases a;cases b
 simp only [Fd.mk.injEq,Int.natCast_inj]
 grind
def bae:List D→Option (Prop×D×Fr)
 |[.agg [.c (.int .u64 z30), .c (.sl z31)], .agg [.c (.int .u64 z33), .c (.sl z34)]]=>some (z30=(z30.toNat:Int)∧z31=evs (jb z31)∧z33=(z33.toNat:Int)∧z34=evs (jb z34),jbF (⟨z30.toNat,(jb z31)⟩:Fd) (⟨z33.toNat,(jb z34)⟩:Fd),[])
 |_=>none
attribute [go_sem] bae
theorem wa8:ga 179 bae:=by
 intro rs p r fr h hp
 unfold bae at h
 split at h<;>cases h
 obtain⟨hc0,hc1,hc2,hc3⟩:=hp
 rename_i z30 z31 z33 z34
 have:=yb4 ⟨z30.toNat,(jb z31)⟩ ⟨z33.toNat,(jb z34)⟩
 rw [←hc0,←hc1,←hc2,←hc3]at this
 exact this
def lik (a b:Wt):Bool:=decide (a.id=b.id∧kj a.w=kj b.w)
@[go_sem] def bbl (a:Wt) (b:Wt):D:= .bool (lik a b)
@[go_sem] abbrev jdU:FuncId:=176
@[go_sem] def zci:Tab:=[(234,waD)]
theorem gbb:za Tryz.prog zci:=(za.cons qbx za.nil)
theorem vbX (a:Wt) (b:Wt):ja Tryz.prog 176 [.agg [.c (.int .u64 (a.id:Int)), .c (.flt .f64 a.w)], .agg [.c (.int .u64 (b.id:Int)), .c (.flt .f64 b.w)]] (bbl a b):=by
 refine .of (yeg gbb (Nat.le_of_ble_eq_true rfl) ?_)
 simp -implicitDefEqProofs only [cdA,go_sem,Go.Proofs.Tryz.f176,simprocAttr, -Int.reduceEq,List.cons.injEq,cdB]
 simp only [xck,Int.natCast_inj,lik]
 grind
def zZ:List D→Option (Prop×D×Fr)
 |[.agg [.c (.int .u64 z36), .c (.flt .f64 z37)], .agg [.c (.int .u64 z39), .c (.flt .f64 z40)]]=>some (z36=(z36.toNat:Int)∧z39=(z39.toNat:Int),bbl (⟨z36.toNat,z37⟩:Wt) (⟨z39.toNat,z40⟩:Wt),[])
 |_=>none
attribute [go_sem] zZ
theorem kaW:ga 176 zZ:=by
 intro rs p r fr h hp
 unfold zZ at h
 split at h<;>cases h
 obtain⟨hc0,hc1⟩:=hp
 rename_i z36 z37 z39 z40
 have:=vbX ⟨z36.toNat,z37⟩ ⟨z39.toNat,z40⟩
 rw [←hc0,←hc1]at this
 exact this
def jbY (a b:List Wt):Bool:=decide (a.length=b.length∧∀j,j<a.length→lik (a.getD j default) (b.getD j default)=true)
theorem gbf {a b:List Wt} (h:¬(a.length:Int)=b.length):false=jbY a b:=by
 rw [eq_comm,jbY,decide_eq_false_iff_not];exact fun h1=>h (by omega)
theorem ycB {a b:List Wt} {i:Nat} (h0:(i:Int)<a.length) (h:lik (a.getD i default) (b.getD i default)=false):false=jbY a b:=by
 rw [eq_comm,jbY,decide_eq_false_iff_not];exact fun h1=>by have:=h1.2 i (by omega);rw [h]at this;cases this
theorem ubf {a b:List Wt} {i:Nat} (hl:(a.length:Int)=b.length) (h:¬(i:Int)<a.length) (hab:∀j,j<i→lik (a.getD j default) (b.getD j default)=true):jbY a b=true:=by
 rw [jbY,decide_eq_true_eq];exact⟨by omega,fun j hj=>hab j (by omega)⟩
theorem yaM {a b:List Wt} {i:Nat} (h:(i:Int)<a.length) (hab:∀j,j<i→lik (a.getD j default) (b.getD j default)=true) (he:lik (a.getD i default) (b.getD i default)=true):i+1≤a.length∧∀j,j<i+1→lik (a.getD j default) (b.getD j default)=true:=
 ⟨by omega,fun j hj=>by
  by_cases e:j=i
  ·rw [e];exact he
  ·exact hab j (by omega)⟩
theorem qbJ (a:List Wt):jbY a a=true:=decide_eq_true ⟨rfl,fun _ _=>decide_eq_true ⟨rfl,rfl⟩⟩
def qaD (a b:Wl):Bool:=decide (a.c=b.c∧jbY a.w b.w=true∧a.i=b.i∧a.p=b.p∧a.f=b.f∧a.next=b.next∧a.tick=b.tick)
@[go_sem] def ubX (a:Wl) (b:Wl):D:= .bool (qaD a b)
@[go_sem] abbrev weN:FuncId:=91
@[go_sem] def qcQ:Tab:=[(174,baf),(177,waf),(178,zag),(179,bae),(176,zZ)]
theorem b8:za Tryz.prog qcQ:=(za.cons ua9 (za.cons ka9 (za.cons ga9 (za.cons wa8 (za.cons kaW za.nil)))))
theorem yci (a:Wl) (b:Wl):ja Tryz.prog 91 [.agg [.sl (chs a.c), .sl (wts a.w), .sl (ivs a.i), .sl (pys a.p), .c (.int .u64 (a.f.next:Int)), .sl (evs a.f.l), .c (.int .u64 (a.next:Int)), .c (.int .u64 (a.tick:Int))], .agg [.sl (chs b.c), .sl (wts b.w), .sl (ivs b.i), .sl (pys b.p), .c (.int .u64 (b.f.next:Int)), .sl (evs b.f.l), .c (.int .u64 (b.next:Int)), .c (.int .u64 (b.tick:Int))]] (ubX a b):=by
 refine .of (zfq b8 (Nat.le_of_ble_eq_true rfl) ?_)
 simp -implicitDefEqProofs only [cdA,go_sem,Go.Proofs.Tryz.f91,simprocAttr, -Int.reduceEq,List.cons.injEq,cdB]
 refine⟨fun hc=> ?_,fun hc=> ?_⟩
 rotate_left 1
 ·rw [eq_comm,qaD,decide_eq_false_iff_not];exact fun h=>hc h.1
 refine zeg b8 (Nat.le_of_ble_eq_true rfl) ?_
 simp -implicitDefEqProofs only [cdA,go_sem,Go.Proofs.Tryz.f175,simprocAttr, -Int.reduceEq,List.cons.injEq,cdB]
 refine fun _ _=>⟨fun hl _=> ?_,fun hl=> ?_⟩
 rotate_left 1
 ·rw [eq_comm,qaD,decide_eq_false_iff_not];exact fun h=>by have:=h.2.1;rw [←gbf hl]at this;cases this
 refine SWp.loop (ι:={i:Nat // i≤a.w.length∧∀j,j<i→lik (a.w.getD j default) (b.w.getD j default)=true}) (fun i=>⟨[(1, .sl (wts b.w)),(2, .fn (.func 176) [] []),(15, .sl (wts a.w)),(16, .int .i64 a.w.length),(17, .int .i64 i.1)],[(1, .box [.sl (chs b.c), .sl (wts b.w), .sl (ivs b.i), .sl (pys b.p), .c (.int .u64 b.f.next), .sl (evs b.f.l), .c (.int .u64 b.next), .c (.int .u64 b.tick)]),(0, .box [.sl (chs a.c), .sl (wts a.w), .sl (ivs a.i), .sl (pys a.p), .c (.int .u64 a.f.next), .sl (evs a.f.l), .c (.int .u64 a.next), .c (.int .u64 a.tick)])],2⟩) (fun i=>a.w.length - i.1) ⟨0,by simp⟩ ?_ ?_
 ·simp [go_sem]
 ·rintro⟨i,hi,hab⟩
  refine ya b8.toS vdi _ _ _ rfl ?_
  simp -implicitDefEqProofs only [cdA,go_sem,simprocAttr, -Int.reduceEq,List.cons.injEq,cdB]
  refine⟨fun h=>⟨by omega,by omega,fun he=>⟨⟨i+1,yaM h hab he⟩,by dsimp only;omega,i64_in _ (by omega)⟩,fun he=> ?_⟩,fun h=> ?_⟩
  ·rw [eq_comm,qaD,decide_eq_false_iff_not];exact fun h2=>by have:=h2.2.1;rw [←ycB h he]at this;cases this
  have hw:=ubf hl h hab
  unfold qaD
  simp only [hw,hc,Int.natCast_inj]
  clear h hab hl
  grind
def qah:List D→Option (Prop×D×Fr)
 |[.agg [.c (.sl z42), .c (.sl z43), .c (.sl z44), .c (.sl z45), .c (.int .u64 z47), .c (.sl z48), .c (.int .u64 z49), .c (.int .u64 z50)], .agg [.c (.sl z52), .c (.sl z53), .c (.sl z54), .c (.sl z55), .c (.int .u64 z57), .c (.sl z58), .c (.int .u64 z59), .c (.int .u64 z60)]]=>some (z42=chs (yb z42)∧z43=wts (jd z43)∧z44=ivs (qc z44)∧z45=pys (vb z45)∧z47=(z47.toNat:Int)∧z48=evs (jb z48)∧z49=(z49.toNat:Int)∧z50=(z50.toNat:Int)∧z52=chs (yb z52)∧z53=wts (jd z53)∧z54=ivs (qc z54)∧z55=pys (vb z55)∧z57=(z57.toNat:Int)∧z58=evs (jb z58)∧z59=(z59.toNat:Int)∧z60=(z60.toNat:Int),ubX (⟨(yb z42),(jd z43),(qc z44),(vb z45),(⟨z47.toNat,(jb z48)⟩:Fd),z49.toNat,z50.toNat⟩:Wl) (⟨(yb z52),(jd z53),(qc z54),(vb z55),(⟨z57.toNat,(jb z58)⟩:Fd),z59.toNat,z60.toNat⟩:Wl),[])
 |_=>none
attribute [go_sem] qah
theorem xbb:ga 91 qah:=by
 intro rs p r fr h hp
 unfold qah at h
 split at h<;>cases h
 obtain⟨hc0,hc1,hc2,hc3,hc4,hc5,hc6,hc7,hc8,hc9,hc10,hc11,hc12,hc13,hc14,hc15⟩:=hp
 rename_i z42 z43 z44 z45 z47 z48 z49 z50 z52 z53 z54 z55 z57 z58 z59 z60
 have:=yci ⟨(yb z42),(jd z43),(qc z44),(vb z45),⟨z47.toNat,(jb z48)⟩,z49.toNat,z50.toNat⟩ ⟨(yb z52),(jd z53),(qc z54),(vb z55),⟨z57.toNat,(jb z58)⟩,z59.toNat,z60.toNat⟩
 rw [←hc0,←hc1,←hc2,←hc3,←hc4,←hc5,←hc6,←hc7,←hc8,←hc9,←hc10,←hc11,←hc12,←hc13,←hc14,←hc15]at this
 exact this
@[go_sem] def zcj (a:Tm) (b:Tm):D:= .bool (decide (a=b))
@[go_sem] abbrev jfb:FuncId:=181
@[go_sem] def xc9:Tab:=[(239,yaT)]
theorem zbB:za Tryz.prog xc9:=(za.cons xaT za.nil)
theorem jcr (a:Tm) (b:Tm):ja Tryz.prog 181 [.agg [.c (.int .u64 (a.key:Int)), .c (.int .i64 a.up), .sl (u8s a.text)], .agg [.c (.int .u64 (b.key:Int)), .c (.int .i64 b.up), .sl (u8s b.text)]] (zcj a b):=by
 refine .of (veg zbB (Nat.le_of_ble_eq_true rfl) ?_)
 simp -implicitDefEqProofs only [cdA,go_sem,Go.Proofs.Tryz.f181,simprocAttr, -Int.reduceEq,List.cons.injEq,cdB]
 cases a;cases b
 simp only [Tm.mk.injEq,Int.natCast_inj]
 grind
def kaD:List D→Option (Prop×D×Fr)
 |[.agg [.c (.int .u64 z62), .c (.int .i64 z63), .c (.sl z64)], .agg [.c (.int .u64 z66), .c (.int .i64 z67), .c (.sl z68)]]=>some (z62=(z62.toNat:Int)∧z64=u8s (vf z64)∧z66=(z66.toNat:Int)∧z68=u8s (vf z68),zcj (⟨z62.toNat,z63,(vf z64)⟩:Tm) (⟨z66.toNat,z67,(vf z68)⟩:Tm),[])
 |_=>none
attribute [go_sem] kaD
theorem ybx:ga 181 kaD:=by
 intro rs p r fr h hp
 unfold kaD at h
 split at h<;>cases h
 obtain⟨hc0,hc1,hc2,hc3⟩:=hp
 rename_i z62 z63 z64 z66 z67 z68
 have:=jcr ⟨z62.toNat,z63,(vf z64)⟩ ⟨z66.toNat,z67,(vf z68)⟩
 rw [←hc0,←hc1,←hc2,←hc3]at this
 exact this
@[go_sem] def wbB (a:Ar) (b:Ar):D:= .bool (decide (a=b))
@[go_sem] abbrev jeJ:FuncId:=92
@[go_sem] def gcr:Tab:=[(181,kaD)]
theorem uZ:za Tryz.prog gcr:=(za.cons ybx za.nil)
theorem kbZ (a:Ar) (b:Ar):ja Tryz.prog 92 [.agg [.sl (tms a.l)], .agg [.sl (tms b.l)]] (wbB a b):=by
 refine .of (yfq uZ (Nat.le_of_ble_eq_true rfl) ?_)
 simp -implicitDefEqProofs only [cdA,go_sem,Go.Proofs.Tryz.f92,simprocAttr, -Int.reduceEq,List.cons.injEq,cdB]
 have e:decide (a=b)=decide (a.l=b.l):=by cases a;cases b;simp
 rw [e]
 refine keg uZ (Nat.le_of_ble_eq_true rfl) ?_
 simp -implicitDefEqProofs only [cdA,go_sem,Go.Proofs.Tryz.f180,simprocAttr, -Int.reduceEq,List.cons.injEq,cdB]
 refine fun _ _=>⟨fun hl _=> ?_,zi⟩
 refine SWp.loop (ι:={i:Nat // i≤a.l.length∧a.l.take i=b.l.take i}) (fun i=>⟨[(1, .sl (tms b.l)),(2, .fn (.func 181) [] []),(15, .sl (tms a.l)),(16, .int .i64 a.l.length),(17, .int .i64 i.1)],[(1, .box [.sl (tms b.l)]),(0, .box [.sl (tms a.l)])],2⟩) (fun i=>a.l.length - i.1) ⟨0,by simp⟩ ?_ ?_
 ·simp [go_sem]
 ·rintro⟨i,hi,hab⟩
  refine ya uZ.toS wdi _ _ _ rfl ?_
  simp -implicitDefEqProofs only [cdA,go_sem,simprocAttr, -Int.reduceEq,List.cons.injEq,cdB]
  refine⟨fun h=> ?_,fun h=>gh hl hi h hab⟩
  exact⟨by omega,by omega,fun he=>⟨⟨i+1,yg h hl hab he⟩,by dsimp only;omega,i64_in _ (by omega)⟩,qm⟩
def uad:List D→Option (Prop×D×Fr)
 |[.agg [.c (.sl z70)], .agg [.c (.sl z72)]]=>some (z70=tms (qb z70)∧z72=tms (qb z72),wbB (⟨(qb z70)⟩:Ar) (⟨(qb z72)⟩:Ar),[])
 |_=>none
attribute [go_sem] uad
theorem va7:ga 92 uad:=by
 intro rs p r fr h hp
 unfold uad at h
 split at h<;>cases h
 obtain⟨hc0,hc1⟩:=hp
 rename_i z70 z72
 have:=kbZ ⟨(qb z70)⟩ ⟨(qb z72)⟩
 rw [←hc0,←hc1]at this
 exact this
@[go_sem] def kcn (a:List Rk) (b:List Rk):D:= .bool (decide (a=b))
@[go_sem] abbrev xfd:FuncId:=182
@[go_sem] def qdt:Tab:=[]
theorem yam:za Tryz.prog qdt:=za.nil
theorem ucJ (a:List Rk) (b:List Rk):ja Tryz.prog 182 [.sl (rks a), .sl (rks b)] (kcn a b):=by
 refine .of (weg yam (Nat.le_of_ble_eq_true rfl) ?_)
 simp -implicitDefEqProofs only [cdA,go_sem,Go.Proofs.Tryz.f182,simprocAttr, -Int.reduceEq,List.cons.injEq,cdB]
 refine fun _ _=>⟨fun hl _=> ?_,zi⟩
 refine SWp.loop (ι:={i:Nat // i≤a.length∧a.take i=b.take i}) (fun i=>⟨[(0, .sl (rks a)),(1, .sl (rks b)),(12, .int .i64 a.length),(13, .int .i64 i.1)],[],0⟩) (fun i=>a.length - i.1) ⟨0,by simp⟩ ?_ ?_
 ·simp [go_sem]
 ·rintro⟨i,hi,hab⟩
  refine ya yam.toS udi _ _ _ rfl ?_
  simp -implicitDefEqProofs only [cdA,go_sem,simprocAttr, -Int.reduceEq,List.cons.injEq,cdB]
  refine⟨fun h=> ?_,fun h=>gh hl hi h hab⟩
  refine xb.run wcN yam qa (by kernel_rfl) (by kernel_rfl) ?_
  simp -implicitDefEqProofs only [cdA,go_sem,simprocAttr, -Int.reduceEq,List.cons.injEq,cdB]
  exact⟨by omega,by omega,fun he=>⟨⟨i+1,yg h hl hab he⟩,by dsimp only;omega,i64_in _ (by omega)⟩,qm⟩
def baF:List D→Option (Prop×D×Fr)
 |[.c (.sl z73), .c (.sl z74)]=>some (z73=rks (gb z73)∧z74=rks (gb z74),kcn (gb z73) (gb z74),[])
 |_=>none
attribute [go_sem] baF
theorem kby:ga 182 baF:=by
 intro rs p r fr h hp
 unfold baF at h
 split at h<;>cases h
 obtain⟨hc0,hc1⟩:=hp
 rename_i z73 z74
 have:=ucJ (gb z73) (gb z74)
 rw [←hc0,←hc1]at this
 exact this
@[go_sem] def kbT (a:List Rk) (b:List Rk):D:= .bool (decide (a=b))
@[go_sem] abbrev yeN:FuncId:=93
@[go_sem] def wcK:Tab:=[(182,baF)]
theorem ubw:za Tryz.prog wcK:=(za.cons kby za.nil)
theorem qcf (a:List Rk) (b:List Rk):ja Tryz.prog 93 [.sl (rks a), .sl (rks b)] (kbT a b):=by
 refine .of (xfq ubw (Nat.le_of_ble_eq_true rfl) ?_)
 simp -implicitDefEqProofs only [cdA,go_sem,Go.Proofs.Tryz.f93,simprocAttr, -Int.reduceEq,List.cons.injEq,cdB]
def gag:List D→Option (Prop×D×Fr)
 |[.c (.sl z75), .c (.sl z76)]=>some (z75=rks (gb z75)∧z76=rks (gb z76),kbT (gb z75) (gb z76),[])
 |_=>none
attribute [go_sem] gag
theorem uba:ga 93 gag:=by
 intro rs p r fr h hp
 unfold gag at h
 split at h<;>cases h
 obtain⟨hc0,hc1⟩:=hp
 rename_i z75 z76
 have:=qcf (gb z75) (gb z76)
 rw [←hc0,←hc1]at this
 exact this
@[go_sem] def jcm (a:Ky) (b:Ky):D:= .bool (decide (a=b))
@[go_sem] abbrev gfc:FuncId:=184
@[go_sem] def zdg:Tab:=[(239,yaT)]
theorem wbI:za Tryz.prog zdg:=(za.cons xaT za.nil)
theorem ucA (a:Ky) (b:Ky):ja Tryz.prog 184 [.agg [.c (.int .u64 (a.k:Int)), .sl (u8s a.print), .sl (u8s a.reply), .c (.int .u64 (a.till:Int))], .agg [.c (.int .u64 (b.k:Int)), .sl (u8s b.print), .sl (u8s b.reply), .c (.int .u64 (b.till:Int))]] (jcm a b):=by
 refine .of (geg wbI (Nat.le_of_ble_eq_true rfl) ?_)
 simp -implicitDefEqProofs only [cdA,go_sem,Go.Proofs.Tryz.f184,simprocAttr, -Int.reduceEq,List.cons.injEq,cdB]
 cases a;cases b
 simp only [Ky.mk.injEq,Int.natCast_inj]
 grind
def waE:List D→Option (Prop×D×Fr)
 |[.agg [.c (.int .u64 z78), .c (.sl z79), .c (.sl z80), .c (.int .u64 z81)], .agg [.c (.int .u64 z83), .c (.sl z84), .c (.sl z85), .c (.int .u64 z86)]]=>some (z78=(z78.toNat:Int)∧z79=u8s (vf z79)∧z80=u8s (vf z80)∧z81=(z81.toNat:Int)∧z83=(z83.toNat:Int)∧z84=u8s (vf z84)∧z85=u8s (vf z85)∧z86=(z86.toNat:Int),jcm (⟨z78.toNat,(vf z79),(vf z80),z81.toNat⟩:Ky) (⟨z83.toNat,(vf z84),(vf z85),z86.toNat⟩:Ky),[])
 |_=>none
attribute [go_sem] waE
theorem yby:ga 184 waE:=by
 intro rs p r fr h hp
 unfold waE at h
 split at h<;>cases h
 obtain⟨hc0,hc1,hc2,hc3,hc4,hc5,hc6,hc7⟩:=hp
 rename_i z78 z79 z80 z81 z83 z84 z85 z86
 have:=ucA ⟨z78.toNat,(vf z79),(vf z80),z81.toNat⟩ ⟨z83.toNat,(vf z84),(vf z85),z86.toNat⟩
 rw [←hc0,←hc1,←hc2,←hc3,←hc4,←hc5,←hc6,←hc7]at this
 exact this
@[go_sem] def ubI (a:List Ky) (b:List Ky):D:= .bool (decide (a=b))
@[go_sem] abbrev keL:FuncId:=94
@[go_sem] def gcA:Tab:=[(184,waE)]
theorem y6:za Tryz.prog gcA:=(za.cons yby za.nil)
theorem wb6 (a:List Ky) (b:List Ky):ja Tryz.prog 94 [.sl (kys a), .sl (kys b)] (ubI a b):=by
 refine .of (qfq y6 (Nat.le_of_ble_eq_true rfl) ?_)
 simp -implicitDefEqProofs only [cdA,go_sem,Go.Proofs.Tryz.f94,simprocAttr, -Int.reduceEq,List.cons.injEq,cdB]
 refine ueg y6 (Nat.le_of_ble_eq_true rfl) ?_
 simp -implicitDefEqProofs only [cdA,go_sem,Go.Proofs.Tryz.f183,simprocAttr, -Int.reduceEq,List.cons.injEq,cdB]
 refine fun _ _=>⟨fun hl _=> ?_,zi⟩
 refine SWp.loop (ι:={i:Nat // i≤a.length∧a.take i=b.take i}) (fun i=>⟨[(1, .sl (kys b)),(2, .fn (.func 184) [] []),(15, .sl (kys a)),(16, .int .i64 a.length),(17, .int .i64 i.1)],[],0⟩) (fun i=>a.length - i.1) ⟨0,by simp⟩ ?_ ?_
 ·simp [go_sem]
 ·rintro⟨i,hi,hab⟩
  refine ya y6.toS gdi _ _ _ rfl ?_
  simp -implicitDefEqProofs only [cdA,go_sem,simprocAttr, -Int.reduceEq,List.cons.injEq,cdB]
  refine⟨fun h=> ?_,fun h=>gh hl hi h hab⟩
  exact⟨by omega,by omega,fun he=>⟨⟨i+1,yg h hl hab he⟩,by dsimp only;omega,i64_in _ (by omega)⟩,qm⟩
def uaf:List D→Option (Prop×D×Fr)
 |[.c (.sl z87), .c (.sl z88)]=>some (z87=kys (je z87)∧z88=kys (je z88),ubI (je z87) (je z88),[])
 |_=>none
attribute [go_sem] uaf
theorem va9:ga 94 uaf:=by
 intro rs p r fr h hp
 unfold uaf at h
 split at h<;>cases h
 obtain⟨hc0,hc1⟩:=hp
 rename_i z87 z88
 have:=wb6 (je z87) (je z88)
 rw [←hc0,←hc1]at this
 exact this
@[go_sem] def jck (a:List Ct) (b:List Ct):D:= .bool (decide (a=b))
@[go_sem] abbrev zfc:FuncId:=185
@[go_sem] def xdc:Tab:=[]
theorem wai:za Tryz.prog xdc:=za.nil
theorem xct (a:List Ct) (b:List Ct):ja Tryz.prog 185 [.sl (cts a), .sl (cts b)] (jck a b):=by
 refine .of (beg wai (Nat.le_of_ble_eq_true rfl) ?_)
 simp -implicitDefEqProofs only [cdA,go_sem,Go.Proofs.Tryz.f185,simprocAttr, -Int.reduceEq,List.cons.injEq,cdB]
 refine fun _ _=>⟨fun hl _=> ?_,zi⟩
 refine SWp.loop (ι:={i:Nat // i≤a.length∧a.take i=b.take i}) (fun i=>⟨[(0, .sl (cts a)),(1, .sl (cts b)),(12, .int .i64 a.length),(13, .int .i64 i.1)],[],0⟩) (fun i=>a.length - i.1) ⟨0,by simp⟩ ?_ ?_
 ·simp [go_sem]
 ·rintro⟨i,hi,hab⟩
  refine ya wai.toS bdi _ _ _ rfl ?_
  simp -implicitDefEqProofs only [cdA,go_sem,simprocAttr, -Int.reduceEq,List.cons.injEq,cdB]
  refine⟨fun h=> ?_,fun h=>gh hl hi h hab⟩
  refine xb.run ucN wai qa (by kernel_rfl) (by kernel_rfl) ?_
  simp -implicitDefEqProofs only [cdA,go_sem,simprocAttr, -Int.reduceEq,List.cons.injEq,cdB]
  exact⟨by omega,by omega,fun he=>⟨⟨i+1,yg h hl hab he⟩,by dsimp only;omega,i64_in _ (by omega)⟩,qm⟩
def uaD:List D→Option (Prop×D×Fr)
 |[.c (.sl z89), .c (.sl z90)]=>some (z89=cts (qd z89)∧z90=cts (qd z90),jck (qd z89) (qd z90),[])
 |_=>none
attribute [go_sem] uaD
theorem jbx:ga 185 uaD:=by
 intro rs p r fr h hp
 unfold uaD at h
 split at h<;>cases h
 obtain⟨hc0,hc1⟩:=hp
 rename_i z89 z90
 have:=xct (qd z89) (qd z90)
 rw [←hc0,←hc1]at this
 exact this
@[go_sem] def ybd (a:List Ct) (b:List Ct):D:= .bool (decide (a=b))
@[go_sem] abbrev gdP:FuncId:=95
@[go_sem] def xb1:Tab:=[(185,uaD)]
theorem uaZ:za Tryz.prog xb1:=(za.cons jbx za.nil)
theorem vbD (a:List Ct) (b:List Ct):ja Tryz.prog 95 [.sl (cts a), .sl (cts b)] (ybd a b):=by
 refine .of (jfq uaZ (Nat.le_of_ble_eq_true rfl) ?_)
 simp -implicitDefEqProofs only [cdA,go_sem,Go.Proofs.Tryz.f95,simprocAttr, -Int.reduceEq,List.cons.injEq,cdB]
def kU:List D→Option (Prop×D×Fr)
 |[.c (.sl z91), .c (.sl z92)]=>some (z91=cts (qd z91)∧z92=cts (qd z92),ybd (qd z91) (qd z92),[])
 |_=>none
attribute [go_sem] kU
theorem jaT:ga 95 kU:=by
 intro rs p r fr h hp
 unfold kU at h
 split at h<;>cases h
 obtain⟨hc0,hc1⟩:=hp
 rename_i z91 z92
 have:=vbD (qd z91) (qd z92)
 rw [←hc0,←hc1]at this
 exact this
def ubT (a b:Bk):Bool:=decide (qaD a.w b.w=true∧a.a=b.a∧a.r=b.r∧a.k=b.k∧a.s=b.s)
@[go_sem] def bbF (a:Bk) (b:Bk):D:= .bool (ubT a b)
@[go_sem] abbrev beK:FuncId:=33
@[go_sem] def bcy:Tab:=[(91,qah),(92,uad),(93,gag),(94,uaf),(95,kU)]
theorem jbo:za Tryz.prog bcy:=(za.cons xbb (za.cons va7 (za.cons uba (za.cons va9 (za.cons jaT za.nil)))))
theorem zb5 (a:Bk) (b:Bk):ja Tryz.prog 33 [.agg [.sl (chs a.w.c), .sl (wts a.w.w), .sl (ivs a.w.i), .sl (pys a.w.p), .c (.int .u64 (a.w.f.next:Int)), .sl (evs a.w.f.l), .c (.int .u64 (a.w.next:Int)), .c (.int .u64 (a.w.tick:Int)), .sl (tms a.a.l), .sl (rks a.r), .sl (kys a.k), .sl (cts a.s)], .agg [.sl (chs b.w.c), .sl (wts b.w.w), .sl (ivs b.w.i), .sl (pys b.w.p), .c (.int .u64 (b.w.f.next:Int)), .sl (evs b.w.f.l), .c (.int .u64 (b.w.next:Int)), .c (.int .u64 (b.w.tick:Int)), .sl (tms b.a.l), .sl (rks b.r), .sl (kys b.k), .sl (cts b.s)]] (bbF a b):=by
 refine .of (yfl jbo (Nat.le_of_ble_eq_true rfl) ?_)
 simp -implicitDefEqProofs only [cdA,go_sem,Go.Proofs.Tryz.f33,simprocAttr, -Int.reduceEq,List.cons.injEq,cdB]
 unfold ubT
 grind
def qaf:List D→Option (Prop×D×Fr)
 |[.agg [.c (.sl z95), .c (.sl z96), .c (.sl z97), .c (.sl z98), .c (.int .u64 z100), .c (.sl z101), .c (.int .u64 z102), .c (.int .u64 z103), .c (.sl z105), .c (.sl z106), .c (.sl z107), .c (.sl z108)], .agg [.c (.sl z111), .c (.sl z112), .c (.sl z113), .c (.sl z114), .c (.int .u64 z116), .c (.sl z117), .c (.int .u64 z118), .c (.int .u64 z119), .c (.sl z121), .c (.sl z122), .c (.sl z123), .c (.sl z124)]]=>some (z95=chs (yb z95)∧z96=wts (jd z96)∧z97=ivs (qc z97)∧z98=pys (vb z98)∧z100=(z100.toNat:Int)∧z101=evs (jb z101)∧z102=(z102.toNat:Int)∧z103=(z103.toNat:Int)∧z105=tms (qb z105)∧z106=rks (gb z106)∧z107=kys (je z107)∧z108=cts (qd z108)∧z111=chs (yb z111)∧z112=wts (jd z112)∧z113=ivs (qc z113)∧z114=pys (vb z114)∧z116=(z116.toNat:Int)∧z117=evs (jb z117)∧z118=(z118.toNat:Int)∧z119=(z119.toNat:Int)∧z121=tms (qb z121)∧z122=rks (gb z122)∧z123=kys (je z123)∧z124=cts (qd z124),bbF (⟨(⟨(yb z95),(jd z96),(qc z97),(vb z98),(⟨z100.toNat,(jb z101)⟩:Fd),z102.toNat,z103.toNat⟩:Wl),(⟨(qb z105)⟩:Ar),(gb z106),(je z107),(qd z108)⟩:Bk) (⟨(⟨(yb z111),(jd z112),(qc z113),(vb z114),(⟨z116.toNat,(jb z117)⟩:Fd),z118.toNat,z119.toNat⟩:Wl),(⟨(qb z121)⟩:Ar),(gb z122),(je z123),(qd z124)⟩:Bk),[])
 |_=>none
attribute [go_sem] qaf
theorem za9:ga 33 qaf:=by
 intro rs p r fr h hp
 unfold qaf at h
 split at h<;>cases h
 obtain⟨hc0,hc1,hc2,hc3,hc4,hc5,hc6,hc7,hc8,hc9,hc10,hc11,hc12,hc13,hc14,hc15,hc16,hc17,hc18,hc19,hc20,hc21,hc22,hc23⟩:=hp
 rename_i z95 z96 z97 z98 z100 z101 z102 z103 z105 z106 z107 z108 z111 z112 z113 z114 z116 z117 z118 z119 z121 z122 z123 z124
 have:=zb5 ⟨⟨(yb z95),(jd z96),(qc z97),(vb z98),⟨z100.toNat,(jb z101)⟩,z102.toNat,z103.toNat⟩,⟨(qb z105)⟩,(gb z106),(je z107),(qd z108)⟩ ⟨⟨(yb z111),(jd z112),(qc z113),(vb z114),⟨z116.toNat,(jb z117)⟩,z118.toNat,z119.toNat⟩,⟨(qb z121)⟩,(gb z122),(je z123),(qd z124)⟩
 rw [←hc0,←hc1,←hc2,←hc3,←hc4,←hc5,←hc6,←hc7,←hc8,←hc9,←hc10,←hc11,←hc12,←hc13,←hc14,←hc15,←hc16,←hc17,←hc18,←hc19,←hc20,←hc21,←hc22,←hc23]at this
 exact this
end Dm
namespace Dm
open Go Go.Proofs Go.IntWalk
@[go_sem] def xaR (a:List Rk) (b:List Rk):D:= .bool (decide (a=b))
@[go_sem] abbrev jdo:FuncId:=39
@[go_sem] def xbR:Tab:=[]
theorem wI:za Tryz.prog xbR:=za.nil
theorem wbv (a:List Rk) (b:List Rk):ja Tryz.prog 39 [.sl (rks a), .sl (rks b)] (xaR a b):=by
 refine .of (vfl wI (Nat.le_of_ble_eq_true rfl) ?_)
 simp -implicitDefEqProofs only [cdA,go_sem,Go.Proofs.Tryz.f39,simprocAttr, -Int.reduceEq,List.cons.injEq,cdB]
 refine fun _ _=>⟨fun hl _=> ?_,zi⟩
 refine SWp.loop (ι:={i:Nat // i≤a.length∧a.take i=b.take i}) (fun i=>⟨[(0, .sl (rks a)),(1, .sl (rks b)),(12, .int .i64 a.length),(13, .int .i64 i.1)],[],0⟩) (fun i=>a.length - i.1) ⟨0,by simp⟩ ?_ ?_
 ·simp [go_sem]
 ·rintro⟨i,hi,hab⟩
  refine ya wI.toS ze9 _ _ _ rfl ?_
  simp -implicitDefEqProofs only [cdA,go_sem,simprocAttr, -Int.reduceEq,List.cons.injEq,cdB]
  refine⟨fun h=> ?_,fun h=>gh hl hi h hab⟩
  refine xb.run ydx wI qa (by kernel_rfl) (by kernel_rfl) ?_
  simp -implicitDefEqProofs only [cdA,go_sem,simprocAttr, -Int.reduceEq,List.cons.injEq,cdB]
  exact⟨by omega,by omega,fun he=>⟨⟨i+1,yg h hl hab he⟩,by dsimp only;omega,i64_in _ (by omega)⟩,qm⟩
def zO:List D→Option (Prop×D×Fr)
 |[.c (.sl z1), .c (.sl z2)]=>some (z1=rks (gb z1)∧z2=rks (gb z2),xaR (gb z1) (gb z2),[])
 |_=>none
attribute [go_sem] zO
theorem waF:ga 39 zO:=by
 intro rs p r fr h hp
 unfold zO at h
 split at h<;>cases h
 obtain⟨hc0,hc1⟩:=hp
 rename_i z1 z2
 have:=wbv (gb z1) (gb z2)
 rw [←hc0,←hc1]at this
 exact this
@[go_sem] def jaw (a:List Ct) (b:List Ct):D:= .bool (decide (a=b))
@[go_sem] abbrev wc0:FuncId:=41
@[go_sem] def bbr:Tab:=[]
theorem zD:za Tryz.prog bbr:=za.nil
theorem za4 (a:List Ct) (b:List Ct):ja Tryz.prog 41 [.sl (cts a), .sl (cts b)] (jaw a b):=by
 refine .of (ufl zD (Nat.le_of_ble_eq_true rfl) ?_)
 simp -implicitDefEqProofs only [cdA,go_sem,Go.Proofs.Tryz.f41,simprocAttr, -Int.reduceEq,List.cons.injEq,cdB]
 refine fun _ _=>⟨fun hl _=> ?_,zi⟩
 refine SWp.loop (ι:={i:Nat // i≤a.length∧a.take i=b.take i}) (fun i=>⟨[(0, .sl (cts a)),(1, .sl (cts b)),(12, .int .i64 a.length),(13, .int .i64 i.1)],[],0⟩) (fun i=>a.length - i.1) ⟨0,by simp⟩ ?_ ?_
 ·simp [go_sem]
 ·rintro⟨i,hi,hab⟩
  refine ya zD.toS xe9 _ _ _ rfl ?_
  simp -implicitDefEqProofs only [cdA,go_sem,simprocAttr, -Int.reduceEq,List.cons.injEq,cdB]
  refine⟨fun h=> ?_,fun h=>gh hl hi h hab⟩
  refine xb.run qdx zD qa (by kernel_rfl) (by kernel_rfl) ?_
  simp -implicitDefEqProofs only [cdA,go_sem,simprocAttr, -Int.reduceEq,List.cons.injEq,cdB]
  exact⟨by omega,by omega,fun he=>⟨⟨i+1,yg h hl hab he⟩,by dsimp only;omega,i64_in _ (by omega)⟩,qm⟩
def zF:List D→Option (Prop×D×Fr)
 |[.c (.sl z3), .c (.sl z4)]=>some (z3=cts (qd z3)∧z4=cts (qd z4),jaw (qd z3) (qd z4),[])
 |_=>none
attribute [go_sem] zF
theorem uaq:ga 41 zF:=by
 intro rs p r fr h hp
 unfold zF at h
 split at h<;>cases h
 obtain⟨hc0,hc1⟩:=hp
 rename_i z3 z4
 have:=za4 (qd z3) (qd z4)
 rw [←hc0,←hc1]at this
 exact this
@[go_sem] def uav (a:List Iv) (b:List Iv):D:= .bool (decide (a=b))
@[go_sem] abbrev bcZ:FuncId:=105
@[go_sem] def zbr:Tab:=[]
theorem vC:za Tryz.prog zbr:=za.nil
theorem za3 (a:List Iv) (b:List Iv):ja Tryz.prog 105 [.sl (ivs a), .sl (ivs b)] (uav a b):=by
 refine .of (yea vC (Nat.le_of_ble_eq_true rfl) ?_)
 simp -implicitDefEqProofs only [cdA,go_sem,Go.Proofs.Tryz.f105,simprocAttr, -Int.reduceEq,List.cons.injEq,cdB]
 refine fun _ _=>⟨fun hl _=> ?_,zi⟩
 refine SWp.loop (ι:={i:Nat // i≤a.length∧a.take i=b.take i}) (fun i=>⟨[(0, .sl (ivs a)),(1, .sl (ivs b)),(12, .int .i64 a.length),(13, .int .i64 i.1)],[],0⟩) (fun i=>a.length - i.1) ⟨0,by simp⟩ ?_ ?_
 ·simp [go_sem]
 ·rintro⟨i,hi,hab⟩
  refine ya vC.toS wdg _ _ _ rfl ?_
  simp -implicitDefEqProofs only [cdA,go_sem,simprocAttr, -Int.reduceEq,List.cons.injEq,cdB]
  refine⟨fun h=> ?_,fun h=>gh hl hi h hab⟩
  refine xb.run ucM vC qa (by kernel_rfl) (by kernel_rfl) ?_
  simp -implicitDefEqProofs only [cdA,go_sem,simprocAttr, -Int.reduceEq,List.cons.injEq,cdB]
  exact⟨by omega,by omega,fun he=>⟨⟨i+1,yg h hl hab he⟩,by dsimp only;omega,i64_in _ (by omega)⟩,qm⟩
def jE:List D→Option (Prop×D×Fr)
 |[.c (.sl z5), .c (.sl z6)]=>some (z5=ivs (qc z5)∧z6=ivs (qc z6),uav (qc z5) (qc z6),[])
 |_=>none
attribute [go_sem] jE
theorem xaq:ga 105 jE:=by
 intro rs p r fr h hp
 unfold jE at h
 split at h<;>cases h
 obtain⟨hc0,hc1⟩:=hp
 rename_i z5 z6
 have:=za3 (qc z5) (qc z6)
 rw [←hc0,←hc1]at this
 exact this
@[go_sem] def yaw (a:List Py) (b:List Py):D:= .bool (decide (a=b))
@[go_sem] abbrev jc0:FuncId:=106
@[go_sem] def kbr:Tab:=[]
theorem gC:za Tryz.prog kbr:=za.nil
theorem ka3 (a:List Py) (b:List Py):ja Tryz.prog 106 [.sl (pys a), .sl (pys b)] (yaw a b):=by
 refine .of (xea gC (Nat.le_of_ble_eq_true rfl) ?_)
 simp -implicitDefEqProofs only [cdA,go_sem,Go.Proofs.Tryz.f106,simprocAttr, -Int.reduceEq,List.cons.injEq,cdB]
 refine fun _ _=>⟨fun hl _=> ?_,zi⟩
 refine SWp.loop (ι:={i:Nat // i≤a.length∧a.take i=b.take i}) (fun i=>⟨[(0, .sl (pys a)),(1, .sl (pys b)),(12, .int .i64 a.length),(13, .int .i64 i.1)],[],0⟩) (fun i=>a.length - i.1) ⟨0,by simp⟩ ?_ ?_
 ·simp [go_sem]
 ·rintro⟨i,hi,hab⟩
  refine ya gC.toS udg _ _ _ rfl ?_
  simp -implicitDefEqProofs only [cdA,go_sem,simprocAttr, -Int.reduceEq,List.cons.injEq,cdB]
  refine⟨fun h=> ?_,fun h=>gh hl hi h hab⟩
  refine xb.run gcM gC qa (by kernel_rfl) (by kernel_rfl) ?_
  simp -implicitDefEqProofs only [cdA,go_sem,simprocAttr, -Int.reduceEq,List.cons.injEq,cdB]
  exact⟨by omega,by omega,fun he=>⟨⟨i+1,yg h hl hab he⟩,by dsimp only;omega,i64_in _ (by omega)⟩,qm⟩
def wE:List D→Option (Prop×D×Fr)
 |[.c (.sl z7), .c (.sl z8)]=>some (z7=pys (vb z7)∧z8=pys (vb z8),yaw (vb z7) (vb z8),[])
 |_=>none
attribute [go_sem] wE
theorem kaq:ga 106 wE:=by
 intro rs p r fr h hp
 unfold wE at h
 split at h<;>cases h
 obtain⟨hc0,hc1⟩:=hp
 rename_i z7 z8
 have:=ka3 (vb z7) (vb z8)
 rw [←hc0,←hc1]at this
 exact this
@[go_sem] def zaP (a:List Ev) (b:List Ev):D:= .bool (decide (a=b))
@[go_sem] abbrev ydn:FuncId:=191
@[go_sem] def wbN:Tab:=[]
theorem qI:za Tryz.prog wbN:=za.nil
theorem qbs (a:List Ev) (b:List Ev):ja Tryz.prog 191 [.sl (evs a), .sl (evs b)] (zaP a b):=by
 refine .of (qeh qI (Nat.le_of_ble_eq_true rfl) ?_)
 simp -implicitDefEqProofs only [cdA,go_sem,Go.Proofs.Tryz.f191,simprocAttr, -Int.reduceEq,List.cons.injEq,cdB]
 refine fun _ _=>⟨fun hl _=> ?_,zi⟩
 refine SWp.loop (ι:={i:Nat // i≤a.length∧a.take i=b.take i}) (fun i=>⟨[(0, .sl (evs a)),(1, .sl (evs b)),(12, .int .i64 a.length),(13, .int .i64 i.1)],[],0⟩) (fun i=>a.length - i.1) ⟨0,by simp⟩ ?_ ?_
 ·simp [go_sem]
 ·rintro⟨i,hi,hab⟩
  refine ya qI.toS xdj _ _ _ rfl ?_
  simp -implicitDefEqProofs only [cdA,go_sem,simprocAttr, -Int.reduceEq,List.cons.injEq,cdB]
  refine⟨fun h=> ?_,fun h=>gh hl hi h hab⟩
  refine xb.run ycO qI qa (by kernel_rfl) (by kernel_rfl) ?_
  simp -implicitDefEqProofs only [cdA,go_sem,simprocAttr, -Int.reduceEq,List.cons.injEq,cdB]
  exact⟨by omega,by omega,fun he=>⟨⟨i+1,yg h hl hab he⟩,by dsimp only;omega,i64_in _ (by omega)⟩,qm⟩
def yN:List D→Option (Prop×D×Fr)
 |[.c (.sl z9), .c (.sl z10)]=>some (z9=evs (jb z9)∧z10=evs (jb z10),zaP (jb z9) (jb z10),[])
 |_=>none
attribute [go_sem] yN
theorem yaF:ga 191 yN:=by
 intro rs p r fr h hp
 unfold yN at h
 split at h<;>cases h
 obtain⟨hc0,hc1⟩:=hp
 rename_i z9 z10
 have:=qbs (jb z9) (jb z10)
 rw [←hc0,←hc1]at this
 exact this
@[go_sem] def waw (a:Fd) (b:Fd):D:= .bool (decide (a=b))
@[go_sem] abbrev bc0:FuncId:=107
@[go_sem] def jbs:Tab:=[(191,yN)]
theorem zaD:za Tryz.prog jbs:=(za.cons yaF za.nil)
theorem qa4 (a:Fd) (b:Fd):ja Tryz.prog 107 [.agg [.c (.int .u64 (a.next:Int)), .sl (evs a.l)], .agg [.c (.int .u64 (b.next:Int)), .sl (evs b.l)]] (waw a b):=by
 refine .of (qea zaD (Nat.le_of_ble_eq_true rfl) ?_)
 simp -implicitDefEqProofs only [cdA,go_sem,Go.Proofs.Tryz.f107,simprocAttr, -Int.reduceEq,List.cons.injEq,cdB]
 cases a;cases b
 simp only [Fd.mk.injEq,Int.natCast_inj]
 grind
def qF:List D→Option (Prop×D×Fr)
 |[.agg [.c (.int .u64 z12), .c (.sl z13)], .agg [.c (.int .u64 z15), .c (.sl z16)]]=>some (z12=(z12.toNat:Int)∧z13=evs (jb z13)∧z15=(z15.toNat:Int)∧z16=evs (jb z16),waw (⟨z12.toNat,(jb z13)⟩:Fd) (⟨z15.toNat,(jb z16)⟩:Fd),[])
 |_=>none
attribute [go_sem] qF
theorem zar:ga 107 qF:=by
 intro rs p r fr h hp
 unfold qF at h
 split at h<;>cases h
 obtain⟨hc0,hc1,hc2,hc3⟩:=hp
 rename_i z12 z13 z15 z16
 have:=qa4 ⟨z12.toNat,(jb z13)⟩ ⟨z15.toNat,(jb z16)⟩
 rw [←hc0,←hc1,←hc2,←hc3]at this
 exact this
@[go_sem] def bbh (a:Ky) (b:Ky):D:= .bool (decide (a=b))
@[go_sem] abbrev vdR:FuncId:=110
@[go_sem] def jca:Tab:=[(193,gJ)]
theorem ua3:za Tryz.prog jca:=(za.cons xab za.nil)
theorem jbN (a:Ky) (b:Ky):ja Tryz.prog 110 [.agg [.c (.int .u64 (a.k:Int)), .sl (u8s a.print), .sl (u8s a.reply), .c (.int .u64 (a.till:Int))], .agg [.c (.int .u64 (b.k:Int)), .sl (u8s b.print), .sl (u8s b.reply), .c (.int .u64 (b.till:Int))]] (bbh a b):=by
 refine .of (vea ua3 (Nat.le_of_ble_eq_true rfl) ?_)
 simp -implicitDefEqProofs only [cdA,go_sem,Go.Proofs.Tryz.f110,simprocAttr, -Int.reduceEq,List.cons.injEq,cdB]
 cases a;cases b
 simp only [Ky.mk.injEq,Int.natCast_inj]
 grind
def xW:List D→Option (Prop×D×Fr)
 |[.agg [.c (.int .u64 z18), .c (.sl z19), .c (.sl z20), .c (.int .u64 z21)], .agg [.c (.int .u64 z23), .c (.sl z24), .c (.sl z25), .c (.int .u64 z26)]]=>some (z18=(z18.toNat:Int)∧z19=u8s (vf z19)∧z20=u8s (vf z20)∧z21=(z21.toNat:Int)∧z23=(z23.toNat:Int)∧z24=u8s (vf z24)∧z25=u8s (vf z25)∧z26=(z26.toNat:Int),bbh (⟨z18.toNat,(vf z19),(vf z20),z21.toNat⟩:Ky) (⟨z23.toNat,(vf z24),(vf z25),z26.toNat⟩:Ky),[])
 |_=>none
attribute [go_sem] xW
theorem uaU:ga 110 xW:=by
 intro rs p r fr h hp
 unfold xW at h
 split at h<;>cases h
 obtain⟨hc0,hc1,hc2,hc3,hc4,hc5,hc6,hc7⟩:=hp
 rename_i z18 z19 z20 z21 z23 z24 z25 z26
 have:=jbN ⟨z18.toNat,(vf z19),(vf z20),z21.toNat⟩ ⟨z23.toNat,(vf z24),(vf z25),z26.toNat⟩
 rw [←hc0,←hc1,←hc2,←hc3,←hc4,←hc5,←hc6,←hc7]at this
 exact this
@[go_sem] def qaw (a:List Ky) (b:List Ky):D:= .bool (decide (a=b))
@[go_sem] abbrev vc0:FuncId:=40
@[go_sem] def ubr:Tab:=[(110,xW)]
theorem bC:za Tryz.prog ubr:=(za.cons uaU za.nil)
theorem ga3 (a:List Ky) (b:List Ky):ja Tryz.prog 40 [.sl (kys a), .sl (kys b)] (qaw a b):=by
 refine .of (wfl bC (Nat.le_of_ble_eq_true rfl) ?_)
 simp -implicitDefEqProofs only [cdA,go_sem,Go.Proofs.Tryz.f40,simprocAttr, -Int.reduceEq,List.cons.injEq,cdB]
 refine fun _ _=>⟨fun hl _=> ?_,zi⟩
 refine SWp.loop (ι:={i:Nat // i≤a.length∧a.take i=b.take i}) (fun i=>⟨[(0, .sl (kys a)),(1, .sl (kys b)),(12, .int .i64 a.length),(13, .int .i64 i.1)],[],0⟩) (fun i=>a.length - i.1) ⟨0,by simp⟩ ?_ ?_
 ·simp [go_sem]
 ·rintro⟨i,hi,hab⟩
  refine ya bC.toS ye9 _ _ _ rfl ?_
  simp -implicitDefEqProofs only [cdA,go_sem,simprocAttr, -Int.reduceEq,List.cons.injEq,cdB]
  refine⟨fun h=> ?_,fun h=>gh hl hi h hab⟩
  refine xb.run xdx bC qa (by kernel_rfl) (by kernel_rfl) ?_
  simp -implicitDefEqProofs only [cdA,go_sem,simprocAttr, -Int.reduceEq,List.cons.injEq,cdB]
  exact⟨by omega,by omega,fun he=>⟨⟨i+1,yg h hl hab he⟩,by dsimp only;omega,i64_in _ (by omega)⟩,qm⟩
def bE:List D→Option (Prop×D×Fr)
 |[.c (.sl z27), .c (.sl z28)]=>some (z27=kys (je z27)∧z28=kys (je z28),qaw (je z27) (je z28),[])
 |_=>none
attribute [go_sem] bE
theorem waq:ga 40 bE:=by
 intro rs p r fr h hp
 unfold bE at h
 split at h<;>cases h
 obtain⟨hc0,hc1⟩:=hp
 rename_i z27 z28
 have:=ga3 (je z27) (je z28)
 rw [←hc0,←hc1]at this
 exact this
@[go_sem] def xaQ (a:Ar) (b:Ar):D:= .bool (decide (a=b))
@[go_sem] abbrev udn:FuncId:=38
@[go_sem] def jbP:Tab:=[(109,gW)]
theorem kI:za Tryz.prog jbP:=(za.cons van za.nil)
theorem qbu (a:Ar) (b:Ar):ja Tryz.prog 38 [.agg [.sl (tms a.l)], .agg [.sl (tms b.l)]] (xaQ a b):=by
 refine .of (kfl kI (Nat.le_of_ble_eq_true rfl) ?_)
 simp -implicitDefEqProofs only [cdA,go_sem,Go.Proofs.Tryz.f38,simprocAttr, -Int.reduceEq,List.cons.injEq,cdB]
 have e:decide (a=b)=decide (a.l=b.l):=by cases a;cases b;simp
 rw [e]
 refine fun _ _=>⟨fun hl _=> ?_,zi⟩
 refine SWp.loop (ι:={i:Nat // i≤a.l.length∧a.l.take i=b.l.take i}) (fun i=>⟨[(2, .ref 0 0),(3, .ref 1 0),(15, .int .i64 a.l.length),(16, .int .i64 i.1)],[(1, .box [.sl (tms b.l)]),(0, .box [.sl (tms a.l)])],2⟩) (fun i=>a.l.length - i.1) ⟨0,by simp⟩ ?_ ?_
 ·simp [go_sem]
 ·rintro⟨i,hi,hab⟩
  refine ya kI.toS be8 _ _ _ rfl ?_
  simp -implicitDefEqProofs only [cdA,go_sem,simprocAttr, -Int.reduceEq,List.cons.injEq,cdB]
  refine⟨fun h=> ?_,fun h=>gh hl hi h hab⟩
  refine xb.run zdx kI qa (by kernel_rfl) (by kernel_rfl) ?_
  simp -implicitDefEqProofs only [cdA,go_sem,simprocAttr, -Int.reduceEq,List.cons.injEq,cdB]
  have hnm:nmT (a.l.getD i default)=nmT (b.l.getD i default)↔a.l.getD i default=b.l.getD i default:=by
   cases a.l.getD i default;cases b.l.getD i default;simp [nmT]
  rw [hnm]
  exact⟨h,by omega,fun he=>⟨⟨i+1,yg h hl hab he⟩,by dsimp only;omega,i64_in _ (by omega)⟩,qm⟩
def kN:List D→Option (Prop×D×Fr)
 |[.agg [.c (.sl z30)], .agg [.c (.sl z32)]]=>some (z30=tms (qb z30)∧z32=tms (qb z32),xaQ (⟨(qb z30)⟩:Ar) (⟨(qb z32)⟩:Ar),[])
 |_=>none
attribute [go_sem] kN
theorem kaF:ga 38 kN:=by
 intro rs p r fr h hp
 unfold kN at h
 split at h<;>cases h
 obtain⟨hc0,hc1⟩:=hp
 rename_i z30 z32
 have:=qbu ⟨(qb z30)⟩ ⟨(qb z32)⟩
 rw [←hc0,←hc1]at this
 exact this
@[go_sem] def kaR (a:Ch) (b:Ch):D:= .bool (decide (a=b))
@[go_sem] abbrev vdo:FuncId:=190
@[go_sem] def gbR:Tab:=[]
theorem gI:za Tryz.prog gbR:=za.nil
theorem bbv (a:Ch) (b:Ch):ja Tryz.prog 190 [.agg [.c (.int .u64 (a.id:Int)), .c (.int .u64 (a.loc:Int)), .c (.int .u64 (a.rem:Int)), .c (.int .u64 (a.res:Int)), .c (.int .u64 (a.most:Int)), .sl (hds a.holds), .c (.bool a.op)], .agg [.c (.int .u64 (b.id:Int)), .c (.int .u64 (b.loc:Int)), .c (.int .u64 (b.rem:Int)), .c (.int .u64 (b.res:Int)), .c (.int .u64 (b.most:Int)), .sl (hds b.holds), .c (.bool b.op)]] (kaR a b):=by
 refine .of (xeh gI (Nat.le_of_ble_eq_true rfl) ?_)
 simp -implicitDefEqProofs only [cdA,go_sem,Go.Proofs.Tryz.f190,simprocAttr, -Int.reduceEq,List.cons.injEq,cdB]
 have no:a≠b→false=decide (a=b):=fun h=>(decide_eq_false h).symm
 refine⟨fun h1=>⟨fun h2=>⟨fun h3=>⟨fun h4=>⟨fun h5=>⟨fun h6 _ _=>⟨fun hl _=> ?_,fun hl=>no fun h=>hl (by rw [h])⟩,fun h6=>no fun h=>by rw [h]at h6;simp at h6⟩,fun h5=>no fun h=>h5 (by rw [h])⟩,fun h4=>no fun h=>h4 (by rw [h])⟩,fun h3=>no fun h=>h3 (by rw [h])⟩,fun h2=>no fun h=>h2 (by rw [h])⟩,fun h1=>no fun h=>h1 (by rw [h])⟩
 have e:decide (a=b)=decide (a.holds=b.holds):=by
  cases a;cases b
  simp only [Int.natCast_inj]at h1 h2 h3 h4 h5
  simp only [Ch.mk.injEq]
  have h6:=by simpa using h6
  simp [h1,h2,h3,h4,h5,h6]
 rw [e]
 refine SWp.loop (ι:={i:Nat // i≤a.holds.length∧a.holds.take i=b.holds.take i}) (fun i=>⟨[(2, .ref 0 0),(3, .ref 1 0),(57, .int .i64 a.holds.length),(58, .int .i64 i.1)],[(1, .box [.c (.int .u64 b.id), .c (.int .u64 b.loc), .c (.int .u64 b.rem), .c (.int .u64 b.res), .c (.int .u64 b.most), .sl (hds b.holds), .c (.bool b.op)]),(0, .box [.c (.int .u64 a.id), .c (.int .u64 a.loc), .c (.int .u64 a.rem), .c (.int .u64 a.res), .c (.int .u64 a.most), .sl (hds a.holds), .c (.bool a.op)])],2⟩) (fun i=>a.holds.length - i.1) ⟨0,by simp⟩ ?_ ?_
 ·simp [go_sem]
 ·rintro⟨i,hi,hab⟩
  refine ya gI.toS ydj _ _ _ rfl ?_
  simp -implicitDefEqProofs only [cdA,go_sem,simprocAttr, -Int.reduceEq,List.cons.injEq,cdB]
  refine⟨fun h=> ?_,fun h=>gh hl hi h hab⟩
  refine xb.run zcO gI qa (by kernel_rfl) (by kernel_rfl) ?_
  simp -implicitDefEqProofs only [cdA,go_sem,simprocAttr, -Int.reduceEq,List.cons.injEq,cdB]
  exact⟨h,by omega,fun he=>⟨⟨i+1,yg h hl hab he⟩,by dsimp only;omega,i64_in _ (by omega)⟩,qm⟩
def yO:List D→Option (Prop×D×Fr)
 |[.agg [.c (.int .u64 z34), .c (.int .u64 z35), .c (.int .u64 z36), .c (.int .u64 z37), .c (.int .u64 z38), .c (.sl z39), .c (.bool z40)], .agg [.c (.int .u64 z42), .c (.int .u64 z43), .c (.int .u64 z44), .c (.int .u64 z45), .c (.int .u64 z46), .c (.sl z47), .c (.bool z48)]]=>some (z34=(z34.toNat:Int)∧z35=(z35.toNat:Int)∧z36=(z36.toNat:Int)∧z37=(z37.toNat:Int)∧z38=(z38.toNat:Int)∧z39=hds (bn z39)∧z42=(z42.toNat:Int)∧z43=(z43.toNat:Int)∧z44=(z44.toNat:Int)∧z45=(z45.toNat:Int)∧z46=(z46.toNat:Int)∧z47=hds (bn z47),kaR (⟨z34.toNat,z35.toNat,z36.toNat,z37.toNat,z38.toNat,(bn z39),z40⟩:Ch) (⟨z42.toNat,z43.toNat,z44.toNat,z45.toNat,z46.toNat,(bn z47),z48⟩:Ch),[])
 |_=>none
attribute [go_sem] yO
theorem uaF:ga 190 yO:=by
 intro rs p r fr h hp
 unfold yO at h
 split at h<;>cases h
 obtain⟨hc0,hc1,hc2,hc3,hc4,hc5,hc6,hc7,hc8,hc9,hc10,hc11⟩:=hp
 rename_i z34 z35 z36 z37 z38 z39 z40 z42 z43 z44 z45 z46 z47 z48
 have:=bbv ⟨z34.toNat,z35.toNat,z36.toNat,z37.toNat,z38.toNat,(bn z39),z40⟩ ⟨z42.toNat,z43.toNat,z44.toNat,z45.toNat,z46.toNat,(bn z47),z48⟩
 rw [←hc0,←hc1,←hc2,←hc3,←hc4,←hc5,←hc6,←hc7,←hc8,←hc9,←hc10,←hc11]at this
 exact this
@[go_sem] def kav (a:List Ch) (b:List Ch):D:= .bool (decide (a=b))
@[go_sem] abbrev wcZ:FuncId:=104
@[go_sem] def ubq:Tab:=[(190,yO)]
theorem qC:za Tryz.prog ubq:=(za.cons uaF za.nil)
theorem ua2 (a:List Ch) (b:List Ch):ja Tryz.prog 104 [.sl (chs a), .sl (chs b)] (kav a b):=by
 refine .of (zea qC (Nat.le_of_ble_eq_true rfl) ?_)
 simp -implicitDefEqProofs only [cdA,go_sem,Go.Proofs.Tryz.f104,simprocAttr, -Int.reduceEq,List.cons.injEq,cdB]
 refine fun _ _=>⟨fun hl _=> ?_,zi⟩
 refine SWp.loop (ι:={i:Nat // i≤a.length∧a.take i=b.take i}) (fun i=>⟨[(0, .sl (chs a)),(1, .sl (chs b)),(12, .int .i64 a.length),(13, .int .i64 i.1)],[],0⟩) (fun i=>a.length - i.1) ⟨0,by simp⟩ ?_ ?_
 ·simp [go_sem]
 ·rintro⟨i,hi,hab⟩
  refine ya qC.toS vdg _ _ _ rfl ?_
  simp -implicitDefEqProofs only [cdA,go_sem,simprocAttr, -Int.reduceEq,List.cons.injEq,cdB]
  refine⟨fun h=> ?_,fun h=>gh hl hi h hab⟩
  refine xb.run wcM qC qa (by kernel_rfl) (by kernel_rfl) ?_
  simp -implicitDefEqProofs only [cdA,go_sem,simprocAttr, -Int.reduceEq,List.cons.injEq,cdB]
  exact⟨by omega,by omega,fun he=>⟨⟨i+1,yg h hl hab he⟩,by dsimp only;omega,i64_in _ (by omega)⟩,qm⟩
def yE:List D→Option (Prop×D×Fr)
 |[.c (.sl z49), .c (.sl z50)]=>some (z49=chs (yb z49)∧z50=chs (yb z50),kav (yb z49) (yb z50),[])
 |_=>none
attribute [go_sem] yE
theorem bap:ga 104 yE:=by
 intro rs p r fr h hp
 unfold yE at h
 split at h<;>cases h
 obtain⟨hc0,hc1⟩:=hp
 rename_i z49 z50
 have:=ua2 (yb z49) (yb z50)
 rw [←hc0,←hc1]at this
 exact this
@[go_sem] def baw (a:Wl) (b:Wl):D:= .bool (qaD a b)
@[go_sem] abbrev xc1:FuncId:=37
@[go_sem] def gbs:Tab:=[(104,yE),(105,jE),(106,wE),(107,qF),(108,bX)]
theorem yD:za Tryz.prog gbs:=(za.cons bap (za.cons xaq (za.cons kaq (za.cons zar (za.cons zaW za.nil)))))
theorem va4 (a:Wl) (b:Wl):ja Tryz.prog 37 [.agg [.sl (chs a.c), .sl (wts a.w), .sl (ivs a.i), .sl (pys a.p), .c (.int .u64 (a.f.next:Int)), .sl (evs a.f.l), .c (.int .u64 (a.next:Int)), .c (.int .u64 (a.tick:Int))], .agg [.sl (chs b.c), .sl (wts b.w), .sl (ivs b.i), .sl (pys b.p), .c (.int .u64 (b.f.next:Int)), .sl (evs b.f.l), .c (.int .u64 (b.next:Int)), .c (.int .u64 (b.tick:Int))]] (baw a b):=by
 refine .of (jfl yD (Nat.le_of_ble_eq_true rfl) ?_)
 simp -implicitDefEqProofs only [cdA,go_sem,Go.Proofs.Tryz.f37,simprocAttr, -Int.reduceEq,List.cons.injEq,cdB]
 have no:¬(a.c=b.c∧jbY a.w b.w=true∧a.i=b.i∧a.p=b.p∧a.f=b.f∧a.next=b.next∧a.tick=b.tick)→false=qaD a b:=fun h=>(decide_eq_false h).symm
 refine⟨fun hc _ _=>⟨fun hl=>⟨fun h1=>⟨fun h2=>⟨fun h3=>⟨fun h4=>⟨fun h5 _=> ?_,fun h5=>no fun h=>h5 (by rw [h.2.2.2.2.2.2])⟩,fun h4=>no fun h=>h4 (by rw [h.2.2.2.2.2.1])⟩,fun h3=>no fun h=>h3 h.2.2.2.2.1⟩,fun h2=>no fun h=>h2 h.2.2.2.1⟩,fun h1=>no fun h=>h1 h.2.2.1⟩,fun hl=>no fun h=>by have:=h.2.1;rw [←gbf hl]at this;cases this⟩,fun hc=>no fun h=>hc h.1⟩
 refine SWp.loop (ι:={i:Nat // i≤a.w.length∧∀j,j<i→lik (a.w.getD j default) (b.w.getD j default)=true}) (fun i=>⟨[(2, .ref 0 0),(3, .ref 1 0),(61, .int .i64 a.w.length),(62, .int .i64 i.1)],[(1, .box [.sl (chs b.c), .sl (wts b.w), .sl (ivs b.i), .sl (pys b.p), .c (.int .u64 b.f.next), .sl (evs b.f.l), .c (.int .u64 b.next), .c (.int .u64 b.tick)]),(0, .box [.sl (chs a.c), .sl (wts a.w), .sl (ivs a.i), .sl (pys a.p), .c (.int .u64 a.f.next), .sl (evs a.f.l), .c (.int .u64 a.next), .c (.int .u64 a.tick)])],2⟩) (fun i=>a.w.length - i.1) ⟨0,by simp⟩ ?_ ?_
 ·simp [go_sem]
 ·rintro⟨i,hi,hab⟩
  refine ya yD.toS ge8 _ _ _ rfl ?_
  simp -implicitDefEqProofs only [cdA,go_sem,simprocAttr, -Int.reduceEq,List.cons.injEq,cdB]
  refine⟨fun h=> ?_,fun h=>(decide_eq_true ⟨hc,ubf hl h hab,h1,h2,h3,by omega,by omega⟩).symm⟩
  refine xb.run bdw yD qa (by kernel_rfl) (by kernel_rfl) ?_
  simp -implicitDefEqProofs only [cdA,go_sem,simprocAttr, -Int.reduceEq,List.cons.injEq,cdB]
  have hlk:(a.c=b.c∧jbY a.w b.w=true∧a.i=b.i∧a.p=b.p∧a.f=b.f∧a.next=b.next∧a.tick=b.tick)→(a.w.getD i default).id=(b.w.getD i default).id∧kj (a.w.getD i default).w=kj (b.w.getD i default).w:=fun g=>of_decide_eq_true ((of_decide_eq_true g.2.1).2 i (by omega))
  refine⟨h,by omega,fun he=>⟨h,by omega,fun hk=>⟨⟨i+1,yaM h hab (decide_eq_true ⟨by omega,of_decide_eq_true hk⟩)⟩,by dsimp only;omega,i64_in _ (by omega)⟩,fun hk=>no fun g=>of_decide_eq_false hk (hlk g).2⟩,fun he=>no fun g=>he (by rw [(hlk g).1])⟩
def vF:List D→Option (Prop×D×Fr)
 |[.agg [.c (.sl z52), .c (.sl z53), .c (.sl z54), .c (.sl z55), .c (.int .u64 z57), .c (.sl z58), .c (.int .u64 z59), .c (.int .u64 z60)], .agg [.c (.sl z62), .c (.sl z63), .c (.sl z64), .c (.sl z65), .c (.int .u64 z67), .c (.sl z68), .c (.int .u64 z69), .c (.int .u64 z70)]]=>some (z52=chs (yb z52)∧z53=wts (jd z53)∧z54=ivs (qc z54)∧z55=pys (vb z55)∧z57=(z57.toNat:Int)∧z58=evs (jb z58)∧z59=(z59.toNat:Int)∧z60=(z60.toNat:Int)∧z62=chs (yb z62)∧z63=wts (jd z63)∧z64=ivs (qc z64)∧z65=pys (vb z65)∧z67=(z67.toNat:Int)∧z68=evs (jb z68)∧z69=(z69.toNat:Int)∧z70=(z70.toNat:Int),baw (⟨(yb z52),(jd z53),(qc z54),(vb z55),(⟨z57.toNat,(jb z58)⟩:Fd),z59.toNat,z60.toNat⟩:Wl) (⟨(yb z62),(jd z63),(qc z64),(vb z65),(⟨z67.toNat,(jb z68)⟩:Fd),z69.toNat,z70.toNat⟩:Wl),[])
 |_=>none
attribute [go_sem] vF
theorem qar:ga 37 vF:=by
 intro rs p r fr h hp
 unfold vF at h
 split at h<;>cases h
 obtain⟨hc0,hc1,hc2,hc3,hc4,hc5,hc6,hc7,hc8,hc9,hc10,hc11,hc12,hc13,hc14,hc15⟩:=hp
 rename_i z52 z53 z54 z55 z57 z58 z59 z60 z62 z63 z64 z65 z67 z68 z69 z70
 have:=va4 ⟨(yb z52),(jd z53),(qc z54),(vb z55),⟨z57.toNat,(jb z58)⟩,z59.toNat,z60.toNat⟩ ⟨(yb z62),(jd z63),(qc z64),(vb z65),⟨z67.toNat,(jb z68)⟩,z69.toNat,z70.toNat⟩
 rw [←hc0,←hc1,←hc2,←hc3,←hc4,←hc5,←hc6,←hc7,←hc8,←hc9,←hc10,←hc11,←hc12,←hc13,←hc14,←hc15]at this
 exact this
@[go_sem] def jax (a:Bk) (b:Bk):D:= .bool (ubT a b)
@[go_sem] abbrev uc1:FuncId:=12
@[go_sem] def wbt:Tab:=[(37,vF),(38,kN),(39,zO),(40,bE),(41,zF)]
theorem yaD:za Tryz.prog wbt:=(za.cons qar (za.cons kaF (za.cons waF (za.cons waq (za.cons uaq za.nil)))))
theorem ua5 (a:Bk) (b:Bk):ja Tryz.prog 12 [.agg [.sl (chs a.w.c), .sl (wts a.w.w), .sl (ivs a.w.i), .sl (pys a.w.p), .c (.int .u64 (a.w.f.next:Int)), .sl (evs a.w.f.l), .c (.int .u64 (a.w.next:Int)), .c (.int .u64 (a.w.tick:Int)), .sl (tms a.a.l), .sl (rks a.r), .sl (kys a.k), .sl (cts a.s)], .agg [.sl (chs b.w.c), .sl (wts b.w.w), .sl (ivs b.w.i), .sl (pys b.w.p), .c (.int .u64 (b.w.f.next:Int)), .sl (evs b.w.f.l), .c (.int .u64 (b.w.next:Int)), .c (.int .u64 (b.w.tick:Int)), .sl (tms b.a.l), .sl (rks b.r), .sl (kys b.k), .sl (cts b.s)]] (jax a b):=by
 refine .of (xfj yaD (Nat.le_of_ble_eq_true rfl) ?_)
 simp -implicitDefEqProofs only [cdA,go_sem,Go.Proofs.Tryz.f12,simprocAttr, -Int.reduceEq,List.cons.injEq,cdB]
 unfold ubT
 grind
def bF:List D→Option (Prop×D×Fr)
 |[.agg [.c (.sl z73), .c (.sl z74), .c (.sl z75), .c (.sl z76), .c (.int .u64 z78), .c (.sl z79), .c (.int .u64 z80), .c (.int .u64 z81), .c (.sl z83), .c (.sl z84), .c (.sl z85), .c (.sl z86)], .agg [.c (.sl z89), .c (.sl z90), .c (.sl z91), .c (.sl z92), .c (.int .u64 z94), .c (.sl z95), .c (.int .u64 z96), .c (.int .u64 z97), .c (.sl z99), .c (.sl z100), .c (.sl z101), .c (.sl z102)]]=>some (z73=chs (yb z73)∧z74=wts (jd z74)∧z75=ivs (qc z75)∧z76=pys (vb z76)∧z78=(z78.toNat:Int)∧z79=evs (jb z79)∧z80=(z80.toNat:Int)∧z81=(z81.toNat:Int)∧z83=tms (qb z83)∧z84=rks (gb z84)∧z85=kys (je z85)∧z86=cts (qd z86)∧z89=chs (yb z89)∧z90=wts (jd z90)∧z91=ivs (qc z91)∧z92=pys (vb z92)∧z94=(z94.toNat:Int)∧z95=evs (jb z95)∧z96=(z96.toNat:Int)∧z97=(z97.toNat:Int)∧z99=tms (qb z99)∧z100=rks (gb z100)∧z101=kys (je z101)∧z102=cts (qd z102),jax (⟨(⟨(yb z73),(jd z74),(qc z75),(vb z76),(⟨z78.toNat,(jb z79)⟩:Fd),z80.toNat,z81.toNat⟩:Wl),(⟨(qb z83)⟩:Ar),(gb z84),(je z85),(qd z86)⟩:Bk) (⟨(⟨(yb z89),(jd z90),(qc z91),(vb z92),(⟨z94.toNat,(jb z95)⟩:Fd),z96.toNat,z97.toNat⟩:Wl),(⟨(qb z99)⟩:Ar),(gb z100),(je z101),(qd z102)⟩:Bk),[])
 |_=>none
attribute [go_sem] bF
theorem uar:ga 12 bF:=by
 intro rs p r fr h hp
 unfold bF at h
 split at h<;>cases h
 obtain⟨hc0,hc1,hc2,hc3,hc4,hc5,hc6,hc7,hc8,hc9,hc10,hc11,hc12,hc13,hc14,hc15,hc16,hc17,hc18,hc19,hc20,hc21,hc22,hc23⟩:=hp
 rename_i z73 z74 z75 z76 z78 z79 z80 z81 z83 z84 z85 z86 z89 z90 z91 z92 z94 z95 z96 z97 z99 z100 z101 z102
 have:=ua5 ⟨⟨(yb z73),(jd z74),(qc z75),(vb z76),⟨z78.toNat,(jb z79)⟩,z80.toNat,z81.toNat⟩,⟨(qb z83)⟩,(gb z84),(je z85),(qd z86)⟩ ⟨⟨(yb z89),(jd z90),(qc z91),(vb z92),⟨z94.toNat,(jb z95)⟩,z96.toNat,z97.toNat⟩,⟨(qb z99)⟩,(gb z100),(je z101),(qd z102)⟩
 rw [←hc0,←hc1,←hc2,←hc3,←hc4,←hc5,←hc6,←hc7,←hc8,←hc9,←hc10,←hc11,←hc12,←hc13,←hc14,←hc15,←hc16,←hc17,←hc18,←hc19,←hc20,←hc21,←hc22,←hc23]at this
 exact this
end Dm
