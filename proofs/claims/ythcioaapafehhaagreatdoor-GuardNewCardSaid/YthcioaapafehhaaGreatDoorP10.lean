import Derived.Test.YthcioaapafehhaaGreatDoorP9

set_option linter.unusedSimpArgs false
set_option linter.unusedVariables false
set_option linter.unusedSectionVars false
namespace Dm
open Go Go.Proofs Go.IntWalk
@[go_sem] def zaY:D:= .agg [.int .u64 1, .sl (evs [])]
@[go_sem] abbrev gdc:FuncId:=103
@[go_sem] def vbF:Tab:=[]
theorem zaO:za Tryz.prog vbF:=za.nil
set_option maxRecDepth 8000 in
set_option maxHeartbeats 1000000 in
theorem xbo:va Tryz.prog 103 [] (zaY):=by
 refine .of (jdu zaO (Nat.le_of_ble_eq_true rfl) ?_)
 simp -implicitDefEqProofs only [cdA,go_sem,Go.Proofs.Tryz.f103,reduceIte,reduceCtorEq,Nat.reduceEqDiff,Nat.reduceAdd,Nat.reduceLeDiff,Nat.reduceSub,Nat.reduceMul,Nat.reduceLT,Nat.reduceShiftRight,Nat.reduceMod,Int.reduceLE,Int.reduceLT,Int.reduceToNat,List.cons.injEq,cdB]
 exact rfl
def vO:List D→Option (Prop×D×Fr)
 |[]=>some (True,zaY,[])
 |_=>none
attribute [go_sem] vO
theorem kaF:∀rs p r fr,vO rs=some (p,r,fr)→p→uc Tryz.prog 103 rs r fr:=by
 intro rs p r fr h hp
 unfold vO at h
 split at h<;>cases h
 exact xbo
@[go_sem] def yaY:D:= .agg [.sl (chs []), .sl (wts []), .sl (ivs []), .sl (pys []), .int .u64 1, .sl (evs []), .int .u64 1, .int .u64 0]
@[go_sem] abbrev bdc:FuncId:=36
@[go_sem] def wbF:Tab:=[(103,vO)]
theorem xaO:za Tryz.prog wbF:=(za.cons kaF za.nil)
set_option maxRecDepth 8000 in
set_option maxHeartbeats 1000000 in
theorem kbo:va Tryz.prog 36 [] (yaY):=by
 refine .of (xes xaO (Nat.le_of_ble_eq_true rfl) ?_)
 simp -implicitDefEqProofs only [cdA,go_sem,Go.Proofs.Tryz.f36,reduceIte,reduceCtorEq,Nat.reduceEqDiff,Nat.reduceAdd,Nat.reduceLeDiff,Nat.reduceSub,Nat.reduceMul,Nat.reduceLT,Nat.reduceShiftRight,Nat.reduceMod,Int.reduceLE,Int.reduceLT,Int.reduceToNat,List.cons.injEq,cdB]
 exact⟨rfl,rfl,rfl,rfl⟩
def wO:List D→Option (Prop×D×Fr)
 |[]=>some (True,yaY,[])
 |_=>none
attribute [go_sem] wO
theorem vaF:∀rs p r fr,wO rs=some (p,r,fr)→p→uc Tryz.prog 36 rs r fr:=by
 intro rs p r fr h hp
 unfold wO at h
 split at h<;>cases h
 exact kbo
@[go_sem] def jai (l:List Ky):D:= .int .i64 0
@[go_sem] abbrev xcp:FuncId:=89
@[go_sem] def xa7:Tab:=[]
theorem zM:za Tryz.prog xa7:=za.nil
set_option maxRecDepth 8000 in
set_option maxHeartbeats 1000000 in
theorem uaN (l:List Ky) (h:l=[]):va Tryz.prog 89 [.sl (kys l)] (jai l):=by
 subst h
 refine .of (gev zM (Nat.le_of_ble_eq_true rfl) ?_)
 simp -implicitDefEqProofs only [cdA,go_sem,Go.Proofs.Tryz.f89,reduceIte,reduceCtorEq,Nat.reduceEqDiff,Nat.reduceAdd,Nat.reduceLeDiff,Nat.reduceSub,Nat.reduceMul,Nat.reduceLT,Nat.reduceShiftRight,Nat.reduceMod,Int.reduceLE,Int.reduceLT,Int.reduceToNat,List.cons.injEq,cdB]
 refine⟨fun h=>h.elim,SWp.loop (ι:=Unit) (fun _=>⟨[(0, .sl (kys [])),(8, .sl (kys [])),(9, .int .i64 0),(10, .int .i64 0)],[],0⟩) (fun _=>0) () ?_ ?_⟩
 ·simp [go_sem]
 ·rintro⟨⟩
  refine qa zM.toS qdR _ _ _ rfl ?_
  simp -implicitDefEqProofs only [cdA,go_sem,reduceIte,reduceCtorEq,Nat.reduceEqDiff,Nat.reduceAdd,Nat.reduceLeDiff,Nat.reduceSub,Nat.reduceMul,Nat.reduceLT,Nat.reduceShiftRight,Nat.reduceMod,Int.reduceLE,Int.reduceLT,Int.reduceToNat,List.cons.injEq,cdB]
  exact fun h=>h.elim
@[go_sem] def qai (l:List Ky):Prop:=(l=[])
def vA:List D→Option (Prop×D×Fr)
 |[.c (.sl z1)]=>some (z1=kys (yo z1)∧qai (yo z1),jai (yo z1),[])
 |_=>none
attribute [go_sem] vA
theorem jae:∀rs p r fr,vA rs=some (p,r,fr)→p→uc Tryz.prog 89 rs r fr:=by
 intro rs p r fr h hp
 unfold vA at h
 split at h<;>cases h
 obtain⟨hc0,hp⟩:=hp
 rename_i z1
 obtain⟨z1,rfl⟩:∃m,z1=kys m:=⟨_,hc0⟩
 simp only [ze]
 simp only [ze,qai]at hp
 exact uaN z1 hp
@[go_sem] def vai (l:List Ct):D:= .int .i64 0
@[go_sem] abbrev qcp:FuncId:=90
@[go_sem] def ka7:Tab:=[]
theorem yM:za Tryz.prog ka7:=za.nil
set_option maxRecDepth 8000 in
set_option maxHeartbeats 1000000 in
theorem gaN (l:List Ct) (h:l=[]):va Tryz.prog 90 [.sl (cts l)] (vai l):=by
 subst h
 refine .of (bev yM (Nat.le_of_ble_eq_true rfl) ?_)
 simp -implicitDefEqProofs only [cdA,go_sem,Go.Proofs.Tryz.f90,reduceIte,reduceCtorEq,Nat.reduceEqDiff,Nat.reduceAdd,Nat.reduceLeDiff,Nat.reduceSub,Nat.reduceMul,Nat.reduceLT,Nat.reduceShiftRight,Nat.reduceMod,Int.reduceLE,Int.reduceLT,Int.reduceToNat,List.cons.injEq,cdB]
 refine⟨fun h=>h.elim,SWp.loop (ι:=Unit) (fun _=>⟨[(0, .sl (cts [])),(8, .sl (cts [])),(9, .int .i64 0),(10, .int .i64 0)],[],0⟩) (fun _=>0) () ?_ ?_⟩
 ·simp [go_sem]
 ·rintro⟨⟩
  refine qa yM.toS jdR _ _ _ rfl ?_
  simp -implicitDefEqProofs only [cdA,go_sem,reduceIte,reduceCtorEq,Nat.reduceEqDiff,Nat.reduceAdd,Nat.reduceLeDiff,Nat.reduceSub,Nat.reduceMul,Nat.reduceLT,Nat.reduceShiftRight,Nat.reduceMod,Int.reduceLE,Int.reduceLT,Int.reduceToNat,List.cons.injEq,cdB]
  exact fun h=>h.elim
@[go_sem] def kai (l:List Ct):Prop:=(l=[])
def wA:List D→Option (Prop×D×Fr)
 |[.c (.sl z2)]=>some (z2=cts (xm z2)∧kai (xm z2),vai (xm z2),[])
 |_=>none
attribute [go_sem] wA
theorem kae:∀rs p r fr,wA rs=some (p,r,fr)→p→uc Tryz.prog 90 rs r fr:=by
 intro rs p r fr h hp
 unfold wA at h
 split at h<;>cases h
 obtain⟨hc0,hp⟩:=hp
 rename_i z2
 obtain⟨z2,rfl⟩:∃m,z2=cts m:=⟨_,hc0⟩
 simp only [jd]
 simp only [jd,kai]at hp
 exact gaN z2 hp
@[go_sem] def zaz (l:List Ch):D:= .sl (chs [])
@[go_sem] abbrev qcK:FuncId:=140
@[go_sem] def jbn:Tab:=[]
theorem yV:za Tryz.prog jbn:=za.nil
set_option maxRecDepth 8000 in
set_option maxHeartbeats 1000000 in
theorem ja6 (l:List Ch) (h:l=[]):va Tryz.prog 140 [.sl (chs l)] (zaz l):=by
 subst h
 refine .of (zdx yV (Nat.le_of_ble_eq_true rfl) ?_)
 simp -implicitDefEqProofs only [cdA,go_sem,Go.Proofs.Tryz.f140,reduceIte,reduceCtorEq,Nat.reduceEqDiff,Nat.reduceAdd,Nat.reduceLeDiff,Nat.reduceSub,Nat.reduceMul,Nat.reduceLT,Nat.reduceShiftRight,Nat.reduceMod,Int.reduceLE,Int.reduceLT,Int.reduceToNat,List.cons.injEq,cdB]
 refine SWp.loop (ι:=Unit) (fun _=>⟨[(3, .nil),(6, .sl (chs [])),(7, .int .i64 0),(8, .int .i64 0)],[],0⟩) (fun _=>0) () ?_ ?_
 ·simp [go_sem]
 ·rintro⟨⟩
  refine qa yV.toS vb1 _ _ _ rfl ?_
  simp -implicitDefEqProofs only [cdA,go_sem,reduceIte,reduceCtorEq,Nat.reduceEqDiff,Nat.reduceAdd,Nat.reduceLeDiff,Nat.reduceSub,Nat.reduceMul,Nat.reduceLT,Nat.reduceShiftRight,Nat.reduceMod,Int.reduceLE,Int.reduceLT,Int.reduceToNat,List.cons.injEq,cdB]
  exact⟨fun h=>h.elim,rfl⟩
@[go_sem] def bay (l:List Ch):Prop:=(l=[])
def kG:List D→Option (Prop×D×Fr)
 |[.c (.sl z3)]=>some (z3=chs (ug z3)∧bay (ug z3),zaz (ug z3),[])
 |_=>none
attribute [go_sem] kG
theorem qap:∀rs p r fr,kG rs=some (p,r,fr)→p→uc Tryz.prog 140 rs r fr:=by
 intro rs p r fr h hp
 unfold kG at h
 split at h<;>cases h
 obtain⟨hc0,hp⟩:=hp
 rename_i z3
 obtain⟨z3,rfl⟩:∃m,z3=chs m:=⟨_,hc0⟩
 simp only [yb]
 simp only [yb,bay]at hp
 exact ja6 z3 hp
@[go_sem] def uaz (l:List Ky):D:= .sl (kys [])
@[go_sem] abbrev wcK:FuncId:=69
@[go_sem] def gbn:Tab:=[]
theorem qV:za Tryz.prog gbn:=za.nil
set_option maxRecDepth 8000 in
set_option maxHeartbeats 1000000 in
theorem qa7 (l:List Ky) (h:l=[]):va Tryz.prog 69 [.sl (kys l)] (uaz l):=by
 subst h
 refine .of (ueu qV (Nat.le_of_ble_eq_true rfl) ?_)
 simp -implicitDefEqProofs only [cdA,go_sem,Go.Proofs.Tryz.f69,reduceIte,reduceCtorEq,Nat.reduceEqDiff,Nat.reduceAdd,Nat.reduceLeDiff,Nat.reduceSub,Nat.reduceMul,Nat.reduceLT,Nat.reduceShiftRight,Nat.reduceMod,Int.reduceLE,Int.reduceLT,Int.reduceToNat,List.cons.injEq,cdB]
 refine SWp.loop (ι:=Unit) (fun _=>⟨[(3, .nil),(6, .sl (kys [])),(7, .int .i64 0),(8, .int .i64 0)],[],0⟩) (fun _=>0) () ?_ ?_
 ·simp [go_sem]
 ·rintro⟨⟩
  refine qa qV.toS vdQ _ _ _ rfl ?_
  simp -implicitDefEqProofs only [cdA,go_sem,reduceIte,reduceCtorEq,Nat.reduceEqDiff,Nat.reduceAdd,Nat.reduceLeDiff,Nat.reduceSub,Nat.reduceMul,Nat.reduceLT,Nat.reduceShiftRight,Nat.reduceMod,Int.reduceLE,Int.reduceLT,Int.reduceToNat,List.cons.injEq,cdB]
  exact⟨fun h=>h.elim,rfl⟩
@[go_sem] def waz (l:List Ky):Prop:=(l=[])
def gG:List D→Option (Prop×D×Fr)
 |[.c (.sl z4)]=>some (z4=kys (yo z4)∧waz (yo z4),uaz (yo z4),[])
 |_=>none
attribute [go_sem] gG
theorem wap:∀rs p r fr,gG rs=some (p,r,fr)→p→uc Tryz.prog 69 rs r fr:=by
 intro rs p r fr h hp
 unfold gG at h
 split at h<;>cases h
 obtain⟨hc0,hp⟩:=hp
 rename_i z4
 obtain⟨z4,rfl⟩:∃m,z4=kys m:=⟨_,hc0⟩
 simp only [ze]
 simp only [ze,waz]at hp
 exact qa7 z4 hp
@[go_sem] def vaA (w:Wl):D:= .agg [.sl (chs w.c), .sl (wts w.w), .sl (ivs w.i), .sl (pys w.p), .int .u64 w.f.next, .sl (evs w.f.l), .int .u64 w.next, .int .u64 w.tick]
@[go_sem] abbrev zcL:FuncId:=67
@[go_sem] def jbo:Tab:=[(140,kG)]
theorem kV:za Tryz.prog jbo:=(za.cons qap za.nil)
set_option maxRecDepth 8000 in
set_option maxHeartbeats 1000000 in
theorem ba7 (w:Wl) (h:w.c=[]∧w.w.length≤1000∧w.i.length≤1000∧w.p.length≤1000∧w.f.l.length≤1000):va Tryz.prog 67 [.agg [.sl (chs w.c), .sl (wts w.w), .sl (ivs w.i), .sl (pys w.p), .c (.int .u64 (w.f.next:Int)), .sl (evs w.f.l), .c (.int .u64 (w.next:Int)), .c (.int .u64 (w.tick:Int))]] (vaA w):=by
 refine .of (veu kV (Nat.le_of_ble_eq_true rfl) ?_)
 simp -implicitDefEqProofs only [cdA,go_sem,Go.Proofs.Tryz.f67,reduceIte,reduceCtorEq,Nat.reduceEqDiff,Nat.reduceAdd,Nat.reduceLeDiff,Nat.reduceSub,Nat.reduceMul,Nat.reduceLT,Nat.reduceShiftRight,Nat.reduceMod,Int.reduceLE,Int.reduceLT,Int.reduceToNat,List.cons.injEq,cdB]
 obtain⟨hc,h1,h2,h3,h4⟩:=h
 refine ud.run bcT kV ja (by kernel_rfl) (by kernel_rfl) ?_
 simp -implicitDefEqProofs only [cdA,go_sem,reduceIte,reduceCtorEq,Nat.reduceEqDiff,Nat.reduceAdd,Nat.reduceLeDiff,Nat.reduceSub,Nat.reduceMul,Nat.reduceLT,Nat.reduceShiftRight,Nat.reduceMod,Int.reduceLE,Int.reduceLT,Int.reduceToNat,List.cons.injEq,cdB]
 exact⟨hc,by omega,by omega,by omega,by omega,by rw [hc],⟨_,_,_,rfl⟩,⟨_,_,_,rfl⟩,⟨_,_,_,rfl⟩,_,_,_,rfl⟩
@[go_sem] def kaA (w:Wl):Prop:=(w.c=[]∧w.w.length≤1000∧w.i.length≤1000∧w.p.length≤1000∧w.f.l.length≤1000)
def xH:List D→Option (Prop×D×Fr)
 |[.agg [.c (.sl z6), .c (.sl z7), .c (.sl z8), .c (.sl z9), .c (.int .u64 z11), .c (.sl z12), .c (.int .u64 z13), .c (.int .u64 z14)]]=>some (z6=chs (ug z6)∧z7=wts (vl z7)∧z8=ivs (qi z8)∧z9=pys (ji z9)∧z11=(z11.toNat:Int)∧z12=evs (xh z12)∧z13=(z13.toNat:Int)∧z14=(z14.toNat:Int)∧kaA (⟨(ug z6),(vl z7),(qi z8),(ji z9),(⟨z11.toNat,(xh z12)⟩:Fd),z13.toNat,z14.toNat⟩:Wl),vaA (⟨(ug z6),(vl z7),(qi z8),(ji z9),(⟨z11.toNat,(xh z12)⟩:Fd),z13.toNat,z14.toNat⟩:Wl),[])
 |_=>none
attribute [go_sem] xH
theorem zaq:∀rs p r fr,xH rs=some (p,r,fr)→p→uc Tryz.prog 67 rs r fr:=by
 intro rs p r fr h hp
 unfold xH at h
 split at h<;>cases h
 obtain⟨hc0,hc1,hc2,hc3,hc4,hc5,hc6,hc7,hp⟩:=hp
 rename_i z6 z7 z8 z9 z11 z12 z13 z14
 obtain⟨z6,rfl⟩:∃m,z6=chs m:=⟨_,hc0⟩
 obtain⟨z7,rfl⟩:∃m,z7=wts m:=⟨_,hc1⟩
 obtain⟨z8,rfl⟩:∃m,z8=ivs m:=⟨_,hc2⟩
 obtain⟨z9,rfl⟩:∃m,z9=pys m:=⟨_,hc3⟩
 obtain⟨z11,rfl⟩:∃m:Nat,z11=m:=⟨_,hc4⟩
 obtain⟨z12,rfl⟩:∃m,z12=evs m:=⟨_,hc5⟩
 obtain⟨z13,rfl⟩:∃m:Nat,z13=m:=⟨_,hc6⟩
 obtain⟨z14,rfl⟩:∃m:Nat,z14=m:=⟨_,hc7⟩
 simp only [Int.toNat_natCast,yb,qb,vb,jb,qc]
 simp only [Int.toNat_natCast,yb,qb,vb,jb,qc,kaA]at hp
 exact ba7 ⟨z6,z7,z8,z9,⟨z11,z12⟩,z13,z14⟩ hp
@[go_sem] def xaj (b:Bk):D:= .int .i64 (if wU b.w=0∧vo b.a.l=0∧vU b.r=0 then 0 else 1)
@[go_sem] abbrev vcp:FuncId:=32
@[go_sem] def xa8:Tab:=[(86,gA),(87,uv),(88,yw),(89,vA),(90,wA)]
theorem xao:za Tryz.prog xa8:=(za.cons wae (za.cons bO (za.cons uP (za.cons jae (za.cons kae za.nil)))))
set_option maxRecDepth 8000 in
set_option maxHeartbeats 1000000 in
theorem jaO (b:Bk) (h:b.w.f.next≤18446744073709551615∧b.k=[]∧b.s=[]):va Tryz.prog 32 [.agg [.sl (chs b.w.c), .sl (wts b.w.w), .sl (ivs b.w.i), .sl (pys b.w.p), .c (.int .u64 (b.w.f.next:Int)), .sl (evs b.w.f.l), .c (.int .u64 (b.w.next:Int)), .c (.int .u64 (b.w.tick:Int)), .sl (tms b.a.l), .sl (rks b.r), .sl (kys b.k), .sl (cts b.s)]] (xaj b):=by
 refine .of (ger xao (Nat.le_of_ble_eq_true rfl) ?_)
 simp -implicitDefEqProofs only [cdA,go_sem,Go.Proofs.Tryz.f32,reduceIte,reduceCtorEq,Nat.reduceEqDiff,Nat.reduceAdd,Nat.reduceLeDiff,Nat.reduceSub,Nat.reduceMul,Nat.reduceLT,Nat.reduceShiftRight,Nat.reduceMod,Int.reduceLE,Int.reduceLT,Int.reduceToNat,List.cons.injEq,cdB]
 obtain⟨h,hk,hs⟩:=h
 refine⟨h,fun h1=>⟨fun h2=>⟨fun h3=>⟨hk,hs,by rw [if_pos ⟨h1,h2,h3⟩]⟩,fun h3=>by rw [if_neg fun h=>h3 h.2.2]⟩,fun h2=>by rw [if_neg fun h=>h2 h.2.1]⟩,fun h1=>by rw [if_neg fun h=>h1 h.1]⟩
@[go_sem] def yaj (b:Bk):Prop:=(b.w.f.next≤18446744073709551615∧b.k=[]∧b.s=[])
def bA:List D→Option (Prop×D×Fr)
 |[.agg [.c (.sl z17), .c (.sl z18), .c (.sl z19), .c (.sl z20), .c (.int .u64 z22), .c (.sl z23), .c (.int .u64 z24), .c (.int .u64 z25), .c (.sl z27), .c (.sl z28), .c (.sl z29), .c (.sl z30)]]=>some (z17=chs (ug z17)∧z18=wts (vl z18)∧z19=ivs (qi z19)∧z20=pys (ji z20)∧z22=(z22.toNat:Int)∧z23=evs (xh z23)∧z24=(z24.toNat:Int)∧z25=(z25.toNat:Int)∧z27=tms (zh z27)∧z28=rks (vj z28)∧z29=kys (yo z29)∧z30=cts (xm z30)∧yaj (⟨(⟨(ug z17),(vl z18),(qi z19),(ji z20),(⟨z22.toNat,(xh z23)⟩:Fd),z24.toNat,z25.toNat⟩:Wl),(⟨(zh z27)⟩:Ar),(vj z28),(yo z29),(xm z30)⟩:Bk),xaj (⟨(⟨(ug z17),(vl z18),(qi z19),(ji z20),(⟨z22.toNat,(xh z23)⟩:Fd),z24.toNat,z25.toNat⟩:Wl),(⟨(zh z27)⟩:Ar),(vj z28),(yo z29),(xm z30)⟩:Bk),[])
 |_=>none
attribute [go_sem] bA
theorem uae:∀rs p r fr,bA rs=some (p,r,fr)→p→uc Tryz.prog 32 rs r fr:=by
 intro rs p r fr h hp
 unfold bA at h
 split at h<;>cases h
 obtain⟨hc0,hc1,hc2,hc3,hc4,hc5,hc6,hc7,hc8,hc9,hc10,hc11,hp⟩:=hp
 rename_i z17 z18 z19 z20 z22 z23 z24 z25 z27 z28 z29 z30
 obtain⟨z17,rfl⟩:∃m,z17=chs m:=⟨_,hc0⟩
 obtain⟨z18,rfl⟩:∃m,z18=wts m:=⟨_,hc1⟩
 obtain⟨z19,rfl⟩:∃m,z19=ivs m:=⟨_,hc2⟩
 obtain⟨z20,rfl⟩:∃m,z20=pys m:=⟨_,hc3⟩
 obtain⟨z22,rfl⟩:∃m:Nat,z22=m:=⟨_,hc4⟩
 obtain⟨z23,rfl⟩:∃m,z23=evs m:=⟨_,hc5⟩
 obtain⟨z24,rfl⟩:∃m:Nat,z24=m:=⟨_,hc6⟩
 obtain⟨z25,rfl⟩:∃m:Nat,z25=m:=⟨_,hc7⟩
 obtain⟨z27,rfl⟩:∃m,z27=tms m:=⟨_,hc8⟩
 obtain⟨z28,rfl⟩:∃m,z28=rks m:=⟨_,hc9⟩
 obtain⟨z29,rfl⟩:∃m,z29=kys m:=⟨_,hc10⟩
 obtain⟨z30,rfl⟩:∃m,z30=cts m:=⟨_,hc11⟩
 simp only [Int.toNat_natCast,yb,jd,qb,vb,ze,jb,yc,xb,qc]
 simp only [Int.toNat_natCast,yb,jd,qb,vb,ze,jb,yc,xb,qc,yaj]at hp
 exact jaO ⟨⟨z17,z18,z19,z20,⟨z22,z23⟩,z24,z25⟩,⟨z27⟩,z28,z29,z30⟩ hp
@[go_sem] def baA (b:Bk):D:= .agg [.sl (chs b.w.c), .sl (wts b.w.w), .sl (ivs b.w.i), .sl (pys b.w.p), .int .u64 b.w.f.next, .sl (evs b.w.f.l), .int .u64 b.w.next, .int .u64 b.w.tick, .sl (tms b.a.l), .sl (rks b.r), .sl (kys b.k), .sl (cts b.s)]
@[go_sem] abbrev xcL:FuncId:=23
@[go_sem] def ybp:Tab:=[(67,xH),(68,uH),(69,gG)]
theorem wV:za Tryz.prog ybp:=(za.cons zaq (za.cons vaq (za.cons wap za.nil)))
set_option maxRecDepth 8000 in
set_option maxHeartbeats 1000000 in
theorem qa8 (b:Bk) (h:(b.w.c=[]∧b.w.w.length≤1000∧b.w.i.length≤1000∧b.w.p.length≤1000∧b.w.f.l.length≤1000)∧(b.a.l.length≤1048577∧∀t∈b.a.l,t.text.length≤4096)∧b.r.length≤1000∧b.k=[]∧b.s.length≤1000):va Tryz.prog 23 [.agg [.sl (chs b.w.c), .sl (wts b.w.w), .sl (ivs b.w.i), .sl (pys b.w.p), .c (.int .u64 (b.w.f.next:Int)), .sl (evs b.w.f.l), .c (.int .u64 (b.w.next:Int)), .c (.int .u64 (b.w.tick:Int)), .sl (tms b.a.l), .sl (rks b.r), .sl (kys b.k), .sl (cts b.s)]] (baA b):=by
 refine .of (jer wV (Nat.le_of_ble_eq_true rfl) ?_)
 simp -implicitDefEqProofs only [cdA,go_sem,Go.Proofs.Tryz.f23,reduceIte,reduceCtorEq,Nat.reduceEqDiff,Nat.reduceAdd,Nat.reduceLeDiff,Nat.reduceSub,Nat.reduceMul,Nat.reduceLT,Nat.reduceShiftRight,Nat.reduceMod,Int.reduceLE,Int.reduceLT,Int.reduceToNat,List.cons.injEq,cdB]
 obtain⟨hw,ha,hr,hk,hs⟩:=h
 refine ud.run ycT wV ja (by kernel_rfl) (by kernel_rfl) ?_
 simp -implicitDefEqProofs only [cdA,go_sem,reduceIte,reduceCtorEq,Nat.reduceEqDiff,Nat.reduceAdd,Nat.reduceLeDiff,Nat.reduceSub,Nat.reduceMul,Nat.reduceLT,Nat.reduceShiftRight,Nat.reduceMod,Int.reduceLE,Int.reduceLT,Int.reduceToNat,List.cons.injEq,cdB]
 exact⟨hw,ha,by omega,hk,by omega,⟨_,_,_,rfl⟩,by rw [hk],_,_,_,rfl⟩
@[go_sem] def gaA (b:Bk):Prop:=((b.w.c=[]∧b.w.w.length≤1000∧b.w.i.length≤1000∧b.w.p.length≤1000∧b.w.f.l.length≤1000)∧(b.a.l.length≤1048577∧∀t∈b.a.l,t.text.length≤4096)∧b.r.length≤1000∧b.k=[]∧b.s.length≤1000)
def jH:List D→Option (Prop×D×Fr)
 |[.agg [.c (.sl z33), .c (.sl z34), .c (.sl z35), .c (.sl z36), .c (.int .u64 z38), .c (.sl z39), .c (.int .u64 z40), .c (.int .u64 z41), .c (.sl z43), .c (.sl z44), .c (.sl z45), .c (.sl z46)]]=>some (z33=chs (ug z33)∧z34=wts (vl z34)∧z35=ivs (qi z35)∧z36=pys (ji z36)∧z38=(z38.toNat:Int)∧z39=evs (xh z39)∧z40=(z40.toNat:Int)∧z41=(z41.toNat:Int)∧z43=tms (zh z43)∧z44=rks (vj z44)∧z45=kys (yo z45)∧z46=cts (xm z46)∧gaA (⟨(⟨(ug z33),(vl z34),(qi z35),(ji z36),(⟨z38.toNat,(xh z39)⟩:Fd),z40.toNat,z41.toNat⟩:Wl),(⟨(zh z43)⟩:Ar),(vj z44),(yo z45),(xm z46)⟩:Bk),baA (⟨(⟨(ug z33),(vl z34),(qi z35),(ji z36),(⟨z38.toNat,(xh z39)⟩:Fd),z40.toNat,z41.toNat⟩:Wl),(⟨(zh z43)⟩:Ar),(vj z44),(yo z45),(xm z46)⟩:Bk),[])
 |_=>none
attribute [go_sem] jH
theorem xaq:∀rs p r fr,jH rs=some (p,r,fr)→p→uc Tryz.prog 23 rs r fr:=by
 intro rs p r fr h hp
 unfold jH at h
 split at h<;>cases h
 obtain⟨hc0,hc1,hc2,hc3,hc4,hc5,hc6,hc7,hc8,hc9,hc10,hc11,hp⟩:=hp
 rename_i z33 z34 z35 z36 z38 z39 z40 z41 z43 z44 z45 z46
 obtain⟨z33,rfl⟩:∃m,z33=chs m:=⟨_,hc0⟩
 obtain⟨z34,rfl⟩:∃m,z34=wts m:=⟨_,hc1⟩
 obtain⟨z35,rfl⟩:∃m,z35=ivs m:=⟨_,hc2⟩
 obtain⟨z36,rfl⟩:∃m,z36=pys m:=⟨_,hc3⟩
 obtain⟨z38,rfl⟩:∃m:Nat,z38=m:=⟨_,hc4⟩
 obtain⟨z39,rfl⟩:∃m,z39=evs m:=⟨_,hc5⟩
 obtain⟨z40,rfl⟩:∃m:Nat,z40=m:=⟨_,hc6⟩
 obtain⟨z41,rfl⟩:∃m:Nat,z41=m:=⟨_,hc7⟩
 obtain⟨z43,rfl⟩:∃m,z43=tms m:=⟨_,hc8⟩
 obtain⟨z44,rfl⟩:∃m,z44=rks m:=⟨_,hc9⟩
 obtain⟨z45,rfl⟩:∃m,z45=kys m:=⟨_,hc10⟩
 obtain⟨z46,rfl⟩:∃m,z46=cts m:=⟨_,hc11⟩
 simp only [Int.toNat_natCast,yb,jd,qb,vb,ze,jb,yc,xb,qc]
 simp only [Int.toNat_natCast,yb,jd,qb,vb,ze,jb,yc,xb,qc,gaA]at hp
 exact qa8 ⟨⟨z33,z34,z35,z36,⟨z38,z39⟩,z40,z41⟩,⟨z43⟩,z44,z45,z46⟩ hp
end Dm
namespace Dm
open Go Go.Proofs Go.IntWalk
theorem vdF {l:List Tm}:vo l=0∨vo l=1:=by
 unfold vo qp
 split
 ·exact .inl rfl
 ·exact .inr rfl
theorem zbM {b:Bk} (hk:b.k=[]) (hs:b.s=[]):jU b=if wU b.w=0∧vo b.a.l=0∧vU b.r=0 then 0 else 1:=by
 have h1:bbe b.k=0:=by rw [hk];rfl
 have h2:wJ b.s=0:=by rw [hs];kernel_rfl
 have hw:wU b.w=0∨wU b.w=1:=by unfold wU;split;exact .inl rfl;exact .inr rfl
 have hr:vU b.r=0∨vU b.r=1:=by unfold vU;split;exact .inl rfl;exact .inr rfl
 unfold jU
 rw [h1,h2]
 rcases hw with hw|hw<;>rcases vdF (l:=b.a.l)with ha|ha<;>rcases hr with hr|hr<;>rw [hw,ha,hr]<;>decide
@[go_sem] def yaB (b:Bk) (id:Nat) (key:Nat):D:= .tup [.agg [.sl (chs (yh b id key (kj b.r id key)).1.w.c), .sl (wts (yh b id key (kj b.r id key)).1.w.w), .sl (ivs (yh b id key (kj b.r id key)).1.w.i), .sl (pys (yh b id key (kj b.r id key)).1.w.p), .int .u64 (yh b id key (kj b.r id key)).1.w.f.next, .sl (evs (yh b id key (kj b.r id key)).1.w.f.l), .int .u64 (yh b id key (kj b.r id key)).1.w.next, .int .u64 (yh b id key (kj b.r id key)).1.w.tick, .sl (tms (yh b id key (kj b.r id key)).1.a.l), .sl (rks (yh b id key (kj b.r id key)).1.r), .sl (kys (yh b id key (kj b.r id key)).1.k), .sl (cts (yh b id key (kj b.r id key)).1.s)], .agg [.int .u64 (yh b id key (kj b.r id key)).2.1.root, .sl (cvs (yh b id key (kj b.r id key)).2.1.l), .int .i64 (yh b id key (kj b.r id key)).2.1.tag], .int .i64 (yh b id key (kj b.r id key)).2.2]
@[go_sem] abbrev qcL:FuncId:=27
@[go_sem] def qbp:Tab:=[(32,bA),(77,wZ),(158,vP),(23,jH)]
theorem bC:za Tryz.prog qbp:=(za.cons uae (za.cons baQ (za.cons xaG (za.cons xaq za.nil))))
set_option maxRecDepth 8000 in
set_option maxHeartbeats 1000000 in
theorem ja8 (b:Bk) (id:Nat) (key:Nat) (h:b.w=yaK.w∧b.k=[]∧b.s=[]∧id<253):va Tryz.prog 27 [.agg [.sl (chs b.w.c), .sl (wts b.w.w), .sl (ivs b.w.i), .sl (pys b.w.p), .c (.int .u64 (b.w.f.next:Int)), .sl (evs b.w.f.l), .c (.int .u64 (b.w.next:Int)), .c (.int .u64 (b.w.tick:Int)), .sl (tms b.a.l), .sl (rks b.r), .sl (kys b.k), .sl (cts b.s)], .c (.int .u64 (id:Int)), .c (.int .u64 (key:Int))] (yaB b id key):=by
 refine .of (ver bC (Nat.le_of_ble_eq_true rfl) ?_)
 simp -implicitDefEqProofs only [cdA,go_sem,Go.Proofs.Tryz.f27,reduceIte,reduceCtorEq,Nat.reduceEqDiff,Nat.reduceAdd,Nat.reduceLeDiff,Nat.reduceSub,Nat.reduceMul,Nat.reduceLT,Nat.reduceShiftRight,Nat.reduceMod,Int.reduceLE,Int.reduceLT,Int.reduceToNat,List.cons.injEq,cdB]
 obtain⟨hw,hk,hs,hid⟩:=h
 rw [←zbM hk hs]
 refine⟨⟨by rw [hw];decide,hk,hs⟩,fun h1=>⟨fun h2=> ?_,fun h2=>xS (by rw [yh,if_neg (fun h=>h h1),if_pos h2])⟩,fun h1=>xS ?_⟩
 rotate_left 1
 ·rw [yh,if_pos h1]
  have:=zbM hk hs
  rw [this]at h1⊢
  split at h1
  ·exact absurd rfl h1
  ·rename_i h3;rw [if_neg h3]
 have hcw:b.w.c=[]:=by rw [hw];rfl
 have hww:b.w.w=[]:=by rw [hw];rfl
 have hwi:b.w.i=[]:=by rw [hw];rfl
 have hwp:b.w.p=[]:=by rw [hw];rfl
 have hwf:b.w.f.l=[]:=by rw [hw];rfl
 have hal:=bbc h2
 refine zev bC (Nat.le_of_ble_eq_true rfl) ?_
 simp -implicitDefEqProofs only [cdA,go_sem,Go.Proofs.Tryz.f78,reduceIte,reduceCtorEq,Nat.reduceEqDiff,Nat.reduceAdd,Nat.reduceLeDiff,Nat.reduceSub,Nat.reduceMul,Nat.reduceLT,Nat.reduceShiftRight,Nat.reduceMod,Int.reduceLE,Int.reduceLT,Int.reduceToNat,List.cons.injEq,cdB]
 refine⟨hid,fun h3=> ?_,fun h3=>xS (by rw [yh,if_neg (fun h=>h h1),if_neg (fun h=>h h2),if_pos h3])⟩
 refine ud.run ycU bC ja (by kernel_rfl) (by kernel_rfl) ?_
 simp -implicitDefEqProofs only [cdA,go_sem,reduceIte,reduceCtorEq,Nat.reduceEqDiff,Nat.reduceAdd,Nat.reduceLeDiff,Nat.reduceSub,Nat.reduceMul,Nat.reduceLT,Nat.reduceShiftRight,Nat.reduceMod,Int.reduceLE,Int.reduceLT,Int.reduceToNat,List.cons.injEq,cdB]
 have hok:=zbn h3 ⟨Int.le_refl _,fun h=>absurd h (Int.lt_irrefl _)⟩
 have hokl:=hok.1
 refine⟨⟨⟨hcw,by rw [hww];decide,by rw [hwi];decide,by rw [hwp];decide,by rw [hwf];decide⟩,⟨by omega,fun t ht=> ?_⟩,by omega,hk,by rw [hs];decide⟩, ?_⟩
 ·obtain⟨j,hj,rfl⟩:=ua.1 ht
  exact(hok.2.2 j (List.mem_range.2 hj)).2.2.2
 have e:yh b id key (kj b.r id key)=(⟨b.w,⟨(vh b.a.l ⟨key, -1,qk [id]⟩).1⟩,(kj b.r id key).1,b.k,b.s⟩,⟨id,[],(vh b.a.l ⟨key, -1,qk [id]⟩).2.1⟩,0):=by
  rw [yh,if_neg (fun h=>h h1),if_neg (fun h=>h h2),if_neg (fun h=>h h3)]
 rw [e,if_pos h3]
 exact⟨⟨rfl,rfl,rfl,rfl,rfl,rfl,rfl,rfl,rfl,rfl,rfl,rfl⟩,⟨rfl,rfl,rfl⟩,rfl⟩
@[go_sem] def zaB (b:Bk) (id:Nat) (key:Nat):Prop:=(b.w=yaK.w∧b.k=[]∧b.s=[]∧id<253)
def kH:List D→Option (Prop×D×Fr)
 |[.agg [.c (.sl z3), .c (.sl z4), .c (.sl z5), .c (.sl z6), .c (.int .u64 z8), .c (.sl z9), .c (.int .u64 z10), .c (.int .u64 z11), .c (.sl z13), .c (.sl z14), .c (.sl z15), .c (.sl z16)], .c (.int .u64 z17), .c (.int .u64 z18)]=>some (z3=chs (ug z3)∧z4=wts (vl z4)∧z5=ivs (qi z5)∧z6=pys (ji z6)∧z8=(z8.toNat:Int)∧z9=evs (xh z9)∧z10=(z10.toNat:Int)∧z11=(z11.toNat:Int)∧z13=tms (zh z13)∧z14=rks (vj z14)∧z15=kys (yo z15)∧z16=cts (xm z16)∧z17=(z17.toNat:Int)∧z18=(z18.toNat:Int)∧zaB (⟨(⟨(ug z3),(vl z4),(qi z5),(ji z6),(⟨z8.toNat,(xh z9)⟩:Fd),z10.toNat,z11.toNat⟩:Wl),(⟨(zh z13)⟩:Ar),(vj z14),(yo z15),(xm z16)⟩:Bk) z17.toNat z18.toNat,yaB (⟨(⟨(ug z3),(vl z4),(qi z5),(ji z6),(⟨z8.toNat,(xh z9)⟩:Fd),z10.toNat,z11.toNat⟩:Wl),(⟨(zh z13)⟩:Ar),(vj z14),(yo z15),(xm z16)⟩:Bk) z17.toNat z18.toNat,[])
 |_=>none
attribute [go_sem] kH
theorem qaq:∀rs p r fr,kH rs=some (p,r,fr)→p→uc Tryz.prog 27 rs r fr:=by
 intro rs p r fr h hp
 unfold kH at h
 split at h<;>cases h
 obtain⟨hc0,hc1,hc2,hc3,hc4,hc5,hc6,hc7,hc8,hc9,hc10,hc11,hc12,hc13,hp⟩:=hp
 rename_i z3 z4 z5 z6 z8 z9 z10 z11 z13 z14 z15 z16 z17 z18
 obtain⟨z3,rfl⟩:∃m,z3=chs m:=⟨_,hc0⟩
 obtain⟨z4,rfl⟩:∃m,z4=wts m:=⟨_,hc1⟩
 obtain⟨z5,rfl⟩:∃m,z5=ivs m:=⟨_,hc2⟩
 obtain⟨z6,rfl⟩:∃m,z6=pys m:=⟨_,hc3⟩
 obtain⟨z8,rfl⟩:∃m:Nat,z8=m:=⟨_,hc4⟩
 obtain⟨z9,rfl⟩:∃m,z9=evs m:=⟨_,hc5⟩
 obtain⟨z10,rfl⟩:∃m:Nat,z10=m:=⟨_,hc6⟩
 obtain⟨z11,rfl⟩:∃m:Nat,z11=m:=⟨_,hc7⟩
 obtain⟨z13,rfl⟩:∃m,z13=tms m:=⟨_,hc8⟩
 obtain⟨z14,rfl⟩:∃m,z14=rks m:=⟨_,hc9⟩
 obtain⟨z15,rfl⟩:∃m,z15=kys m:=⟨_,hc10⟩
 obtain⟨z16,rfl⟩:∃m,z16=cts m:=⟨_,hc11⟩
 obtain⟨z17,rfl⟩:∃m:Nat,z17=m:=⟨_,hc12⟩
 obtain⟨z18,rfl⟩:∃m:Nat,z18=m:=⟨_,hc13⟩
 simp only [Int.toNat_natCast,yb,jd,qb,vb,ze,jb,yc,xb,qc]
 simp only [Int.toNat_natCast,yb,jd,qb,vb,ze,jb,yc,xb,qc,zaB]at hp
 exact ja8 ⟨⟨z3,z4,z5,z6,⟨z8,z9⟩,z10,z11⟩,⟨z13⟩,z14,z15,z16⟩ z17 z18 hp
theorem wcy {b:Bk} {id key:Nat} {l:List Rk×Int} (h:(yh b id key l).2.2=0):(yh b id key l).1.w=b.w∧(yh b id key l).1.k=b.k∧(yh b id key l).1.s=b.s:=by
 unfold yh at h⊢
 split at h
 ·rename_i h1;exact absurd h h1
 split at h
 ·rename_i h1;exact absurd h h1
 split at h
 ·rename_i h1;exact absurd h h1
 rename_i h1 h2 h3
 rw [if_neg h1,if_neg h2,if_neg h3]
 exact⟨rfl,rfl,rfl⟩
theorem u9 {keys:List Nat}:∀{n:Nat},(jg keys n).2.2=0→(jg keys n).1.w=yaK.w∧(jg keys n).1.k=[]∧(jg keys n).1.s=[]
 |0,_=>⟨rfl,rfl,rfl⟩
 |n+1,h=>by
  rw [jg]at h⊢
  split at h
  ·rename_i h1;exact absurd h h1
  rename_i h1
  rw [if_neg h1]
  split at h
  ·rename_i h2
   rw [if_pos h2]
   obtain⟨a1,a2,a3⟩:=u9 (n:=n) (Classical.not_not.1 h1)
   obtain⟨b1,b2,b3⟩:=wcy h2
   exact⟨b1.trans a1,b2.trans a2,b3.trans a3⟩
  ·rename_i h2;exact absurd h h2
@[go_sem] def jaY (keys:List Nat):D:= .tup [.agg [.sl (chs (xg keys).1.w.c), .sl (wts (xg keys).1.w.w), .sl (ivs (xg keys).1.w.i), .sl (pys (xg keys).1.w.p), .int .u64 (xg keys).1.w.f.next, .sl (evs (xg keys).1.w.f.l), .int .u64 (xg keys).1.w.next, .int .u64 (xg keys).1.w.tick, .sl (tms (xg keys).1.a.l), .sl (rks (xg keys).1.r), .sl (kys (xg keys).1.k), .sl (cts (xg keys).1.s)], .sl (tks (xg keys).2.1), .int .i64 (xg keys).2.2]
@[go_sem] abbrev ydd:FuncId:=11
@[go_sem] def zbG:Tab:=[(36,wO),(27,kH)]
theorem jK:za Tryz.prog zbG:=(za.cons vaF (za.cons qaq za.nil))
set_option maxRecDepth 8000 in
set_option maxHeartbeats 1000000 in
theorem xbp (keys:List Nat) (hl:keys.length≤70):va Tryz.prog 11 [.sl (yj keys)] (jaY keys):=by
 refine .of (qeq jK (Nat.le_of_ble_eq_true rfl) ?_)
 simp -implicitDefEqProofs only [cdA,go_sem,Go.Proofs.Tryz.f11,reduceIte,reduceCtorEq,Nat.reduceEqDiff,Nat.reduceAdd,Nat.reduceLeDiff,Nat.reduceSub,Nat.reduceMul,Nat.reduceLT,Nat.reduceShiftRight,Nat.reduceMod,Int.reduceLE,Int.reduceLT,Int.reduceToNat,List.cons.injEq,cdB]
 refine fun _=>SWp.jax 6 3 26 rfl (Nat.zero_le _) ?_
 refine SWp.xbP 1 rfl ?_
 refine SWp.loop (ι:={i:Nat // i≤keys.length∧(jg keys i).2.2=0}) (fun i=>⟨[(6, .vec 2 i.1),(2, .ref 0 0),(5, .ref 1 0),(14, .sl (yj keys)),(15, .int .i64 keys.length),(16, .int .i64 i.1)],[(2, .vec true 3 26 (tks (jg keys i.1).2.1)),(1, .box [.sl (chs (jg keys i.1).1.w.c), .sl (wts (jg keys i.1).1.w.w), .sl (ivs (jg keys i.1).1.w.i), .sl (pys (jg keys i.1).1.w.p), .c (.int .u64 (jg keys i.1).1.w.f.next), .sl (evs (jg keys i.1).1.w.f.l), .c (.int .u64 (jg keys i.1).1.w.next), .c (.int .u64 (jg keys i.1).1.w.tick), .sl (tms (jg keys i.1).1.a.l), .sl (rks (jg keys i.1).1.r), .sl (kys (jg keys i.1).1.k), .sl (cts (jg keys i.1).1.s)]),(0, .box [.nil, .nil, .nil, .nil, .c (.int .u64 0), .nil, .c (.int .u64 0), .c (.int .u64 0), .nil, .nil, .nil, .nil])],3⟩) (fun i=>keys.length - i.1) ⟨0,Nat.zero_le _,rfl⟩ ?_ ?_
 ·simp [go_sem,slD,jg,yaK]
  exact⟨rfl,rfl,rfl,rfl,rfl⟩
 ·rintro⟨i,hi,he⟩
  obtain⟨fw,fk,fs⟩:=u9 he
  have hlen:=wF he
  have hf:(jg keys i).1.w.f.next≤18446744073709551615:=by rw [fw];decide
  by_cases hlt:i<keys.length
  rotate_left 1
  ·have hie:i=keys.length:=by omega
   subst hie
   have hb:((keys.length:Int)<(keys.length:Int))=False:=eq_false (by omega)
   refine qa jK.toS bc9 _ _ _ rfl ?_
   simp -implicitDefEqProofs only [cdA,go_sem,hb,cdN,reduceIte,reduceCtorEq,Nat.reduceEqDiff,Nat.reduceAdd,Nat.reduceLeDiff,Nat.reduceSub,Nat.reduceMul,Nat.reduceLT,Nat.reduceShiftRight,Nat.reduceMod,Int.reduceLE,Int.reduceLT,Int.reduceToNat,List.cons.injEq,cdB]
   exact⟨⟨rfl,rfl,rfl,rfl,rfl,rfl,rfl,rfl,rfl,rfl,rfl,rfl⟩,⟨hlen.symm,_,_,_,rfl⟩,he.symm⟩
  have e2:IntKind.u64.wrap (IntKind.i64.wrap ((i:Int)+1))=((i+1:Nat):Int):=by rw [i64_in _ (by omega),u64_in _ (by omega)];omega
  have hb:((i:Int)<(keys.length:Int))=True:=eq_true (by omega)
  have e3:((i:Int)+1).toNat=i+1:=by omega
  have e4:((i:Int)+1=((i+1:Nat):Int))=True:=eq_true (by omega)
  refine qa jK.toS bc9 _ _ _ rfl ?_
  simp -implicitDefEqProofs only [cdA,go_sem,e2,e3,e4,hb,Int.toNat_natCast,cdN,reduceIte,reduceCtorEq,Nat.reduceEqDiff,Nat.reduceAdd,Nat.reduceLeDiff,Nat.reduceSub,Nat.reduceMul,Nat.reduceLT,Nat.reduceShiftRight,Nat.reduceMod,Int.reduceLE,Int.reduceLT,Int.reduceToNat,List.cons.injEq,cdB]
  generalize hc:yh (jg keys i).1 (i+1) (keys.getD i default) (kj (jg keys i).1.r (i+1) (keys.getD i default))=c at*
  refine⟨⟨fw,fk,fs,by omega⟩,fun hc0=> ?_,fun hc0=> ?_⟩
  ·have e5:jg keys (i+1)=(c.1,(jg keys i).2.1++[c.2.1],0):=by rw [jg,if_neg (fun h=>h he),hc,if_pos hc0]
   refine⟨⟨hlen.symm,by omega⟩,⟨i+1,hlt,by rw [e5]⟩,by dsimp only;omega,⟨rfl,i64_in _ (by omega)⟩, ?_⟩
   dsimp only
   rw [e5]
   exact⟨rfl,rfl,rfl,rfl,rfl,rfl,rfl,rfl,rfl,rfl,rfl,rfl,rfl⟩
  ·have e5:jg keys (i+1)=(gae,[],c.2.2):=by rw [jg,if_neg (fun h=>h he),hc,if_neg hc0]
   have e6:xg keys=(gae,[],c.2.2):=by
    rw [xg,b9 (n:=i+1) (by rw [e5];exact hc0) hlt,e5]
   rw [e6]
   exact⟨⟨rfl,rfl,rfl,rfl,rfl,rfl,rfl,rfl,rfl,rfl,rfl,rfl⟩,rfl,rfl⟩
@[go_sem] def qaY (keys:List Nat):Prop:=(keys.length≤70)
def gO:List D→Option (Prop×D×Fr)
 |[.c (.sl z19)]=>some (z19=yj (qm z19)∧qaY (qm z19),jaY (qm z19),[])
 |_=>none
attribute [go_sem] gO
theorem uaF:∀rs p r fr,gO rs=some (p,r,fr)→p→uc Tryz.prog 11 rs r fr:=by
 intro rs p r fr h hp
 unfold gO at h
 split at h<;>cases h
 obtain⟨hc0,hp⟩:=hp
 rename_i z19
 obtain⟨z19,rfl⟩:∃m,z19=yj m:=⟨_,hc0⟩
 simp only [qf]
 simp only [qf,qaY]at hp
 exact xbp z19 hp
end Dm
namespace Dm
open Go Go.Proofs Go.IntWalk
theorem ubS {l:List Rk} {id key:Nat} (h:(kj l id key).2=0):kad (kj l id key).1∧∀y,y∈(kj l id key).1↔y=⟨id,key,false⟩∨y∈l:=by
 unfold kj at h⊢
 split at h
 rotate_left 1
 ·rename_i h1;exact absurd h h1
 rename_i h1
 rw [if_pos h1]
 unfold yas at h1
 split at h1
 ·cases h1
 rename_i h2
 have hok:=Classical.not_not.1 h2
 split at h1
 ·cases h1
 rename_i h3
 split at h1
 ·cases h1
 rename_i h4
 have h64:=hok.1
 have ht:¬Srt.thr Rk.id ltN l id=true:=fun h=>h3 (.inl h)
 have hk:key∉l.map Rk.key:=xcb.1 (by simpa using fun h=>h3 (.inr h))
 have hperm:(Srt.ins l (Srt.pos Rk.id ltN l id) ⟨id,key,false⟩).Perm (⟨id,key,false⟩::l):=Srt.jam
 refine⟨⟨by dsimp only;rw [Srt.qam];omega, ?_, ?_⟩,fun y=> ?_⟩
 ·exact(Srt.uU (lt:=ltN) Srt.jB).2 (Srt.xbO (lt:=ltN) Srt.jB (x:=⟨id,key,false⟩) (ub9 hok) ht)
 ·rw [(hperm.map Rk.key).nodup_iff,List.map_cons,List.nodup_cons]
  exact⟨hk,hok.2.2⟩
 ·dsimp only;rw [hperm.mem_iff,List.mem_cons]
def ucR (keys:List Nat) (b:Bk) (j:Nat) (t:Tk):Prop:=t.root=j+1∧t.l=[]∧(⟨j+1,keys.getD j default,false⟩:Rk)∈b.r∧alk (keys.getD j default, -1,qk [j+1]) (bkA b.a.l)=some t.tag
theorem waW {keys:List Nat}:∀{n:Nat},(jg keys n).2.2=0→jU (jg keys n).1=0∧∀j,j<n→ucR keys (jg keys n).1 j ((jg keys n).2.1.getD j default)
 |0,_=>⟨by show jU yaK=0;kernel_rfl,fun j hj=>absurd hj (by omega)⟩
 |n+1,h=>by
  have h0:=h
  rw [jg]at h
  split at h
  ·rename_i h1;exact absurd h h1
  rename_i h1
  have he:(jg keys n).2.2=0:=Classical.not_not.1 h1
  split at h
  rotate_left 1
  ·rename_i h2;exact absurd h h2
  rename_i h2
  have e:jg keys (n+1)=((yh (jg keys n).1 (n+1) (keys.getD n default) (kj (jg keys n).1.r (n+1) (keys.getD n default))).1,(jg keys n).2.1++[(yh (jg keys n).1 (n+1) (keys.getD n default) (kj (jg keys n).1.r (n+1) (keys.getD n default))).2.1],0):=by rw [jg,if_neg h1,if_pos h2]
  rw [e]
  obtain⟨ih1,ih2⟩:=waW (n:=n) he
  have hlen:=wF he
  generalize jg keys n=p at*
  have ha:(kj p.1.r (n+1) (keys.getD n default)).2=0:=by
   unfold yh at h2
   split at h2
   ·rename_i h3;exact absurd h2 h3
   split at h2
   ·rename_i h3;exact absurd h2 h3
   rename_i h3;exact Classical.not_not.1 h3
  have hp:(vh p.1.a.l ⟨keys.getD n default, -1,qk [n+1]⟩).2.2=0:=by
   unfold yh at h2
   split at h2
   ·rename_i h3;exact absurd h2 h3
   split at h2
   ·rename_i h3;exact absurd h2 h3
   split at h2
   ·rename_i h3;exact absurd h2 h3
   rename_i h3;exact Classical.not_not.1 h3
  have ec:yh p.1 (n+1) (keys.getD n default) (kj p.1.r (n+1) (keys.getD n default))=(⟨p.1.w,⟨(vh p.1.a.l ⟨keys.getD n default, -1,qk [n+1]⟩).1⟩,(kj p.1.r (n+1) (keys.getD n default)).1,p.1.k,p.1.s⟩,⟨n+1,[],(vh p.1.a.l ⟨keys.getD n default, -1,qk [n+1]⟩).2.1⟩,0):=by
   rw [yh,if_neg (fun h=>h ih1),if_neg (fun h=>h ha),if_neg (fun h=>h hp)]
  rw [ec]
  obtain⟨a1,a2⟩:=ubS ha
  obtain⟨c1,c2,_,c4⟩:=kU.1 ih1
  have hput:=zbn hp ⟨Int.le_refl _,fun h=>absurd h (Int.lt_irrefl _)⟩
  refine⟨kU.2 ⟨c1,hput,a1,c4⟩,fun j hj=> ?_⟩
  dsimp only
  by_cases hjn:j<n
  ·have:(p.2.1++[(⟨n+1,[],(vh p.1.a.l ⟨keys.getD n default, -1,qk [n+1]⟩).2.1⟩:Tk)]).getD j default=p.2.1.getD j default:=by
    rw [List.getD_eq_getElem?_getD,List.getElem?_append_left (by omega),List.getD_eq_getElem?_getD]
   rw [this]
   obtain⟨t1,t2,t3,t4⟩:=ih2 j hjn
   refine⟨t1,t2,(a2 _).2 (.inr t3), ?_⟩
   obtain⟨_,_,_,⟨e,_⟩|⟨e,_⟩⟩:=zaN hp
   ·rw [e];exact t4
   ·rw [e];exact bcv t4
  ·have hje:j=n:=by omega
   subst hje
   have:(p.2.1++[(⟨j+1,[],(vh p.1.a.l ⟨keys.getD j default, -1,qk [j+1]⟩).2.1⟩:Tk)]).getD j default=⟨j+1,[],(vh p.1.a.l ⟨keys.getD j default, -1,qk [j+1]⟩).2.1⟩:=by
    rw [List.getD_eq_getElem?_getD,List.getElem?_append_right (by omega),hlen,Nat.sub_self];rfl
   rw [this]
   exact⟨rfl,rfl,(a2 _).2 (.inl rfl),ycQ hp⟩
theorem ub4 {keys:List Nat} {r:Rq} {who j:Nat} (h:(xg keys).2.2=0) (hj:j<keys.length) (h70:keys.length≤70):
 (j9 (xg keys).1 {r with t:=(xg keys).2.1.getD j default} who).2=(j9 (xg keys).1 {r with t:=⟨j+2,((xg keys).2.1.getD j default).l,((xg keys).2.1.getD j default).tag⟩} who).2∧
 ((j9 (xg keys).1 {r with t:=(xg keys).2.1.getD j default} who).2=0→(j9 (xg keys).1 {r with t:=(xg keys).2.1.getD j default} who).1=true∧(j9 (xg keys).1 {r with t:=⟨j+2,((xg keys).2.1.getD j default).l,((xg keys).2.1.getD j default).tag⟩} who).1=false):=by
 obtain⟨hb,hall⟩:=waW (keys:=keys) (n:=keys.length) h
 have ht:=hall j hj
 change jU (xg keys).1=0 at hb
 change ucR keys (xg keys).1 j ((xg keys).2.1.getD j default)at ht
 generalize (xg keys).2.1.getD j default=t at*
 generalize (xg keys).1=b at*
 obtain⟨t1,t2,t3,t4⟩:=ht
 have ho:ga5 {r with t:=t}↔ga5 {r with t:=⟨j+2,t.l,t.tag⟩}:=⟨fun h=>⟨h.1,h.2.1,h.2.2.1,h.2.2.2.1,h.2.2.2.2.1,h.2.2.2.2.2⟩,fun h=>⟨h.1,h.2.1,h.2.2.1,h.2.2.2.1,h.2.2.2.2.1,h.2.2.2.2.2⟩⟩
 have har:=(kU.1 hb).2.1
 have hrk:=(kU.1 hb).2.2.1
 by_cases hr:ga5 {r with t:=t}
 rotate_left 1
 ·have b1:=vbk (b:=b) (r:={r with t:=t}) (who:=who) fun h=>hr h.1
  have b2:=vbk (b:=b) (r:={r with t:=⟨j+2,t.l,t.tag⟩}) (who:=who) fun h=>hr (ho.2 h.1)
  rw [b1,b2]
  exact⟨rfl,fun h=>absurd (show(1:Int)=0 from h) (by decide)⟩
 have m1:=gbO (who:=who) hr hb
 have m2:=gbO (who:=who) (ho.1 hr) hb
 have k1:=qaU (r:={r with t:=t}) (who:=who) hrk
 have k2:=qaU (r:={r with t:=⟨j+2,t.l,t.tag⟩}) (who:=who) hrk
 have hway:wbw b.a.l (keys.getD j default) (qk [j+1]) []=some t.tag:=by
  show goA (bkA b.a.l) (alk _ _) []=_
  rw [t4];rfl
 refine⟨by rw [m1.1,m2.1],fun _=>⟨m1.2.2 (k1.2 ⟨keys.getD j default, ?_, ?_, ?_, ?_⟩), ?_⟩⟩
 ·dsimp only;rw [t1];exact t3
 ·dsimp only;rw [t1,t2];exact hway
 ·dsimp only;rw [t2];exact fun c hc=>by cases hc
 ·dsimp only;rw [t2];rfl
 ·rw [←Bool.not_eq_true,m2.2,k2]
  rintro⟨k,g1,g2,_⟩
  dsimp only at g1 g2
  rw [t2]at g2
  have:=(gce har hway g2).2
  rw [qk,qk,List.flatMap_cons,List.flatMap_cons,vX (by omega),vX (by omega)]at this
  have e:=congrArg (fun l:List UInt8=>(l.headD 0).toNat) this
  have e1:(UInt8.ofNat (j+1)).toNat=j+1:=UInt8.toNat_ofNat_of_lt' (by show j+1<256;omega)
  have e2:(UInt8.ofNat (j+2)).toNat=j+2:=UInt8.toNat_ofNat_of_lt' (by show j+2<256;omega)
  change (UInt8.ofNat (j+1)).toNat=(UInt8.ofNat (j+2)).toNat at e
  omega
end Dm
namespace Dm
open Go Go.Proofs Go.IntWalk
theorem qan {keys:List Nat}:∀{n:Nat},¬(jg keys n).2.2=0→(jg keys n).1=gae∧(jg keys n).2.1=[]
 |0,h=>absurd rfl h
 |n+1,h=>by
  rw [jg]at h⊢
  split at h
  ·rename_i h1;rw [if_pos h1];exact qan h1
  ·rename_i h1
   rw [if_neg h1]
   split at h
   ·exact absurd rfl h
   ·rename_i h2;rw [if_neg h2];exact⟨rfl,rfl⟩
@[go_sem] def bae (keys:List Nat) (r:Rq) (who:Nat):D:= .bool true
@[go_sem] abbrev xco:FuncId:=3
@[go_sem] def qa2:Tab:=[(8,zZ),(9,uY),(10,gab),(11,gO),(12,vH),(13,wH),(14,uab)]
theorem xy:za Tryz.prog qa2:=(za.cons qaQ (za.cons zaQ (za.cons yak (za.cons uaF (za.cons jaq (za.cons kaq (za.cons zak za.nil)))))))
set_option maxRecDepth 8000 in
set_option maxHeartbeats 1000000 in
theorem uaJ (keys:List Nat) (r:Rq) (who:Nat):va Tryz.prog 3 [.sl (yj keys), .agg [.c (.int .u64 (r.id:Int)), .c (.int .i64 r.method), .c (.int .u64 (r.key:Int)), .c (.int .u64 (r.t.root:Int)), .sl (cvs r.t.l), .c (.int .i64 r.t.tag), .c (.int .u64 (r.a:Int)), .c (.int .u64 (r.n:Int)), .c (.int .u64 (r.till:Int)), .sl (its r.items), .sl (cvs r.l)], .c (.int .u64 (who:Int))] (bae keys r who):=by
 refine .of (ac3 xy (Nat.le_of_ble_eq_true rfl) ?_)
 simp -implicitDefEqProofs only [cdA,go_sem,Go.Proofs.Tryz.f3,reduceIte,reduceCtorEq,Nat.reduceEqDiff,Nat.reduceAdd,Nat.reduceLeDiff,Nat.reduceSub,Nat.reduceMul,Nat.reduceLT,Nat.reduceShiftRight,Nat.reduceMod,Int.reduceLE,Int.reduceLT,Int.reduceToNat,List.cons.injEq,cdB]
 have hflat:((xg keys).1.w.c=[]∧(xg keys).1.w.w=[]∧(xg keys).1.k=[])∧(xg keys).1.w.f.next≤18446744073709551615:=by
  by_cases h:(xg keys).2.2=0
  ·obtain⟨h1,h2,_⟩:=u9 (keys:=keys) (n:=keys.length) h
   change (xg keys).1.w=_ at h1
   change (xg keys).1.k=_ at h2
   rw [h1,h2];exact⟨⟨rfl,rfl,rfl⟩,by decide⟩
  ·obtain⟨h1,_⟩:=qan (keys:=keys) (n:=keys.length) h
   change (xg keys).1=_ at h1
   rw [h1];exact⟨⟨rfl,rfl,rfl⟩,by decide⟩
 have hlen:(xg keys).2.1.length≤keys.length∧(0<(xg keys).2.1.length→(xg keys).2.2=0∧(xg keys).2.1.length=keys.length):=by
  by_cases h:(xg keys).2.2=0
  ·have:=wF (keys:=keys) (n:=keys.length) h
   change (xg keys).2.1.length=_ at this
   exact⟨by omega,fun _=>⟨h,this⟩⟩
  ·obtain⟨_,h1⟩:=qan (keys:=keys) (n:=keys.length) h
   change (xg keys).2.1=_ at h1
   rw [h1];exact⟨Nat.zero_le _,fun h=>absurd h (by decide)⟩
 refine fun _=>⟨fun h70=>⟨fun _=>⟨by omega,by omega,hflat.1,fun _=> ?_⟩,fun _=>trivial⟩,fun _=>trivial⟩
 have hmay:=fun h j hj=>ub4 (keys:=keys) (r:=r) (who:=who) (j:=j) h hj (by omega)
 refine SWp.loop (ι:={x:Nat×Tk // x.1≤(xg keys).2.1.length}) (fun x=>⟨[(2, .c (.int .u64 who)),(4, .ref 0 0),(7, .ref 1 0),(56, .sl (tks (xg keys).2.1)),(57, .int .i64 (xg keys).2.1.length),(58, .int .i64 x.1.1)],[(1, .box [.sl (chs (xg keys).1.w.c), .sl (wts (xg keys).1.w.w), .sl (ivs (xg keys).1.w.i), .sl (pys (xg keys).1.w.p), .int .u64 (xg keys).1.w.f.next, .sl (evs (xg keys).1.w.f.l), .int .u64 (xg keys).1.w.next, .int .u64 (xg keys).1.w.tick, .sl (tms (xg keys).1.a.l), .sl (rks (xg keys).1.r), .sl (kys (xg keys).1.k), .sl (cts (xg keys).1.s)]),(0, .box [.c (.int .u64 r.id), .c (.int .i64 r.method), .c (.int .u64 r.key), .c (.int .u64 x.1.2.root), .sl (cvs x.1.2.l), .c (.int .i64 x.1.2.tag), .c (.int .u64 r.a), .c (.int .u64 r.n), .c (.int .u64 r.till), .sl (its r.items), .sl (cvs r.l)])],2⟩) (fun x=>(xg keys).2.1.length - x.1.1) ⟨(0,r.t),Nat.zero_le _⟩ ?_ ?_
 ·simp [go_sem]
 ·rintro⟨⟨i,t0⟩,hi⟩
  dsimp only at hi⊢
  by_cases hlt:i<(xg keys).2.1.length
  rotate_left 1
  ·have hb:((i:Int)<((xg keys).2.1.length:Int))=False:=eq_false (by omega)
   refine qa xy.toS lv3 _ _ _ rfl ?_
   simp -implicitDefEqProofs only [cdA,go_sem,hb,cdN,reduceIte,reduceCtorEq,Nat.reduceEqDiff,Nat.reduceAdd,Nat.reduceLeDiff,Nat.reduceSub,Nat.reduceMul,Nat.reduceLT,Nat.reduceShiftRight,Nat.reduceMod,Int.reduceLE,Int.reduceLT,Int.reduceToNat,List.cons.injEq,cdB]
  obtain⟨he,hk⟩:=hlen.2 (by omega)
  have hm:=hmay he i (by omega)
  have hb:((i:Int)<((xg keys).2.1.length:Int))=True:=eq_true (by omega)
  have e2:IntKind.u64.wrap (IntKind.i64.wrap ((i:Int)+2))=((i+2:Nat):Int):=by rw [i64_in _ (by omega),u64_in _ (by omega)];omega
  have e3:((i:Int)+2).toNat=i+2:=by omega
  refine qa xy.toS lv3 _ _ _ rfl ?_
  simp -implicitDefEqProofs only [cdA,go_sem,hb,e2,e3,cdN,reduceIte,reduceCtorEq,Nat.reduceEqDiff,Nat.reduceAdd,Nat.reduceLeDiff,Nat.reduceSub,Nat.reduceMul,Nat.reduceLT,Nat.reduceShiftRight,Nat.reduceMod,Int.reduceLE,Int.reduceLT,Int.reduceToNat,List.cons.injEq,cdB]
  have hnext:∃i_1:{x:Nat×Tk // x.1≤(xg keys).2.1.length},(xg keys).2.1.length - i_1.val.1<(xg keys).2.1.length - i∧IntKind.i64.wrap ((i:Int)+1)=i_1.val.1∧(i:Int)+2=(i_1.val.2.root:Int)∧cvs ((xg keys).2.1.getD i default).l=cvs i_1.val.2.l∧((xg keys).2.1.getD i default).tag=i_1.val.2.tag:=
   ⟨⟨(i+1,⟨i+2,((xg keys).2.1.getD i default).l,((xg keys).2.1.getD i default).tag⟩),hlt⟩,by dsimp only;omega,i64_in _ (by omega),by dsimp only;omega,rfl,rfl⟩
  refine⟨hflat.2,hflat.2,fun _=>⟨fun h0=>⟨fun _=>⟨fun h2=> ?_,fun _=>hnext⟩,fun h1=> ?_⟩,fun _=>hnext⟩,fun h=>h hm.1⟩
  ·rw [(hm.2 h0).2]at h2;cases h2
  ·rw [(hm.2 h0).1]at h1;cases h1
def qaP:List D→Option (Prop×D×Fr)
 |[.c (.sl z1), .agg [.c (.int .u64 z3), .c (.int .i64 z4), .c (.int .u64 z5), .c (.int .u64 z7), .c (.sl z8), .c (.int .i64 z9), .c (.int .u64 z10), .c (.int .u64 z11), .c (.int .u64 z12), .c (.sl z13), .c (.sl z14)], .c (.int .u64 z15)]=>some (z1=yj (qm z1)∧z3=(z3.toNat:Int)∧z5=(z5.toNat:Int)∧z7=(z7.toNat:Int)∧z8=cvs (zj z8)∧z10=(z10.toNat:Int)∧z11=(z11.toNat:Int)∧z12=(z12.toNat:Int)∧z13=its (y7 z13)∧z14=cvs (zj z14)∧z15=(z15.toNat:Int),bae (qm z1) (⟨z3.toNat,z4,z5.toNat,(⟨z7.toNat,(zj z8),z9⟩:Tk),z10.toNat,z11.toNat,z12.toNat,(y7 z13),(zj z14)⟩:Rq) z15.toNat,[])
 |_=>none
attribute [go_sem] qaP
end Dm
