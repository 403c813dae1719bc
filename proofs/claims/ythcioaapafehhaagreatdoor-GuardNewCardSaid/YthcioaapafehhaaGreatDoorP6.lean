import Derived.Test.YthcioaapafehhaaGreatDoorP5

set_option linter.unusedSimpArgs false
set_option linter.unusedVariables false
set_option linter.unusedSectionVars false
namespace Dm
open Go Go.Proofs Go.IntWalk
def goA (bk:List (NK×Int)):Option Int→List (List UInt8)→Option Int
 |none,_=>none
 |some at0,[]=>some at0
 |some at0,x::l=>goA bk (alk (0,at0,x) bk) l
theorem zl {bk:List (NK×Int)} {l:List (List UInt8)}:goA bk none l=none:=by cases l<;>rfl
theorem y8 {bk:List (NK×Int)}:∀{l:List (List UInt8)} {o:Option Int} {m:List (List UInt8)},goA bk o (l++m)=goA bk (goA bk o l) m
 |l,none,m=>by rw [zl,zl,zl]
 |[],some a,m=>rfl
 |x::l,some a,m=>by rw [List.cons_append,goA,goA,y8]
def jS (l:List Tm) (key:Nat) (text:List UInt8) (ts:List (List UInt8)):Int×Int:=
 if¬uF l then(0,1)else if 4096<text.length∨∃x∈ts,4096<x.length then(0,4)else
 match goA (bkA l) (alk (key, -1,text) (bkA l)) ts with
 |some i=>(i,0)
 |none=>(0,5)
@[go_sem] def zbd (a:Ar) (key:Nat) (text:List UInt8) (ts:List (List UInt8)):D:= .tup [.int .i64 (jS a.l key text ts).1, .int .i64 (jS a.l key text ts).2]
@[go_sem] abbrev zdS:FuncId:=112
@[go_sem] def gbS:Tab:=[(118,zG)]
theorem gh:za Tryz.prog gbS:=(za.cons bK za.nil)
set_option maxRecDepth 8000 in
set_option maxHeartbeats 1000000 in
theorem ubw (a:Ar) (key:Nat) (text:List UInt8) (ts:List (List UInt8)):va Tryz.prog 112 [.agg [.sl (tms a.l)], .c (.int .u64 (key:Int)), .sl (u8s text), .sl (kf ts)] (zbd a key text ts):=by
 refine .of (zdv gh (Nat.le_of_ble_eq_true rfl) ?_)
 simp -implicitDefEqProofs only [cdA,go_sem,Go.Proofs.Tryz.f112,reduceIte,reduceCtorEq,Nat.reduceEqDiff,Nat.reduceAdd,Nat.reduceLeDiff,Nat.reduceSub,Nat.reduceMul,Nat.reduceLT,Nat.reduceShiftRight,Nat.reduceMod,Int.reduceLE,Int.reduceLT,Int.reduceToNat,List.cons.injEq,cdB]
 have hrz:(qp a.l).2=0↔uF a.l:=by unfold qp;split<;>rename_i h<;>simp only [h]<;>decide
 refine⟨fun h0=> ?_,fun h0=>by
  have hno:¬uF a.l:=fun h=>h0 (hrz.2 h)
  rw [jS,qp,if_neg hno,if_pos hno];exact⟨rfl,rfl⟩⟩
 have hok:=hrz.1 h0
 have hra:(qp a.l).1=bkA a.l:=by rw [qp,if_pos hok]
 rw [hra]
 refine vcv gh (Nat.le_of_ble_eq_true rfl) ?_
 simp -implicitDefEqProofs only [cdA,go_sem,Go.Proofs.Tryz.f194,reduceIte,reduceCtorEq,Nat.reduceEqDiff,Nat.reduceAdd,Nat.reduceLeDiff,Nat.reduceSub,Nat.reduceMul,Nat.reduceLT,Nat.reduceShiftRight,Nat.reduceMod,Int.reduceLE,Int.reduceLT,Int.reduceToNat,List.cons.injEq,cdB]
 refine fun _=>⟨fun h1=> ?_,fun h1=>by rw [jS,if_neg (fun h=>h hok),if_pos (.inl (by omega))];exact⟨rfl,rfl⟩⟩
 refine jdz gh (Nat.le_of_ble_eq_true rfl) ?_
 simp -implicitDefEqProofs only [cdA,go_sem,Go.Proofs.Tryz.f195,reduceIte,reduceCtorEq,Nat.reduceEqDiff,Nat.reduceAdd,Nat.reduceLeDiff,Nat.reduceSub,Nat.reduceMul,Nat.reduceLT,Nat.reduceShiftRight,Nat.reduceMod,Int.reduceLE,Int.reduceLT,Int.reduceToNat,List.cons.injEq,cdB]
 refine ydC gh (Nat.le_of_ble_eq_true rfl) ?_
 simp -implicitDefEqProofs only [cdA,go_sem,Go.Proofs.Tryz.f241,reduceIte,reduceCtorEq,Nat.reduceEqDiff,Nat.reduceAdd,Nat.reduceLeDiff,Nat.reduceSub,Nat.reduceMul,Nat.reduceLT,Nat.reduceShiftRight,Nat.reduceMod,Int.reduceLE,Int.reduceLT,Int.reduceToNat,List.cons.injEq,cdB]
 refine fun _=>SWp.loop (ι:={i:Nat // i≤ts.length∧∀j,j<i→(ts.getD j default).length≤4096}) (fun i=>⟨[(0, .sl (kf ts)),(1, .fn (.func 194) [] []),(7, .int .i64 ts.length),(8, .int .i64 i.1)],[],1⟩) (fun i=>ts.length - i.1) ⟨0,by simp⟩ ?_ ?_
 ·simp [go_sem]
 ·rintro⟨i,hi,hall⟩
  refine qa gh.toS vb3 _ _ _ rfl ?_
  simp -implicitDefEqProofs only [cdA,go_sem,reduceIte,reduceCtorEq,Nat.reduceEqDiff,Nat.reduceAdd,Nat.reduceLeDiff,Nat.reduceSub,Nat.reduceMul,Nat.reduceLT,Nat.reduceShiftRight,Nat.reduceMod,Int.reduceLE,Int.reduceLT,Int.reduceToNat,List.cons.injEq,cdB]
  refine⟨fun h4=>⟨h4, ?_⟩,fun h4=> ?_⟩
  ·skip
   refine vcv gh (Nat.le_of_ble_eq_true rfl) ?_
   simp -implicitDefEqProofs only [cdA,go_sem,Go.Proofs.Tryz.f194,reduceIte,reduceCtorEq,Nat.reduceEqDiff,Nat.reduceAdd,Nat.reduceLeDiff,Nat.reduceSub,Nat.reduceMul,Nat.reduceLT,Nat.reduceShiftRight,Nat.reduceMod,Int.reduceLE,Int.reduceLT,Int.reduceToNat,List.cons.injEq,cdB]
   have hi':i<ts.length:=by omega
   refine fun _=>⟨fun h5=> ?_,fun h5=> ?_⟩
   ·rw [jS,if_neg (fun h=>h hok),if_pos (.inr ⟨_,ua.2 ⟨i,hi',rfl⟩,by omega⟩)];exact⟨rfl,rfl⟩
   ·refine⟨⟨i+1,hi',fun j hj=> ?_⟩,by dsimp only;omega,i64_in _ (by omega)⟩
    by_cases hji:j=i
    ·subst hji;omega
    ·exact hall j (by omega)
  ·have hi':i=ts.length:=by omega
   subst hi'
   have hok2:¬∃x∈ts,4096<x.length:=by
    rintro⟨x,hx,hlt⟩
    obtain⟨j,hj,rfl⟩:=ua.1 hx
    have:=hall j hj;omega
   have hfind:jS a.l key text ts=match goA (bkA a.l) (alk (key, -1,text) (bkA a.l)) ts with|some i=>(i,0)|none=>(0,5):=by
    rw [jS,if_neg (fun h=>h hok),if_neg (by rintro(h|h);omega;exact hok2 h)]
   refine⟨fun h=>h.elim,fun at0 hat _=> ?_,fun hat _=> ?_⟩
   ·rw [hat]at hfind
    refine SWp.loop (ι:={i:Nat // i≤ts.length}) (fun i=>⟨[(10, .c (.map nkt (zb0 (bkA a.l)))),(13, .int .i64 ((goA (bkA a.l) (some at0) (ts.take i.1)).getD 0)),(14, .bool (goA (bkA a.l) (some at0) (ts.take i.1)).isSome),(42, .sl (kf ts)),(43, .int .i64 ts.length),(44, .int .i64 i.1)],[],1⟩) (fun i=>ts.length - i.1) ⟨0,by simp⟩ ?_ ?_
    ·simp [go_sem,goA]
    ·rintro⟨i,hi⟩
     have hstep:i<ts.length→goA (bkA a.l) (some at0) (ts.take (i+1))=goA (bkA a.l) (goA (bkA a.l) (some at0) (ts.take i)) [ts.getD i default]:=fun h=>by rw [take_succ h,y8]
     have hwhole:goA (bkA a.l) (some at0) ts=goA (bkA a.l) (goA (bkA a.l) (some at0) (ts.take i)) (ts.drop i):=by rw [←y8,List.take_append_drop]
     dsimp only
     cases ho:goA (bkA a.l) (some at0) (ts.take i)
     ·rw [ho]at hstep hwhole
      rw [zl]at hwhole
      refine qa gh.toS ja5 _ _ _ rfl ?_
      simp -implicitDefEqProofs only [cdA,go_sem,Option.isSome_none,Option.getD_none,false_implies,true_implies,reduceIte,reduceCtorEq,Nat.reduceEqDiff,Nat.reduceAdd,Nat.reduceLeDiff,Nat.reduceSub,Nat.reduceMul,Nat.reduceLT,Nat.reduceShiftRight,Nat.reduceMod,Int.reduceLE,Int.reduceLT,Int.reduceToNat,List.cons.injEq,cdB]
      rw [hfind,hwhole]
      exact⟨fun h=>⟨h,rfl,rfl⟩,fun _=>⟨rfl,rfl⟩⟩
     ·rename_i at1
      rw [ho]at hstep hwhole
      refine qa gh.toS ja5 _ _ _ rfl ?_
      simp -implicitDefEqProofs only [cdA,go_sem,Option.isSome_some,Option.getD_some,false_implies,true_implies,reduceIte,reduceCtorEq,Nat.reduceEqDiff,Nat.reduceAdd,Nat.reduceLeDiff,Nat.reduceSub,Nat.reduceMul,Nat.reduceLT,Nat.reduceShiftRight,Nat.reduceMod,Int.reduceLE,Int.reduceLT,Int.reduceToNat,List.cons.injEq,cdB]
      refine⟨fun h=>⟨h,fun b hb=>⟨⟨i+1,by omega⟩,by dsimp only;omega, ?_, ?_,i64_in _ (by omega)⟩,fun hb=>⟨⟨i+1,by omega⟩,by dsimp only;omega, ?_, ?_,i64_in _ (by omega)⟩⟩,fun h=> ?_⟩
      rotate_left 4
      ·have:i=ts.length:=by omega
       subst this
       rw [List.drop_length,goA]at hwhole
       rw [hfind,hwhole];exact⟨rfl,rfl⟩
      all_goals (dsimp only;rw [hstep (by omega),goA,hb];rfl)
   ·rw [hat,zl]at hfind
    refine SWp.loop (ι:={i:Nat // i≤ts.length}) (fun i=>⟨[(10, .c (.map nkt (zb0 (bkA a.l)))),(13, .int .i64 ((goA (bkA a.l) none (ts.take i.1)).getD 0)),(14, .bool (goA (bkA a.l) none (ts.take i.1)).isSome),(42, .sl (kf ts)),(43, .int .i64 ts.length),(44, .int .i64 i.1)],[],1⟩) (fun i=>ts.length - i.1) ⟨0,by simp⟩ ?_ ?_
    ·simp [go_sem,goA]
    ·rintro⟨i,hi⟩
     have hstep:i<ts.length→goA (bkA a.l) none (ts.take (i+1))=goA (bkA a.l) (goA (bkA a.l) none (ts.take i)) [ts.getD i default]:=fun h=>by rw [take_succ h,y8]
     have hwhole:goA (bkA a.l) none ts=goA (bkA a.l) (goA (bkA a.l) none (ts.take i)) (ts.drop i):=by rw [←y8,List.take_append_drop]
     dsimp only
     cases ho:goA (bkA a.l) none (ts.take i)
     ·rw [ho]at hstep hwhole
      rw [zl]at hwhole
      refine qa gh.toS ja5 _ _ _ rfl ?_
      simp -implicitDefEqProofs only [cdA,go_sem,Option.isSome_none,Option.getD_none,false_implies,true_implies,reduceIte,reduceCtorEq,Nat.reduceEqDiff,Nat.reduceAdd,Nat.reduceLeDiff,Nat.reduceSub,Nat.reduceMul,Nat.reduceLT,Nat.reduceShiftRight,Nat.reduceMod,Int.reduceLE,Int.reduceLT,Int.reduceToNat,List.cons.injEq,cdB]
      rw [hfind]
      exact⟨fun h=>⟨h,rfl,rfl⟩,fun _=>⟨rfl,rfl⟩⟩
     ·rename_i at1
      rw [ho]at hstep hwhole
      refine qa gh.toS ja5 _ _ _ rfl ?_
      simp -implicitDefEqProofs only [cdA,go_sem,Option.isSome_some,Option.getD_some,false_implies,true_implies,reduceIte,reduceCtorEq,Nat.reduceEqDiff,Nat.reduceAdd,Nat.reduceLeDiff,Nat.reduceSub,Nat.reduceMul,Nat.reduceLT,Nat.reduceShiftRight,Nat.reduceMod,Int.reduceLE,Int.reduceLT,Int.reduceToNat,List.cons.injEq,cdB]
      exact absurd ho (by rw [zl];exact fun h=>by cases h)
def yY:List D→Option (Prop×D×Fr)
 |[.agg [.c (.sl z2)], .c (.int .u64 z3), .c (.sl z4), .c (.sl z5)]=>some (z2=tms (zh z2)∧z3=(z3.toNat:Int)∧z4=u8s (ku z4)∧z5=kf (wal z5),zbd (⟨(zh z2)⟩:Ar) z3.toNat (ku z4) (wal z5),[])
 |_=>none
attribute [go_sem] yY
theorem jaP:∀rs p r fr,yY rs=some (p,r,fr)→p→uc Tryz.prog 112 rs r fr:=by
 intro rs p r fr h hp
 unfold yY at h
 split at h<;>cases h
 obtain⟨hc0,hc1,hc2,hc3⟩:=hp
 rename_i z2 z3 z4 z5
 obtain⟨z2,rfl⟩:∃m,z2=tms m:=⟨_,hc0⟩
 obtain⟨z3,rfl⟩:∃m:Nat,z3=m:=⟨_,hc1⟩
 obtain⟨z4,rfl⟩:∃m,z4=u8s m:=⟨_,hc2⟩
 obtain⟨z5,rfl⟩:∃m,z5=kf m:=⟨_,hc3⟩
 simp only [Int.toNat_natCast,xad,xb,zg]
 exact ubw ⟨z2⟩ z3 z4 z5
end Dm
namespace Dm
open Go Go.Proofs Go.IntWalk
structure Tk where
 root:Nat
 l:List Cv
 tag:Int
deriving DecidableEq,Inhabited
@[go_sem] def Tk.enc (e:Tk):List C:=[.int .u64 (e.root:Int), .sl (cvs e.l), .int .i64 e.tag]
def Tk.dec:List C→Tk
 |[.int .u64 z2, .sl z3, .int .i64 z4]=>(⟨z2.toNat,(zj z3),z4⟩:Tk)
 |_=>default
def tks (l:List Tk):List (List C):=l.map Tk.enc
def qbM (l:List (List C)):List Tk:=l.map Tk.dec
@[simp,go_sem] theorem vct (l:List Tk):(tks l).length=l.length:=by simp [tks]
@[go_sem] theorem zdZ (l:List Tk) (i:Nat):(tks l).getD i [.int .u64 0, .sl [], .int .i64 0]=(l.getD i default).enc:=by
 simp only [tks,List.getD_eq_getElem?_getD,List.getElem?_map]
 cases l[i]? <;>rfl
@[go_sem] theorem wdk (l:List Tk):uf 3 (tks l)=True:=by
 simp [uf,tks,Tk.enc]
theorem Tk.yd (e:Tk):Tk.dec e.enc=e:=by
 simp [Tk.enc,Tk.dec,ye]
@[go_sem] theorem uaT (l:List Tk):qbM (tks l)=l:=by
 simp only [qbM,tks,List.map_map]
 exact List.map_id'' (fun e=>Tk.yd e) l
@[go_sem] theorem bdY (a b:List Tk):tks a++tks b=tks (a++b):=by simp [tks]
@[go_sem] theorem kdk (l:List Tk) (k:Nat):(tks l).drop k=tks (l.drop k):=by simp [tks]
@[go_sem] theorem vdk (l:List Tk) (k:Nat):(tks l).take k=tks (l.take k):=by simp [tks]
@[go_sem] theorem ydZ (z5:Int) (z6:List Cv) (z7:Int) (hz5:0≤z5):[[C.int .u64 z5,C.sl (cvs z6),C.int .i64 z7]]=tks [⟨z5.toNat,z6,z7⟩]:=by simp [tks,Tk.enc,Int.toNat_of_nonneg hz5]
@[go_sem] theorem xdZ (l:List Tk) (i:Nat) (z5:Int) (z6:List Cv) (z7:Int) (hz5:0≤z5):(tks l).set i [C.int .u64 z5,C.sl (cvs z6),C.int .i64 z7]=tks (l.set i ⟨z5.toNat,z6,z7⟩):=by simp [tks,List.map_set,Tk.enc,Int.toNat_of_nonneg hz5]
@[go_sem] theorem jdk (l:List Tk) (z5:Int) (z6:List Cv) (z7:Int) (hz5:0≤z5):[C.int .u64 z5,C.sl (cvs z6),C.int .i64 z7]::tks l=tks (⟨z5.toNat,z6,z7⟩::l):=by simp [tks,Tk.enc,Int.toNat_of_nonneg hz5]
@[go_sem] theorem Tk.eta {e:Tk}:(⟨e.root,e.l,e.tag⟩:Tk)=e:=rfl
def wbl (t:Tk):Prop:=t.l.length≤16∧0≤t.tag∧t.tag≤1048576∧∀c∈t.l,gB c=0
instance (t:Tk):Decidable (wbl t):=by unfold wbl;infer_instance
def zaS (t:Tk):Int:=if wbl t then 0 else 1
@[go_sem] def xa1 (t:Tk):D:= .int .i64 (zaS t)
@[go_sem] abbrev kde:FuncId:=53
@[go_sem] def zbJ:Tab:=[(58,jh)]
theorem jr:za Tryz.prog zbJ:=(za.cons zi za.nil)
set_option maxRecDepth 8000 in
set_option maxHeartbeats 1000000 in
theorem bbt (t:Tk):va Tryz.prog 53 [.agg [.c (.int .u64 (t.root:Int)), .sl (cvs t.l), .c (.int .i64 t.tag)]] (xa1 t):=by
 refine .of (ket jr (Nat.le_of_ble_eq_true rfl) ?_)
 simp -implicitDefEqProofs only [cdA,go_sem,Go.Proofs.Tryz.f53,reduceIte,reduceCtorEq,Nat.reduceEqDiff,Nat.reduceAdd,Nat.reduceLeDiff,Nat.reduceSub,Nat.reduceMul,Nat.reduceLT,Nat.reduceShiftRight,Nat.reduceMod,Int.reduceLE,Int.reduceLT,Int.reduceToNat,List.cons.injEq,cdB]
 have hbad:¬wbl t→1=zaS t:=fun h=>by rw [zaS,if_neg h]
 refine fun _=>⟨fun h1=>⟨fun h2=>⟨fun h3=> ?_,fun h3=>hbad fun h=>by have:=h.2.2.1;omega⟩,fun h2=>hbad fun h=>by have:=h.2.1;omega⟩,fun h1=>hbad fun h=>by have:=h.1;omega⟩
 refine xcv jr (Nat.le_of_ble_eq_true rfl) ?_
 simp -implicitDefEqProofs only [cdA,go_sem,Go.Proofs.Tryz.f117,reduceIte,reduceCtorEq,Nat.reduceEqDiff,Nat.reduceAdd,Nat.reduceLeDiff,Nat.reduceSub,Nat.reduceMul,Nat.reduceLT,Nat.reduceShiftRight,Nat.reduceMod,Int.reduceLE,Int.reduceLT,Int.reduceToNat,List.cons.injEq,cdB]
 refine wcv jr (Nat.le_of_ble_eq_true rfl) ?_
 simp -implicitDefEqProofs only [cdA,go_sem,Go.Proofs.Tryz.f199,reduceIte,reduceCtorEq,Nat.reduceEqDiff,Nat.reduceAdd,Nat.reduceLeDiff,Nat.reduceSub,Nat.reduceMul,Nat.reduceLT,Nat.reduceShiftRight,Nat.reduceMod,Int.reduceLE,Int.reduceLT,Int.reduceToNat,List.cons.injEq,cdB]
 refine fun _=>SWp.loop (ι:={i:Nat // i≤t.l.length∧∀j,j<i→gB (t.l.getD j default)=0}) (fun i=>⟨[(0, .sl (cvs t.l)),(1, .fn (.func 116) [] []),(7, .int .i64 t.l.length),(8, .int .i64 i.1)],[],1⟩) (fun i=>t.l.length - i.1) ⟨0,by simp⟩ ?_ ?_
 ·simp [go_sem]
 ·rintro⟨i,hi,hall⟩
  refine qa jr.toS bbC _ _ _ rfl ?_
  simp -implicitDefEqProofs only [cdA,go_sem,reduceIte,reduceCtorEq,Nat.reduceEqDiff,Nat.reduceAdd,Nat.reduceLeDiff,Nat.reduceSub,Nat.reduceMul,Nat.reduceLT,Nat.reduceShiftRight,Nat.reduceMod,Int.reduceLE,Int.reduceLT,Int.reduceToNat,List.cons.injEq,cdB]
  refine⟨fun h4=>⟨h4, ?_⟩,fun h4=> ?_⟩
  ·skip
   refine qdv jr (Nat.le_of_ble_eq_true rfl) ?_
   simp -implicitDefEqProofs only [cdA,go_sem,Go.Proofs.Tryz.f116,reduceIte,reduceCtorEq,Nat.reduceEqDiff,Nat.reduceAdd,Nat.reduceLeDiff,Nat.reduceSub,Nat.reduceMul,Nat.reduceLT,Nat.reduceShiftRight,Nat.reduceMod,Int.reduceLE,Int.reduceLT,Int.reduceToNat,List.cons.injEq,cdB]
   have hi':i<t.l.length:=by omega
   refine⟨fun h5=>⟨⟨i+1,hi',fun j hj=> ?_⟩,by dsimp only;omega,i64_in _ (by omega)⟩,fun h5=>hbad fun h=>h5 (h.2.2.2 _ (ua.2 ⟨i,hi',rfl⟩))⟩
   by_cases hji:j=i
   ·subst hji;exact h5
   ·exact hall j (by omega)
  ·have hi':i=t.l.length:=by omega
   subst hi'
   have ht:wbl t:=⟨by omega,by omega,by omega,fun c hc=>by
    obtain⟨j,hj,rfl⟩:=ua.1 hc
    exact hall j hj⟩
   refine⟨False.elim, ?_⟩
   rw [zaS,if_pos ht]
def xx:List D→Option (Prop×D×Fr)
 |[.agg [.c (.int .u64 z9), .c (.sl z10), .c (.int .i64 z11)]]=>some (z9=(z9.toNat:Int)∧z10=cvs (zj z10),xa1 (⟨z9.toNat,(zj z10),z11⟩:Tk),[])
 |_=>none
attribute [go_sem] xx
theorem qE:∀rs p r fr,xx rs=some (p,r,fr)→p→uc Tryz.prog 53 rs r fr:=by
 intro rs p r fr h hp
 unfold xx at h
 split at h<;>cases h
 obtain⟨hc0,hc1⟩:=hp
 rename_i z9 z10 z11
 obtain⟨z9,rfl⟩:∃m:Nat,z9=m:=⟨_,hc0⟩
 obtain⟨z10,rfl⟩:∃m,z10=cvs m:=⟨_,hc1⟩
 simp only [Int.toNat_natCast,ye]
 exact bbt ⟨z9,z10,z11⟩
def bR (c:Cv):List UInt8:=if gB c=0 then qk (if c.kind=4 then [c.kind.toNat,c.a,c.b]else [c.kind.toNat,c.a])else []
@[go_sem] def yaT (c:Cv):D:= .tup [.sl (u8s (bR c)), .int .i64 (gB c)]
@[go_sem] abbrev zdb:FuncId:=52
@[go_sem] def yby:Tab:=[(58,jh),(61,uT)]
theorem kaK:za Tryz.prog yby:=(za.cons zi (za.cons gT za.nil))
set_option maxRecDepth 8000 in
set_option maxHeartbeats 1000000 in
theorem ube (c:Cv):va Tryz.prog 52 [.agg [.c (.int .i64 c.kind), .c (.int .u64 (c.a:Int)), .c (.int .u64 (c.b:Int))]] (yaT c):=by
 refine .of (jet kaK (Nat.le_of_ble_eq_true rfl) ?_)
 simp -implicitDefEqProofs only [cdA,go_sem,Go.Proofs.Tryz.f52,reduceIte,reduceCtorEq,Nat.reduceEqDiff,Nat.reduceAdd,Nat.reduceLeDiff,Nat.reduceSub,Nat.reduceMul,Nat.reduceLT,Nat.reduceShiftRight,Nat.reduceMod,Int.reduceLE,Int.reduceLT,Int.reduceToNat,List.cons.injEq,cdB]
 refine⟨fun h=> ?_,fun h=>by rw [bR,if_neg h];rfl⟩
 have hk:0≤c.kind∧c.kind≤5:=by
  unfold gB at h
  split at h
  ·rename_i h1;omega
  ·cases h
 have hw:IntKind.u64.wrap c.kind=c.kind:=u64_in _ (by omega)
 rw [bR,if_pos h,hw,h]
 exact⟨fun h1=>⟨by rw [if_pos h1],rfl⟩,fun h1=>⟨by rw [if_neg h1],rfl⟩⟩
def vD:List D→Option (Prop×D×Fr)
 |[.agg [.c (.int .i64 z13), .c (.int .u64 z14), .c (.int .u64 z15)]]=>some (z14=(z14.toNat:Int)∧z15=(z15.toNat:Int),yaT (⟨z13,z14.toNat,z15.toNat⟩:Cv),[])
 |_=>none
attribute [go_sem] vD
theorem yW:∀rs p r fr,vD rs=some (p,r,fr)→p→uc Tryz.prog 52 rs r fr:=by
 intro rs p r fr h hp
 unfold vD at h
 split at h<;>cases h
 obtain⟨hc0,hc1⟩:=hp
 rename_i z13 z14 z15
 obtain⟨z14,rfl⟩:∃m:Nat,z14=m:=⟨_,hc0⟩
 obtain⟨z15,rfl⟩:∃m:Nat,z15=m:=⟨_,hc1⟩
 simp only [Int.toNat_natCast]
 exact ube ⟨z13,z14,z15⟩
def txH (t:Tk) (i:Nat):List (List UInt8):=(t.l.map bR).take i++List.replicate (t.l.length - i) []
theorem ubu {t:Tk} {i:Nat} (hi:i≤t.l.length):(txH t i).length=t.l.length:=by simp [txH];omega
theorem wdZ {t:Tk}:List.replicate t.l.length [C.sl []]=kf (txH t 0):=by simp [txH,kf,u8s]
theorem wcb {t:Tk}:txH t t.l.length=t.l.map bR:=by
 rw [txH,Nat.sub_self,List.replicate_zero,List.append_nil,List.take_of_length_le (by rw [List.length_map];exact Nat.le_refl _)]
theorem ucb {t:Tk} {i:Nat} (hi:i<t.l.length):(txH t i).set i (bR (t.l.getD i default))=txH t (i+1):=by
 have hl:i<(t.l.map bR).length:=by rw [List.length_map];exact hi
 have h1:((t.l.map bR).take i).length=i:=by rw [List.length_take];omega
 rw [txH,txH,List.take_succ_eq_append_getElem hl,List.append_assoc,List.set_append_right _ _ (by omega),h1,Nat.sub_self]
 obtain⟨k,hk⟩:∃k,t.l.length - i=k+1:=⟨t.l.length - i - 1,by omega⟩
 rw [hk,show t.l.length - (i+1)=k by omega,List.replicate_succ,List.set_cons_zero,we hi]
 simp
@[go_sem] def ybu (t:Tk):D:= .sl (kf (t.l.map bR))
@[go_sem] abbrev wdU:FuncId:=113
@[go_sem] def jcb:Tab:=[(52,vD)]
theorem qak:za Tryz.prog jcb:=(za.cons yW za.nil)
set_option maxRecDepth 8000 in
set_option maxHeartbeats 1000000 in
theorem ybJ (t:Tk) (h:t.l.length≤1000000):va Tryz.prog 113 [.agg [.c (.int .u64 (t.root:Int)), .sl (cvs t.l), .c (.int .i64 t.tag)]] (ybu t):=by
 refine .of (ydv qak (Nat.le_of_ble_eq_true rfl) ?_)
 simp -implicitDefEqProofs only [cdA,go_sem,Go.Proofs.Tryz.f113,reduceIte,reduceCtorEq,Nat.reduceEqDiff,Nat.reduceAdd,Nat.reduceLeDiff,Nat.reduceSub,Nat.reduceMul,Nat.reduceLT,Nat.reduceShiftRight,Nat.reduceMod,Int.reduceLE,Int.reduceLT,Int.reduceToNat,List.cons.injEq,cdB]
 refine fun _=>⟨⟨Int.le_refl _,by omega⟩,fun _=> ?_⟩
 refine SWp.loop (ι:={i:Nat // i≤t.l.length}) (fun i=>⟨[(3, .vec 1 t.l.length),(11, .sl (cvs t.l)),(12, .int .i64 t.l.length),(13, .int .i64 i.1)],[(1, .vec true 1 81 (kf (txH t i.1))),(0, .box [.c (.int .u64 t.root), .sl (cvs t.l), .c (.int .i64 t.tag)])],2⟩) (fun i=>t.l.length - i.1) ⟨0,by simp⟩ ?_ ?_
 ·simp [go_sem,wdZ,ubu]
 ·rintro⟨i,hi⟩
  refine qa qak.toS yb1 _ _ _ rfl ?_
  simp -implicitDefEqProofs only [cdA,go_sem,reduceIte,reduceCtorEq,Nat.reduceEqDiff,Nat.reduceAdd,Nat.reduceLeDiff,Nat.reduceSub,Nat.reduceMul,Nat.reduceLT,Nat.reduceShiftRight,Nat.reduceMod,Int.reduceLE,Int.reduceLT,Int.reduceToNat,List.cons.injEq,cdB]
  refine⟨fun h1=> ?_,fun h1=> ?_⟩
  ·have hi':i<t.l.length:=by omega
   rw [ucb hi']
   exact⟨h1,h1,⟨(ubu hi).symm,hi'⟩,⟨i+1,hi'⟩,by dsimp only;omega,i64_in _ (by omega),rfl⟩
  ·have hi':i=t.l.length:=by omega
   subst hi'
   rw [wcb]
   exact⟨by rw [List.length_map],_,_,_,rfl⟩
@[go_sem] def zbu (t:Tk):Prop:=(t.l.length≤1000000)
def j4:List D→Option (Prop×D×Fr)
 |[.agg [.c (.int .u64 z17), .c (.sl z18), .c (.int .i64 z19)]]=>some (z17=(z17.toNat:Int)∧z18=cvs (zj z18)∧zbu (⟨z17.toNat,(zj z18),z19⟩:Tk),ybu (⟨z17.toNat,(zj z18),z19⟩:Tk),[])
 |_=>none
attribute [go_sem] j4
theorem vaR:∀rs p r fr,j4 rs=some (p,r,fr)→p→uc Tryz.prog 113 rs r fr:=by
 intro rs p r fr h hp
 unfold j4 at h
 split at h<;>cases h
 obtain⟨hc0,hc1,hp⟩:=hp
 rename_i z17 z18 z19
 obtain⟨z17,rfl⟩:∃m:Nat,z17=m:=⟨_,hc0⟩
 obtain⟨z18,rfl⟩:∃m,z18=cvs m:=⟨_,hc1⟩
 simp only [Int.toNat_natCast,ye]
 simp only [Int.toNat_natCast,ye,zbu]at hp
 exact ybJ ⟨z17,z18,z19⟩ hp
theorem vaX {l:List Tm} {t:Tm} (h:¬(vh l t).2.2=0):(vh l t).1=[]∧(vh l t).2.1=0:=by
 unfold vh at*
 split at h
 ·rename_i h1;rw [if_pos h1];exact⟨rfl,rfl⟩
 ·rename_i h1
  rw [if_neg h1]
  split at h
  ·rename_i h2;rw [if_pos h2];exact⟨rfl,rfl⟩
  ·rename_i h2
   rw [if_neg h2]
   split at h
   ·exact absurd rfl h
   ·rename_i h3
    split at h
    ·rename_i h4;rw [if_pos h4];exact⟨rfl,rfl⟩
    ·exact absurd rfl h
@[go_sem] def jbu (a:Ar) (root:Nat) (key:Nat):D:= .tup [.agg [.sl (tms (vh a.l ⟨key, -1,qk [root]⟩).1)], .agg [.int .u64 (if(vh a.l ⟨key, -1,qk [root]⟩).2.2=0 then root else 0:Nat), .sl (cvs []), .int .i64 (vh a.l ⟨key, -1,qk [root]⟩).2.1], .int .i64 (vh a.l ⟨key, -1,qk [root]⟩).2.2]
@[go_sem] abbrev udU:FuncId:=19
@[go_sem] def kcb:Tab:=[(60,qY),(61,uT)]
theorem kak:za Tryz.prog kcb:=(za.cons vaP (za.cons gT za.nil))
set_option maxRecDepth 8000 in
set_option maxHeartbeats 1000000 in
theorem qbJ (a:Ar) (root:Nat) (key:Nat):va Tryz.prog 19 [.agg [.sl (tms a.l)], .c (.int .u64 (root:Int)), .c (.int .u64 (key:Int))] (jbu a root key):=by
 refine .of (qer kak (Nat.le_of_ble_eq_true rfl) ?_)
 simp -implicitDefEqProofs only [cdA,go_sem,Go.Proofs.Tryz.f19,reduceIte,reduceCtorEq,Nat.reduceEqDiff,Nat.reduceAdd,Nat.reduceLeDiff,Nat.reduceSub,Nat.reduceMul,Nat.reduceLT,Nat.reduceShiftRight,Nat.reduceMod,Int.reduceLE,Int.reduceLT,Int.reduceToNat,List.cons.injEq,cdB]
 refine ud.run zcT kak ja (by kernel_rfl) (by kernel_rfl) ?_
 simp -implicitDefEqProofs only [cdA,go_sem,reduceIte,reduceCtorEq,Nat.reduceEqDiff,Nat.reduceAdd,Nat.reduceLeDiff,Nat.reduceSub,Nat.reduceMul,Nat.reduceLT,Nat.reduceShiftRight,Nat.reduceMod,Int.reduceLE,Int.reduceLT,Int.reduceToNat,List.cons.injEq,cdB]
 refine⟨fun h=>⟨⟨by rw [if_pos h],rfl⟩,h.symm⟩,fun h=> ?_⟩
 obtain⟨h1,h2⟩:=vaX h
 rw [if_neg h,h1,h2]
 exact⟨rfl,rfl,rfl,rfl⟩
def y5:List D→Option (Prop×D×Fr)
 |[.agg [.c (.sl z21)], .c (.int .u64 z22), .c (.int .u64 z23)]=>some (z21=tms (zh z21)∧z22=(z22.toNat:Int)∧z23=(z23.toNat:Int),jbu (⟨(zh z21)⟩:Ar) z22.toNat z23.toNat,[])
 |_=>none
attribute [go_sem] y5
theorem waR:∀rs p r fr,y5 rs=some (p,r,fr)→p→uc Tryz.prog 19 rs r fr:=by
 intro rs p r fr h hp
 unfold y5 at h
 split at h<;>cases h
 obtain⟨hc0,hc1,hc2⟩:=hp
 rename_i z21 z22 z23
 obtain⟨z21,rfl⟩:∃m,z21=tms m:=⟨_,hc0⟩
 obtain⟨z22,rfl⟩:∃m:Nat,z22=m:=⟨_,hc1⟩
 obtain⟨z23,rfl⟩:∃m:Nat,z23=m:=⟨_,hc2⟩
 simp only [Int.toNat_natCast,xb]
 exact qbJ ⟨z21⟩ z22 z23
def jy (a:List Tm) (t:Tk) (c:Cv):List Tm×Tk×Int:=
 if¬gB c=0∨¬zaS t=0∨¬uF a then([],default,1)else if t.l.length=16 then([],default,7)else
 if(jad a t.tag (bR c)).2.2=0 then((jad a t.tag (bR c)).1,⟨t.root,t.l++[c],(jad a t.tag (bR c)).2.1⟩,0)else([],default,(jad a t.tag (bR c)).2.2)
@[go_sem] def waT (l:List Cv):D:= .csl (cvs l)
@[go_sem] abbrev qdb:FuncId:=56
@[go_sem] def gby:Tab:=[]
theorem uaK:za Tryz.prog gby:=za.nil
set_option maxRecDepth 8000 in
set_option maxHeartbeats 1000000 in
theorem ubf (l:List Cv):va Tryz.prog 56 [.sl (cvs l)] (waT l):=by
 refine .of (uet uaK (Nat.le_of_ble_eq_true rfl) ?_)
 simp -implicitDefEqProofs only [cdA,go_sem,Go.Proofs.Tryz.f56,reduceIte,reduceCtorEq,Nat.reduceEqDiff,Nat.reduceAdd,Nat.reduceLeDiff,Nat.reduceSub,Nat.reduceMul,Nat.reduceLT,Nat.reduceShiftRight,Nat.reduceMod,Int.reduceLE,Int.reduceLT,Int.reduceToNat,List.cons.injEq,cdB]
 exact fun _ _=>⟨Int.le_refl _,by rw [List.take_length]⟩
def zN:List D→Option (Prop×D×Fr)
 |[.c (.sl z24)]=>some (z24=cvs (zj z24),waT (zj z24),[])
 |_=>none
attribute [go_sem] zN
theorem qaE:∀rs p r fr,zN rs=some (p,r,fr)→p→uc Tryz.prog 56 rs r fr:=by
 intro rs p r fr h hp
 unfold zN at h
 split at h<;>cases h
 have hc0:=hp
 rename_i z24
 obtain⟨z24,rfl⟩:∃m,z24=cvs m:=⟨_,hc0⟩
 simp only [ye]
 exact ubf z24
@[go_sem] def gbt (a:Ar) (t:Tk) (c:Cv):D:= .tup [.agg [.sl (tms (jy a.l t c).1)], .agg [.int .u64 ((jy a.l t c).2.1.root:Nat), .sl (cvs (jy a.l t c).2.1.l), .int .i64 (jy a.l t c).2.1.tag], .int .i64 (jy a.l t c).2.2]
@[go_sem] abbrev vdU:FuncId:=16
@[go_sem] def qcb:Tab:=[(52,vD),(53,xx),(54,yq),(55,xY),(56,zN)]
theorem bT:za Tryz.prog qcb:=(za.cons yW (za.cons qE (za.cons gz (za.cons kaP (za.cons qaE za.nil)))))
set_option maxRecDepth 8000 in
set_option maxHeartbeats 1000000 in
theorem bbI (a:Ar) (t:Tk) (c:Cv):va Tryz.prog 16 [.agg [.sl (tms a.l)], .agg [.c (.int .u64 (t.root:Int)), .sl (cvs t.l), .c (.int .i64 t.tag)], .agg [.c (.int .i64 c.kind), .c (.int .u64 (c.a:Int)), .c (.int .u64 (c.b:Int))]] (gbt a t c):=by
 refine .of (weq bT (Nat.le_of_ble_eq_true rfl) ?_)
 simp -implicitDefEqProofs only [cdA,go_sem,Go.Proofs.Tryz.f16,reduceIte,reduceCtorEq,Nat.reduceEqDiff,Nat.reduceAdd,Nat.reduceLeDiff,Nat.reduceSub,Nat.reduceMul,Nat.reduceLT,Nat.reduceShiftRight,Nat.reduceMod,Int.reduceLE,Int.reduceLT,Int.reduceToNat,List.cons.injEq,cdB]
 have hbad:∀e:Int,jy a.l t c=([],default,e)→tms (jy a.l t c).1=[]∧(0=((jy a.l t c).2.1.root:Int)∧cvs (jy a.l t c).2.1.l=[]∧0=(jy a.l t c).2.1.tag)∧e=(jy a.l t c).2.2:=fun e h=>by rw [h];exact⟨rfl,⟨rfl,rfl,rfl⟩,rfl⟩
 have hrz:vo a.l=0↔uF a.l:=by unfold vo qp;split<;>rename_i h<;>simp only [h]<;>decide
 refine⟨fun h1=>⟨fun h2=>⟨fun h3 _=> ?_,fun h3=>hbad 1 (by rw [jy,if_pos (.inr (.inr fun h=>h3 (hrz.2 h)))])⟩,fun h2=>hbad 1 (by rw [jy,if_pos (.inr (.inl h2))])⟩,fun h1=>hbad 1 (by rw [jy,if_pos (.inl h1)])⟩
 have hno:¬(¬gB c=0∨¬zaS t=0∨¬uF a.l):=by
  rintro(h|h|h)
  ·exact h h1
  ·exact h h2
  ·exact h (hrz.1 h3)
 have ht16:t.l.length≤16:=by
  unfold zaS at h2
  split at h2
  ·rename_i h;exact h.1
  ·cases h2
 refine⟨fun h4=>hbad 7 (by rw [jy,if_neg hno,if_pos (by omega)]),fun h4=>⟨fun h5=> ?_,fun h5=>hbad _ (by rw [jy,if_neg hno,if_neg (by omega),if_neg h5])⟩⟩
 have hfin:jy a.l t c=((jad a.l t.tag (bR c)).1,⟨t.root,t.l++[c],(jad a.l t.tag (bR c)).2.1⟩,0):=by rw [jy,if_neg hno,if_neg (by omega),if_pos h5]
 rw [hfin]
 refine ud.run bcS bT ja (by kernel_rfl) (by kernel_rfl) ?_
 simp -implicitDefEqProofs only [cdA,go_sem,reduceIte,reduceCtorEq,Nat.reduceEqDiff,Nat.reduceAdd,Nat.reduceLeDiff,Nat.reduceSub,Nat.reduceMul,Nat.reduceLT,Nat.reduceShiftRight,Nat.reduceMod,Int.reduceLE,Int.reduceLT,Int.reduceToNat,List.cons.injEq,cdB]
 refine⟨⟨by simp [cvs],by omega⟩, ?_⟩
 refine ud.run zcd bT ja (by kernel_rfl) (by kernel_rfl) ?_
 simp -implicitDefEqProofs only [cdA,go_sem,reduceIte,reduceCtorEq,Nat.reduceEqDiff,Nat.reduceAdd,Nat.reduceLeDiff,Nat.reduceSub,Nat.reduceMul,Nat.reduceLT,Nat.reduceShiftRight,Nat.reduceMod,Int.reduceLE,Int.reduceLT,Int.reduceToNat,List.cons.injEq,cdB]
 exact⟨_,_,_,rfl⟩
def j3:List D→Option (Prop×D×Fr)
 |[.agg [.c (.sl z26)], .agg [.c (.int .u64 z28), .c (.sl z29), .c (.int .i64 z30)], .agg [.c (.int .i64 z32), .c (.int .u64 z33), .c (.int .u64 z34)]]=>some (z26=tms (zh z26)∧z28=(z28.toNat:Int)∧z29=cvs (zj z29)∧z33=(z33.toNat:Int)∧z34=(z34.toNat:Int),gbt (⟨(zh z26)⟩:Ar) (⟨z28.toNat,(zj z29),z30⟩:Tk) (⟨z32,z33.toNat,z34.toNat⟩:Cv),[])
 |_=>none
attribute [go_sem] j3
theorem kaR:∀rs p r fr,j3 rs=some (p,r,fr)→p→uc Tryz.prog 16 rs r fr:=by
 intro rs p r fr h hp
 unfold j3 at h
 split at h<;>cases h
 obtain⟨hc0,hc1,hc2,hc3,hc4⟩:=hp
 rename_i z26 z28 z29 z30 z32 z33 z34
 obtain⟨z26,rfl⟩:∃m,z26=tms m:=⟨_,hc0⟩
 obtain⟨z28,rfl⟩:∃m:Nat,z28=m:=⟨_,hc1⟩
 obtain⟨z29,rfl⟩:∃m,z29=cvs m:=⟨_,hc2⟩
 obtain⟨z33,rfl⟩:∃m:Nat,z33=m:=⟨_,hc3⟩
 obtain⟨z34,rfl⟩:∃m:Nat,z34=m:=⟨_,hc4⟩
 simp only [Int.toNat_natCast,ye,xb]
 exact bbI ⟨z26⟩ ⟨z28,z29,z30⟩ ⟨z32,z33,z34⟩
end Dm
namespace Dm
open Go Go.Proofs Go.IntWalk
def ga1 (a:List Tm) (key:Nat) (t:Tk):Bool×Int:=if¬wbl t∨¬uF a then(false,1)else(decide ((jS a key (qk [t.root]) (t.l.map bR)).2=0∧(jS a key (qk [t.root]) (t.l.map bR)).1=t.tag),0)
@[go_sem] def kaI (a:Ar) (key:Nat) (t:Tk):D:= .tup [.bool (ga1 a.l key t).1, .int .i64 (ga1 a.l key t).2]
@[go_sem] abbrev zcN:FuncId:=44
@[go_sem] def wbu:Tab:=[(53,xx),(54,yq),(113,j4),(112,yY),(61,uT)]
theorem gW:za Tryz.prog wbu:=(za.cons qE (za.cons gz (za.cons vaR (za.cons jaP (za.cons gT za.nil)))))
set_option maxRecDepth 8000 in
set_option maxHeartbeats 1000000 in
theorem gbb (a:Ar) (key:Nat) (t:Tk):va Tryz.prog 44 [.agg [.sl (tms a.l)], .c (.int .u64 (key:Int)), .agg [.c (.int .u64 (t.root:Int)), .sl (cvs t.l), .c (.int .i64 t.tag)]] (kaI a key t):=by
 refine .of (bes gW (Nat.le_of_ble_eq_true rfl) ?_)
 simp -implicitDefEqProofs only [cdA,go_sem,Go.Proofs.Tryz.f44,reduceIte,reduceCtorEq,Nat.reduceEqDiff,Nat.reduceAdd,Nat.reduceLeDiff,Nat.reduceSub,Nat.reduceMul,Nat.reduceLT,Nat.reduceShiftRight,Nat.reduceMod,Int.reduceLE,Int.reduceLT,Int.reduceToNat,List.cons.injEq,cdB]
 have hbad:(¬wbl t∨¬uF a.l)→false=(ga1 a.l key t).1∧1=(ga1 a.l key t).2:=fun h=>by rw [ga1,if_pos h];exact⟨rfl,rfl⟩
 have hrz:vo a.l=0↔uF a.l:=by unfold vo qp;split<;>rename_i h<;>simp only [h]<;>decide
 have htz:zaS t=0↔wbl t:=by unfold zaS;split<;>rename_i h<;>simp only [h]<;>decide
 refine⟨fun h1=>⟨fun h2=> ?_,fun h2=>hbad (.inr fun h=>h2 (hrz.2 h))⟩,fun h1=>hbad (.inl fun h=>h1 (htz.2 h))⟩
 have ht:=htz.1 h1
 have ht16:=ht.1
 have hfin:ga1 a.l key t=(decide ((jS a.l key (qk [t.root]) (t.l.map bR)).2=0∧(jS a.l key (qk [t.root]) (t.l.map bR)).1=t.tag),0):=by
  rw [ga1,if_neg]
  rintro(h|h)
  ·exact h ht
  ·exact h (hrz.1 h2)
 rw [hfin]
 refine ud.run vcT gW ja (by kernel_rfl) (by kernel_rfl) ?_
 simp -implicitDefEqProofs only [cdA,go_sem,reduceIte,reduceCtorEq,Nat.reduceEqDiff,Nat.reduceAdd,Nat.reduceLeDiff,Nat.reduceSub,Nat.reduceMul,Nat.reduceLT,Nat.reduceShiftRight,Nat.reduceMod,Int.reduceLE,Int.reduceLT,Int.reduceToNat,List.cons.injEq,cdB]
 exact⟨by omega,fun h=>by rw [decide_eq_decide];exact⟨fun h3=>⟨h,h3⟩,fun h3=>h3.2⟩,fun h=>(decide_eq_false fun h3=>h h3.1).symm⟩
def yI:List D→Option (Prop×D×Fr)
 |[.agg [.c (.sl z2)], .c (.int .u64 z3), .agg [.c (.int .u64 z5), .c (.sl z6), .c (.int .i64 z7)]]=>some (z2=tms (zh z2)∧z3=(z3.toNat:Int)∧z5=(z5.toNat:Int)∧z6=cvs (zj z6),kaI (⟨(zh z2)⟩:Ar) z3.toNat (⟨z5.toNat,(zj z6),z7⟩:Tk),[])
 |_=>none
attribute [go_sem] yI
theorem yar:∀rs p r fr,yI rs=some (p,r,fr)→p→uc Tryz.prog 44 rs r fr:=by
 intro rs p r fr h hp
 unfold yI at h
 split at h<;>cases h
 obtain⟨hc0,hc1,hc2,hc3⟩:=hp
 rename_i z2 z3 z5 z6 z7
 obtain⟨z2,rfl⟩:∃m,z2=tms m:=⟨_,hc0⟩
 obtain⟨z3,rfl⟩:∃m:Nat,z3=m:=⟨_,hc1⟩
 obtain⟨z5,rfl⟩:∃m:Nat,z5=m:=⟨_,hc2⟩
 obtain⟨z6,rfl⟩:∃m,z6=cvs m:=⟨_,hc3⟩
 simp only [Int.toNat_natCast,ye,xb]
 exact gbb ⟨z2⟩ z3 ⟨z5,z6,z7⟩
structure Us where
 tick:Nat
 method:Int
 amount:Nat
 who:Nat
deriving DecidableEq,Inhabited
@[go_sem] def Us.enc (e:Us):List C:=[.int .u64 (e.tick:Int), .int .i64 e.method, .int .u64 (e.amount:Int), .int .u64 (e.who:Int)]
def Us.dec:List C→Us
 |[.int .u64 z9, .int .i64 z10, .int .u64 z11, .int .u64 z12]=>(⟨z9.toNat,z10,z11.toNat,z12.toNat⟩:Us)
 |_=>default
def uss (l:List Us):List (List C):=l.map Us.enc
def geb (l:List (List C)):List Us:=l.map Us.dec
@[simp,go_sem] theorem gct (l:List Us):(uss l).length=l.length:=by simp [uss]
@[go_sem] theorem kd3 (l:List Us) (i:Nat):(uss l).getD i [.int .u64 0, .int .i64 0, .int .u64 0, .int .u64 0]=(l.getD i default).enc:=by
 simp only [uss,List.getD_eq_getElem?_getD,List.getElem?_map]
 cases l[i]? <;>rfl
@[go_sem] theorem vdn (l:List Us):uf 4 (uss l)=True:=by
 simp [uf,uss,Us.enc]
theorem Us.yd (e:Us):Us.dec e.enc=e:=by
 simp [Us.enc,Us.dec]
@[go_sem] theorem kc3 (l:List Us):geb (uss l)=l:=by
 simp only [geb,uss,List.map_map]
 exact List.map_id'' (fun e=>Us.yd e) l
@[go_sem] theorem jd3 (a b:List Us):uss a++uss b=uss (a++b):=by simp [uss]
@[go_sem] theorem qdn (l:List Us) (k:Nat):(uss l).drop k=uss (l.drop k):=by simp [uss]
@[go_sem] theorem kdn (l:List Us) (k:Nat):(uss l).take k=uss (l.take k):=by simp [uss]
@[go_sem] theorem vd3 (z13:Int) (z14:Int) (z15:Int) (z16:Int) (hz13:0≤z13) (hz15:0≤z15) (hz16:0≤z16):[[C.int .u64 z13,C.int .i64 z14,C.int .u64 z15,C.int .u64 z16]]=uss [⟨z13.toNat,z14,z15.toNat,z16.toNat⟩]:=by simp [uss,Us.enc,Int.toNat_of_nonneg hz13,Int.toNat_of_nonneg hz15,Int.toNat_of_nonneg hz16]
@[go_sem] theorem wd3 (l:List Us) (i:Nat) (z13:Int) (z14:Int) (z15:Int) (z16:Int) (hz13:0≤z13) (hz15:0≤z15) (hz16:0≤z16):(uss l).set i [C.int .u64 z13,C.int .i64 z14,C.int .u64 z15,C.int .u64 z16]=uss (l.set i ⟨z13.toNat,z14,z15.toNat,z16.toNat⟩):=by simp [uss,List.map_set,Us.enc,Int.toNat_of_nonneg hz13,Int.toNat_of_nonneg hz15,Int.toNat_of_nonneg hz16]
@[go_sem] theorem xdn (l:List Us) (z13:Int) (z14:Int) (z15:Int) (z16:Int) (hz13:0≤z13) (hz15:0≤z15) (hz16:0≤z16):[C.int .u64 z13,C.int .i64 z14,C.int .u64 z15,C.int .u64 z16]::uss l=uss (⟨z13.toNat,z14,z15.toNat,z16.toNat⟩::l):=by simp [uss,Us.enc,Int.toNat_of_nonneg hz13,Int.toNat_of_nonneg hz15,Int.toNat_of_nonneg hz16]
@[go_sem] theorem jdn (l:List Us):kS (uss l)=True:=eq_true fun x hx c hc=>by
 obtain⟨e,_,rfl⟩:=List.mem_map.1 hx
 simp only [Us.enc,List.mem_cons,List.not_mem_nil,or_false]at hc
 rcases hc with rfl|rfl|rfl|rfl<;>rfl
@[go_sem] theorem Us.eta {e:Us}:(⟨e.tick,e.method,e.amount,e.who⟩:Us)=e:=rfl
def ubO (u:Us):Bool:=decide (0≤u.method∧u.method<16∧u.amount≤4611686018427387904)
@[go_sem] def xbM (u:Us):D:= .bool (ubO u)
@[go_sem] abbrev yej:FuncId:=59
@[go_sem] def gcy:Tab:=[(122,zf)]
theorem xbf:za Tryz.prog gcy:=(za.cons ve za.nil)
set_option maxRecDepth 8000 in
set_option maxHeartbeats 1000000 in
theorem zbU (u:Us):va Tryz.prog 59 [.agg [.c (.int .u64 (u.tick:Int)), .c (.int .i64 u.method), .c (.int .u64 (u.amount:Int)), .c (.int .u64 (u.who:Int))]] (xbM u):=by
 refine .of (yeu xbf (Nat.le_of_ble_eq_true rfl) ?_)
 simp -implicitDefEqProofs only [cdA,go_sem,Go.Proofs.Tryz.f59,reduceIte,reduceCtorEq,Nat.reduceEqDiff,Nat.reduceAdd,Nat.reduceLeDiff,Nat.reduceSub,Nat.reduceMul,Nat.reduceLT,Nat.reduceShiftRight,Nat.reduceMod,Int.reduceLE,Int.reduceLT,Int.reduceToNat,List.cons.injEq,cdB]
 unfold ubO
 refine⟨fun h1=>⟨fun h2=> ?_,fun h2=>(decide_eq_false fun h=>h2 h.2.1).symm⟩,fun h1=>(decide_eq_false fun h=>h1 h.1).symm⟩
 rw [decide_eq_decide,uI]
 exact⟨fun h=>⟨h1,h2,h⟩,fun h=>h.2.2⟩
def wab:List D→Option (Prop×D×Fr)
 |[.agg [.c (.int .u64 z18), .c (.int .i64 z19), .c (.int .u64 z20), .c (.int .u64 z21)]]=>some (z18=(z18.toNat:Int)∧z20=(z20.toNat:Int)∧z21=(z21.toNat:Int),xbM (⟨z18.toNat,z19,z20.toNat,z21.toNat⟩:Us),[])
 |_=>none
attribute [go_sem] wab
theorem baj:∀rs p r fr,wab rs=some (p,r,fr)→p→uc Tryz.prog 59 rs r fr:=by
 intro rs p r fr h hp
 unfold wab at h
 split at h<;>cases h
 obtain⟨hc0,hc1,hc2⟩:=hp
 rename_i z18 z19 z20 z21
 obtain⟨z18,rfl⟩:∃m:Nat,z18=m:=⟨_,hc0⟩
 obtain⟨z20,rfl⟩:∃m:Nat,z20=m:=⟨_,hc1⟩
 obtain⟨z21,rfl⟩:∃m:Nat,z21=m:=⟨_,hc2⟩
 simp only [Int.toNat_natCast]
 exact zbU ⟨z18,z19,z20,z21⟩
def kr (c:Cv) (u:Us):Bool:=if c.kind=1 then decide (u.tick≤c.a)else if c.kind=2 then decide (c.a / 2^u.method.toNat % 2=1)else if c.kind=3∨c.kind=4 then decide (u.amount≤c.a)else decide (u.who=c.a)
def uS (c:Cv) (u:Us):Bool×Int:=if gB c=0∧ubO u=true then(kr c u,0)else(false,1)
@[go_sem] def vaT (c:Cv) (u:Us):D:= .tup [.bool (uS c u).1, .int .i64 (uS c u).2]
@[go_sem] abbrev xdb:FuncId:=18
@[go_sem] def qby:Tab:=[(58,jh),(59,wab)]
theorem waK:za Tryz.prog qby:=(za.cons zi (za.cons baj za.nil))
set_option maxRecDepth 8000 in
set_option maxHeartbeats 1000000 in
theorem zbf (c:Cv) (u:Us):va Tryz.prog 18 [.agg [.c (.int .i64 c.kind), .c (.int .u64 (c.a:Int)), .c (.int .u64 (c.b:Int))], .agg [.c (.int .u64 (u.tick:Int)), .c (.int .i64 u.method), .c (.int .u64 (u.amount:Int)), .c (.int .u64 (u.who:Int))]] (vaT c u):=by
 refine .of (yer waK (Nat.le_of_ble_eq_true rfl) ?_)
 simp -implicitDefEqProofs only [cdA,go_sem,Go.Proofs.Tryz.f18,reduceIte,reduceCtorEq,Nat.reduceEqDiff,Nat.reduceAdd,Nat.reduceLeDiff,Nat.reduceSub,Nat.reduceMul,Nat.reduceLT,Nat.reduceShiftRight,Nat.reduceMod,Int.reduceLE,Int.reduceLT,Int.reduceToNat,List.cons.injEq,cdB]
 have hbad:¬(gB c=0∧ubO u=true)→false=(uS c u).1∧1=(uS c u).2:=fun h=>by rw [uS,if_neg h];exact⟨rfl,rfl⟩
 refine⟨fun h1=>⟨fun h2=> ?_,fun h2=>hbad fun h=>by rw [h2]at h;exact absurd h.2 (by decide)⟩,fun h1=>hbad fun h=>h1 h.1⟩
 have hfin:uS c u=(kr c u,0):=by rw [uS,if_pos ⟨h1,h2⟩]
 rw [hfin]
 have hu:=of_decide_eq_true h2
 unfold kr
 refine⟨fun k1=> ?_,fun k1=>⟨fun k2=> ?_,fun k2=>⟨fun k3=> ?_,fun k3=>⟨fun k4=> ?_,fun k4=>⟨fun k5=> ?_,fun k5=> ?_⟩⟩⟩⟩⟩
 ·rw [if_pos k1];exact⟨by rw [decide_eq_decide];omega,rfl⟩
 ·rw [if_neg k1,if_pos k2]
  have hc:c.a<65536:=by
   unfold gB at h1
   split at h1
   ·rename_i h;omega
   ·cases h1
  have e2:(c.a:Int).fdiv (2^min u.method.toNat 64)=((c.a / 2^u.method.toNat:Nat):Int):=by
   rw [show min u.method.toNat 64=u.method.toNat by omega,Int.fdiv_eq_ediv_of_nonneg _ (Int.le_of_lt (Int.pow_pos (by decide))),Int.natCast_ediv,Int.natCast_pow];rfl
  have hle:c.a / 2^u.method.toNat<18446744073709551616:=by have:=Nat.div_le_self c.a (2^u.method.toNat);omega
  have e3:=bdM (a:=c.a / 2^u.method.toNat) (b:=1) hle (by decide)
  rw [e2]
  refine⟨hu.1, ?_,rfl⟩
  rw [decide_eq_decide,show(1:Int)=((1:Nat):Int)from rfl,e3,Nat.and_one_is_mod]
  omega
 ·rw [if_neg k1,if_neg k2,if_pos (.inl k3)];exact⟨by rw [decide_eq_decide];omega,rfl⟩
 ·rw [if_neg k1,if_neg k2,if_pos (.inr k4)];exact⟨by rw [decide_eq_decide];omega,rfl⟩
 ·rw [if_neg k1,if_neg k2,if_neg (by omega)];exact⟨by rw [decide_eq_decide];omega,rfl⟩
 ·exfalso
  unfold gB at h1
  split at h1
  ·rename_i h;omega
  ·cases h1
def bM:List D→Option (Prop×D×Fr)
 |[.agg [.c (.int .i64 z23), .c (.int .u64 z24), .c (.int .u64 z25)], .agg [.c (.int .u64 z27), .c (.int .i64 z28), .c (.int .u64 z29), .c (.int .u64 z30)]]=>some (z24=(z24.toNat:Int)∧z25=(z25.toNat:Int)∧z27=(z27.toNat:Int)∧z29=(z29.toNat:Int)∧z30=(z30.toNat:Int),vaT (⟨z23,z24.toNat,z25.toNat⟩:Cv) (⟨z27.toNat,z28,z29.toNat,z30.toNat⟩:Us),[])
 |_=>none
attribute [go_sem] bM
theorem xaE:∀rs p r fr,bM rs=some (p,r,fr)→p→uc Tryz.prog 18 rs r fr:=by
 intro rs p r fr h hp
 unfold bM at h
 split at h<;>cases h
 obtain⟨hc0,hc1,hc2,hc3,hc4⟩:=hp
 rename_i z23 z24 z25 z27 z28 z29 z30
 obtain⟨z24,rfl⟩:∃m:Nat,z24=m:=⟨_,hc0⟩
 obtain⟨z25,rfl⟩:∃m:Nat,z25=m:=⟨_,hc1⟩
 obtain⟨z27,rfl⟩:∃m:Nat,z27=m:=⟨_,hc2⟩
 obtain⟨z29,rfl⟩:∃m:Nat,z29=m:=⟨_,hc3⟩
 obtain⟨z30,rfl⟩:∃m:Nat,z30=m:=⟨_,hc4⟩
 simp only [Int.toNat_natCast]
 exact zbf ⟨z23,z24,z25⟩ ⟨z27,z28,z29,z30⟩
def waS (l:List Cv) (u:Us):Bool×Int:=if l.length≤16∧ubO u=true∧∀c∈l,gB c=0 then(l.all fun c=>kr c u,0)else(false,1)
@[go_sem] def wbf (l:List Cv) (u:Us):D:= .tup [.bool (waS l u).1, .int .i64 (waS l u).2]
@[go_sem] abbrev vdS:FuncId:=46
@[go_sem] def jbU:Tab:=[(18,bM),(59,wab)]
theorem vaf:za Tryz.prog jbU:=(za.cons xaE (za.cons baj za.nil))
set_option maxRecDepth 8000 in
set_option maxHeartbeats 1000000 in
theorem wby (l:List Cv) (u:Us):va Tryz.prog 46 [.sl (cvs l), .agg [.c (.int .u64 (u.tick:Int)), .c (.int .i64 u.method), .c (.int .u64 (u.amount:Int)), .c (.int .u64 (u.who:Int))]] (wbf l u):=by
 refine .of (yet vaf (Nat.le_of_ble_eq_true rfl) ?_)
 simp -implicitDefEqProofs only [cdA,go_sem,Go.Proofs.Tryz.f46,reduceIte,reduceCtorEq,Nat.reduceEqDiff,Nat.reduceAdd,Nat.reduceLeDiff,Nat.reduceSub,Nat.reduceMul,Nat.reduceLT,Nat.reduceShiftRight,Nat.reduceMod,Int.reduceLE,Int.reduceLT,Int.reduceToNat,List.cons.injEq,cdB]
 have hbad:¬(l.length≤16∧ubO u=true∧∀c∈l,gB c=0)→false=(waS l u).1∧1=(waS l u).2:=fun h=>by rw [waS,if_neg h];exact⟨rfl,rfl⟩
 refine fun _=>⟨fun h1=>⟨fun h2 _=> ?_,fun h2=>hbad fun h=>by rw [h2]at h;exact absurd h.2.1 (by decide)⟩,fun h1=>hbad fun h=>by have:=h.1;omega⟩
 refine SWp.loop (ι:={i:Nat // i≤l.length∧∀j,j<i→gB (l.getD j default)=0}) (fun i=>⟨[(3, .ref 0 0),(6, .bool ((l.take i.1).all fun c=>kr c u)),(19, .sl (cvs l)),(20, .int .i64 l.length),(21, .int .i64 i.1)],
  [(0, .box [.c (.int .u64 u.tick), .c (.int .i64 u.method), .c (.int .u64 u.amount), .c (.int .u64 u.who)])],1⟩) (fun i=>l.length - i.1) ⟨0,by simp⟩ ?_ ?_
 ·simp [go_sem]
 ·rintro⟨i,hi,hall⟩
  refine qa vaf.toS jdQ _ _ _ rfl ?_
  simp -implicitDefEqProofs only [cdA,go_sem,reduceIte,reduceCtorEq,Nat.reduceEqDiff,Nat.reduceAdd,Nat.reduceLeDiff,Nat.reduceSub,Nat.reduceMul,Nat.reduceLT,Nat.reduceShiftRight,Nat.reduceMod,Int.reduceLE,Int.reduceLT,Int.reduceToNat,List.cons.injEq,cdB]
  have hh:gB (l.getD i default)=0→uS (l.getD i default) u=(kr (l.getD i default) u,0):=fun h=>by rw [uS,if_pos ⟨h,h2⟩]
  have hh1:(uS (l.getD i default) u).2=0→gB (l.getD i default)=0:=fun h=>by
   unfold uS at h
   split at h
   ·rename_i h3;exact h3.1
   ·cases h
  refine⟨fun h3=>⟨h3,fun h4=> ?_,fun h4=> ?_⟩,fun h3=> ?_⟩
  ·have hi':i<l.length:=by omega
   have hc:=hh1 h4
   have htk:=take_succ hi'
   have hnx:∀j,j<i+1→gB (l.getD j default)=0:=fun j hj=>by
    by_cases hji:j=i
    ·subst hji;exact hc
    ·exact hall j (by omega)
   refine⟨fun h5=>⟨⟨i+1,hi',hnx⟩,by dsimp only;omega, ?_,i64_in _ (by omega)⟩,fun h5=>⟨⟨i+1,hi',hnx⟩,by dsimp only;omega, ?_,i64_in _ (by omega)⟩⟩
   ·dsimp only;rw [htk,List.all_append,h5,hh hc];simp
   ·dsimp only;rw [htk,List.all_append,h5];rfl
  ·have hc:¬gB (l.getD i default)=0:=fun h=>h4 (by rw [hh h])
   have e:uS (l.getD i default) u=(false,1):=by rw [uS,if_neg fun h=>hc h.1]
   rw [e]
   exact hbad fun h=>hc (h.2.2 _ (ua.2 ⟨i,by omega,rfl⟩))
  ·have hi':i=l.length:=by omega
   subst hi'
   have:waS l u=(l.all fun c=>kr c u,0):=by
    rw [waS,if_pos ⟨by omega,h2,fun c hc=>by obtain⟨j,hj,rfl⟩:=ua.1 hc;exact hall j hj⟩]
   rw [this,List.take_length];exact⟨rfl,rfl⟩
def vY:List D→Option (Prop×D×Fr)
 |[.c (.sl z31), .agg [.c (.int .u64 z33), .c (.int .i64 z34), .c (.int .u64 z35), .c (.int .u64 z36)]]=>some (z31=cvs (zj z31)∧z33=(z33.toNat:Int)∧z35=(z35.toNat:Int)∧z36=(z36.toNat:Int),wbf (zj z31) (⟨z33.toNat,z34,z35.toNat,z36.toNat⟩:Us),[])
 |_=>none
attribute [go_sem] vY
theorem gaP:∀rs p r fr,vY rs=some (p,r,fr)→p→uc Tryz.prog 46 rs r fr:=by
 intro rs p r fr h hp
 unfold vY at h
 split at h<;>cases h
 obtain⟨hc0,hc1,hc2,hc3⟩:=hp
 rename_i z31 z33 z34 z35 z36
 obtain⟨z31,rfl⟩:∃m,z31=cvs m:=⟨_,hc0⟩
 obtain⟨z33,rfl⟩:∃m:Nat,z33=m:=⟨_,hc1⟩
 obtain⟨z35,rfl⟩:∃m:Nat,z35=m:=⟨_,hc2⟩
 obtain⟨z36,rfl⟩:∃m:Nat,z36=m:=⟨_,hc3⟩
 simp only [Int.toNat_natCast,ye]
 exact wby z31 ⟨z33,z34,z35,z36⟩
end Dm
namespace Dm
open Go Go.Proofs Go.IntWalk
structure Hd where
 id:Nat
 n:Nat
deriving DecidableEq,Inhabited
@[go_sem] def Hd.enc (e:Hd):List C:=[.int .u64 (e.id:Int), .int .u64 (e.n:Int)]
def Hd.dec:List C→Hd
 |[.int .u64 z9, .int .u64 z10]=>(⟨z9.toNat,z10.toNat⟩:Hd)
 |_=>default
def hds (l:List Hd):List (List C):=l.map Hd.enc
def yad (l:List (List C)):List Hd:=l.map Hd.dec
@[simp,go_sem] theorem gcm (l:List Hd):(hds l).length=l.length:=by simp [hds]
@[go_sem] theorem wdM (l:List Hd) (i:Nat):(hds l).getD i [.int .u64 0, .int .u64 0]=(l.getD i default).enc:=by
 simp only [hds,List.getD_eq_getElem?_getD,List.getElem?_map]
 cases l[i]? <;>rfl
@[go_sem] theorem bc6 (l:List Hd):uf 2 (hds l)=True:=by
 simp [uf,hds,Hd.enc]
theorem Hd.yd (e:Hd):Hd.dec e.enc=e:=by
 simp [Hd.enc,Hd.dec]
@[go_sem] theorem wk (l:List Hd):yad (hds l)=l:=by
 simp only [yad,hds,List.map_map]
 exact List.map_id'' (fun e=>Hd.yd e) l
@[go_sem] theorem vdM (a b:List Hd):hds a++hds b=hds (a++b):=by simp [hds]
@[go_sem] theorem wc6 (l:List Hd) (k:Nat):(hds l).drop k=hds (l.drop k):=by simp [hds]
@[go_sem] theorem gc6 (l:List Hd) (k:Nat):(hds l).take k=hds (l.take k):=by simp [hds]
@[go_sem] theorem udM (z11:Int) (z12:Int) (hz11:0≤z11) (hz12:0≤z12):[[C.int .u64 z11,C.int .u64 z12]]=hds [⟨z11.toNat,z12.toNat⟩]:=by simp [hds,Hd.enc,Int.toNat_of_nonneg hz11,Int.toNat_of_nonneg hz12]
@[go_sem] theorem gdM (l:List Hd) (i:Nat) (z11:Int) (z12:Int) (hz11:0≤z11) (hz12:0≤z12):(hds l).set i [C.int .u64 z11,C.int .u64 z12]=hds (l.set i ⟨z11.toNat,z12.toNat⟩):=by simp [hds,List.map_set,Hd.enc,Int.toNat_of_nonneg hz11,Int.toNat_of_nonneg hz12]
@[go_sem] theorem vc6 (l:List Hd) (z11:Int) (z12:Int) (hz11:0≤z11) (hz12:0≤z12):[C.int .u64 z11,C.int .u64 z12]::hds l=hds (⟨z11.toNat,z12.toNat⟩::l):=by simp [hds,Hd.enc,Int.toNat_of_nonneg hz11,Int.toNat_of_nonneg hz12]
@[go_sem] theorem uc6 (l:List Hd):kS (hds l)=True:=eq_true fun x hx c hc=>by
 obtain⟨e,_,rfl⟩:=List.mem_map.1 hx
 simp only [Hd.enc,List.mem_cons,List.not_mem_nil,or_false]at hc
 rcases hc with rfl|rfl<;>rfl
@[go_sem] theorem Hd.eta {e:Hd}:(⟨e.id,e.n⟩:Hd)=e:=rfl
structure Ch where
 id:Nat
 loc:Nat
 rem:Nat
 res:Nat
 most:Nat
 holds:List Hd
 op:Bool
deriving DecidableEq,Inhabited
@[go_sem] def Ch.enc (e:Ch):List C:=[.int .u64 (e.id:Int), .int .u64 (e.loc:Int), .int .u64 (e.rem:Int), .int .u64 (e.res:Int), .int .u64 (e.most:Int), .sl (hds e.holds), .bool e.op]
def Ch.dec:List C→Ch
 |[.int .u64 z14, .int .u64 z15, .int .u64 z16, .int .u64 z17, .int .u64 z18, .sl z19, .bool z20]=>(⟨z14.toNat,z15.toNat,z16.toNat,z17.toNat,z18.toNat,(yad z19),z20⟩:Ch)
 |_=>default
def chs (l:List Ch):List (List C):=l.map Ch.enc
def ug (l:List (List C)):List Ch:=l.map Ch.dec
@[simp,go_sem] theorem wch (l:List Ch):(chs l).length=l.length:=by simp [chs]
@[go_sem] theorem ydH (l:List Ch) (i:Nat):(chs l).getD i [.int .u64 0, .int .u64 0, .int .u64 0, .int .u64 0, .int .u64 0, .sl [], .bool false]=(l.getD i default).enc:=by
 simp only [chs,List.getD_eq_getElem?_getD,List.getElem?_map]
 cases l[i]? <;>rfl
@[go_sem] theorem qc1 (l:List Ch):uf 7 (chs l)=True:=by
 simp [uf,chs,Ch.enc]
theorem Ch.yd (e:Ch):Ch.dec e.enc=e:=by
 simp [Ch.enc,Ch.dec,wk]
@[go_sem] theorem yb (l:List Ch):ug (chs l)=l:=by
 simp only [ug,chs,List.map_map]
 exact List.map_id'' (fun e=>Ch.yd e) l
@[go_sem] theorem zdH (a b:List Ch):chs a++chs b=chs (a++b):=by simp [chs]
@[go_sem] theorem yc1 (l:List Ch) (k:Nat):(chs l).drop k=chs (l.drop k):=by simp [chs]
@[go_sem] theorem xc1 (l:List Ch) (k:Nat):(chs l).take k=chs (l.take k):=by simp [chs]
@[go_sem] theorem xdH (z21:Int) (z22:Int) (z23:Int) (z24:Int) (z25:Int) (z26:List Hd) (z27:Bool) (hz21:0≤z21) (hz22:0≤z22) (hz23:0≤z23) (hz24:0≤z24) (hz25:0≤z25):[[C.int .u64 z21,C.int .u64 z22,C.int .u64 z23,C.int .u64 z24,C.int .u64 z25,C.sl (hds z26),C.bool z27]]=chs [⟨z21.toNat,z22.toNat,z23.toNat,z24.toNat,z25.toNat,z26,z27⟩]:=by simp [chs,Ch.enc,Int.toNat_of_nonneg hz21,Int.toNat_of_nonneg hz22,Int.toNat_of_nonneg hz23,Int.toNat_of_nonneg hz24,Int.toNat_of_nonneg hz25]
@[go_sem] theorem qdH (l:List Ch) (i:Nat) (z21:Int) (z22:Int) (z23:Int) (z24:Int) (z25:Int) (z26:List Hd) (z27:Bool) (hz21:0≤z21) (hz22:0≤z22) (hz23:0≤z23) (hz24:0≤z24) (hz25:0≤z25):(chs l).set i [C.int .u64 z21,C.int .u64 z22,C.int .u64 z23,C.int .u64 z24,C.int .u64 z25,C.sl (hds z26),C.bool z27]=chs (l.set i ⟨z21.toNat,z22.toNat,z23.toNat,z24.toNat,z25.toNat,z26,z27⟩):=by simp [chs,List.map_set,Ch.enc,Int.toNat_of_nonneg hz21,Int.toNat_of_nonneg hz22,Int.toNat_of_nonneg hz23,Int.toNat_of_nonneg hz24,Int.toNat_of_nonneg hz25]
@[go_sem] theorem zc1 (l:List Ch) (z21:Int) (z22:Int) (z23:Int) (z24:Int) (z25:Int) (z26:List Hd) (z27:Bool) (hz21:0≤z21) (hz22:0≤z22) (hz23:0≤z23) (hz24:0≤z24) (hz25:0≤z25):[C.int .u64 z21,C.int .u64 z22,C.int .u64 z23,C.int .u64 z24,C.int .u64 z25,C.sl (hds z26),C.bool z27]::chs l=chs (⟨z21.toNat,z22.toNat,z23.toNat,z24.toNat,z25.toNat,z26,z27⟩::l):=by simp [chs,Ch.enc,Int.toNat_of_nonneg hz21,Int.toNat_of_nonneg hz22,Int.toNat_of_nonneg hz23,Int.toNat_of_nonneg hz24,Int.toNat_of_nonneg hz25]
@[go_sem] theorem Ch.eta {e:Ch}:(⟨e.id,e.loc,e.rem,e.res,e.most,e.holds,e.op⟩:Ch)=e:=rfl
def Hd.key (h:Hd):Nat:=h.id
def held (l:List Hd):Nat:=(l.map Hd.n).sum
abbrev ltN (a b:Nat):Prop:=a<b
abbrev MM:Nat:=4611686018427387904
def uax (c:Ch):Prop:=c.res≤MM∧c.most≤MM∧c.holds.length≤64∧(c.op=false→c.holds=[])∧(∀h∈c.holds,h.n≠0)∧Srt.Chn Hd.key ltN c.holds∧held c.holds≤c.most∧c.loc≤MM∧c.rem≤MM∧held c.holds+c.loc+c.rem≤MM
instance (l:List Hd):Decidable (Srt.Chn Hd.key ltN l):=by unfold Srt.Chn;infer_instance
instance (c:Ch):Decidable (uax c):=by unfold uax;infer_instance
def gi (c:Ch):Nat×Nat×Int:=if uax c then(held c.holds,held c.holds+c.loc+c.rem,0)else(0,0,1)
@[go_sem] def gaU (h:Hd) (id:Nat):D:= .int .i64 (zad h.id id)
@[go_sem] abbrev wdb:FuncId:=261
@[go_sem] def ybB:Tab:=[(225,xJ)]
theorem xaL:za Tryz.prog ybB:=(za.cons wq za.nil)
set_option maxRecDepth 8000 in
set_option maxHeartbeats 1000000 in
theorem gbh (h:Hd) (id:Nat):va Tryz.prog 261 [.agg [.c (.int .u64 (h.id:Int)), .c (.int .u64 (h.n:Int))], .c (.int .u64 (id:Int))] (gaU h id):=by
 refine .of (jdD xaL (Nat.le_of_ble_eq_true rfl) ?_)
 simp -implicitDefEqProofs only [cdA,go_sem,Go.Proofs.Tryz.f261,reduceIte,reduceCtorEq,Nat.reduceEqDiff,Nat.reduceAdd,Nat.reduceLeDiff,Nat.reduceSub,Nat.reduceMul,Nat.reduceLT,Nat.reduceShiftRight,Nat.reduceMod,Int.reduceLE,Int.reduceLT,Int.reduceToNat,List.cons.injEq,cdB]
def xN:List D→Option (Prop×D×Fr)
 |[.agg [.c (.int .u64 z29), .c (.int .u64 z30)], .c (.int .u64 z31)]=>some (z29=(z29.toNat:Int)∧z30=(z30.toNat:Int)∧z31=(z31.toNat:Int),gaU (⟨z29.toNat,z30.toNat⟩:Hd) z31.toNat,[])
 |_=>none
attribute [go_sem] xN
theorem kaE:∀rs p r fr,xN rs=some (p,r,fr)→p→uc Tryz.prog 261 rs r fr:=by
 intro rs p r fr h hp
 unfold xN at h
 split at h<;>cases h
 obtain⟨hc0,hc1,hc2⟩:=hp
 rename_i z29 z30 z31
 obtain⟨z29,rfl⟩:∃m:Nat,z29=m:=⟨_,hc0⟩
 obtain⟨z30,rfl⟩:∃m:Nat,z30=m:=⟨_,hc1⟩
 obtain⟨z31,rfl⟩:∃m:Nat,z31=m:=⟨_,hc2⟩
 simp only [Int.toNat_natCast]
 exact gbh ⟨z29,z30⟩ z31
@[go_sem] def vbf (c:Ch):D:= .tup [.int .u64 ((gi c).1:Int), .int .u64 ((gi c).2.1:Int), .int .i64 (gi c).2.2]
@[go_sem] abbrev kdS:FuncId:=259
@[go_sem] def xbU:Tab:=[(122,zf),(198,gq),(261,xN)]
theorem qS:za Tryz.prog xbU:=(za.cons ve (za.cons js (za.cons kaE za.nil)))
set_option maxRecDepth 8000 in
set_option maxHeartbeats 1000000 in
theorem vby (c:Ch):va Tryz.prog 259 [.agg [.c (.int .u64 (c.id:Int)), .c (.int .u64 (c.loc:Int)), .c (.int .u64 (c.rem:Int)), .c (.int .u64 (c.res:Int)), .c (.int .u64 (c.most:Int)), .sl (hds c.holds), .c (.bool c.op)]] (vbf c):=by
 refine .of (xdD qS (Nat.le_of_ble_eq_true rfl) ?_)
 simp -implicitDefEqProofs only [cdA,go_sem,Go.Proofs.Tryz.f259,reduceIte,reduceCtorEq,Nat.reduceEqDiff,Nat.reduceAdd,Nat.reduceLeDiff,Nat.reduceSub,Nat.reduceMul,Nat.reduceLT,Nat.reduceShiftRight,Nat.reduceMod,Int.reduceLE,Int.reduceLT,Int.reduceToNat,List.cons.injEq,cdB]
 have hbad:¬uax c→0=((gi c).1:Int)∧0=((gi c).2.1:Int)∧1=(gi c).2.2:=fun h=>by simp [gi,if_neg h]
 have hmon:wL [c.res,c.most]=0↔c.res≤MM∧c.most≤MM:=by rw [udR];split<;>simp_all
 rw [hmon]
 refine⟨fun h1 hl=>⟨fun h2=>⟨fun h3 _=>⟨fun h4=>hbad fun h=> ?_,fun h4 _=> ?_⟩,fun h3 _=> ?_⟩,fun h2=>hbad fun h=> ?_⟩,fun h1=>hbad fun h=>h1 ⟨h.1,h.2.1⟩⟩
 ·have:=h.2.2.2.1 (by simpa using h3)
  rw [this]at h4;simp at h4
 rotate_left 2
 ·have:=h.2.2.1;omega
 all_goals
  have hop:c.op=false→c.holds=[]:=fun h=>by first|(rw [h]at h3;cases h3;done)|exact List.eq_nil_of_length_eq_zero (by omega)
  refine SWp.loop (ι:={i:Nat // i≤c.holds.length∧held (c.holds.take i)≤c.most∧(∀j,j<i→(c.holds.getD j default).n≠0∧(0<j→(c.holds.getD (j - 1) default).id<(c.holds.getD j default).id))}) (fun i=>⟨[(1, .ref 0 0),(2, .int .u64 (held (c.holds.take i.1):Nat)),(32, .sl (hds c.holds)),(33, .int .i64 c.holds.length),(34, .int .i64 i.1)],
   [(0, .box [.int .u64 c.id, .int .u64 c.loc, .int .u64 c.rem, .int .u64 c.res, .int .u64 c.most, .sl (hds c.holds), .bool c.op])],2⟩) (fun i=>c.holds.length - i.1) ⟨0,by simp [held]⟩ ?_ ?_
  ·simp [go_sem,held]
  ·rintro⟨i,hi,hs,hall⟩
   refine qa qS.toS zb4 _ _ _ rfl ?_
   simp -implicitDefEqProofs only [cdA,go_sem,reduceIte,reduceCtorEq,Nat.reduceEqDiff,Nat.reduceAdd,Nat.reduceLeDiff,Nat.reduceSub,Nat.reduceMul,Nat.reduceLT,Nat.reduceShiftRight,Nat.reduceMod,Int.reduceLE,Int.reduceLT,Int.reduceToNat,List.cons.injEq,cdB]
   have hst:i<c.holds.length→held (c.holds.take (i+1))=held (c.holds.take i)+(c.holds.getD i default).n:=fun h=>by rw [take_succ h,held,List.map_append,List.sum_append];simp [held]
   have hle:held (c.holds.take (i+1))≤held c.holds:=by
    conv=>rhs;rw [←List.take_append_drop (i+1) c.holds,held,List.map_append,List.sum_append]
    exact Nat.le_add_right _ _
   refine⟨fun h5=>⟨by omega, ?_⟩,fun h5=> ?_⟩
   ·refine ud.run bcd qS ja (by kernel_rfl) (by kernel_rfl) ?_
    simp -implicitDefEqProofs only [cdA,go_sem,reduceIte,reduceCtorEq,Nat.reduceEqDiff,Nat.reduceAdd,Nat.reduceLeDiff,Nat.reduceSub,Nat.reduceMul,Nat.reduceLT,Nat.reduceShiftRight,Nat.reduceMod,Int.reduceLE,Int.reduceLT,Int.reduceToNat,List.cons.injEq,cdB]
    have hi':i<c.holds.length:=by omega
    have hst:=hst hi'
    have hnext:(0<i→(c.holds.getD (i - 1) default).id<(c.holds.getD i default).id)→(c.holds.getD i default).n≠0→
     ((yS [held (c.holds.take i),(c.holds.getD i default).n]).2=0→
       ((c.most:Int)<((yS [held (c.holds.take i),(c.holds.getD i default).n]).1:Int)→0=((gi c).1:Int)∧0=((gi c).2.1:Int)∧1=(gi c).2.2)∧
       (¬(c.most:Int)<((yS [held (c.holds.take i),(c.holds.getD i default).n]).1:Int)→∃i_1:{i:Nat // i≤c.holds.length∧held (c.holds.take i)≤c.most∧(∀j,j<i→(c.holds.getD j default).n≠0∧(0<j→(c.holds.getD (j - 1) default).id<(c.holds.getD j default).id))},
        c.holds.length - i_1.val<c.holds.length - i∧((yS [held (c.holds.take i),(c.holds.getD i default).n]).1:Int)=(held (c.holds.take i_1.val):Nat)∧IntKind.i64.wrap ((i:Int)+1)=i_1.val))∧
     (¬(yS [held (c.holds.take i),(c.holds.getD i default).n]).2=0→0=((gi c).1:Int)∧0=((gi c).2.1:Int)∧1=(gi c).2.2):=fun ho hn=>by
     refine⟨fun h6=> ?_,fun h6=>hbad fun h=>h6 (qq.2 ?_)⟩
     ·have h7:=xU h6
      simp only [List.sum_cons,List.sum_nil,Nat.add_zero]at h7
      rw [h7]
      refine⟨fun h8=>hbad fun h=> ?_,fun h8=>⟨⟨i+1,hi',by omega,fun j hj=> ?_⟩,by dsimp only;omega,by dsimp only;omega,i64_in _ (by omega)⟩⟩
      ·have:=h.2.2.2.2.2.2.1;omega
      ·by_cases hji:j=i
       ·subst hji;exact⟨hn,ho⟩
       ·exact hall j (by omega)
     ·have:=h.2.2.2.2.2.2.1
      have:=h.2.1
      simp only [List.mem_cons,List.not_mem_nil,or_false,forall_eq_or_imp,forall_eq,List.sum_cons,List.sum_nil]
      unfold MM at*
      omega
    refine⟨fun h6=>⟨fun h7=> ?_,fun h7=>hnext (fun h=>absurd h (by omega)) (by omega)⟩,fun h6=>hbad fun h=>h.2.2.2.2.1 _ (ua.2 ⟨i,hi',rfl⟩) (by omega)⟩
    rw [i64_in _ (by omega),show((i:Int) - 1).toNat=i - 1 by omega]
    have hc:∀a b:Nat,0≤zad a b↔¬a<b:=fun a b=>by
     have:=vr (x:=a) (y:=b);omega
    rw [hc]
    refine⟨by omega,fun h8=>hbad fun h=>h8 (h.2.2.2.2.2.1 i hi' (by omega)),fun h8=>hnext (fun _=>by omega) (by omega)⟩
   ·have hi':i=c.holds.length:=by omega
    subst hi'
    rw [List.take_length]at hs⊢
    refine⟨fun h6=> ?_,fun h6=>hbad fun h=>h6 (qq.2 ?_)⟩
    ·have h7:=xU h6
     have h8:=qq.1 h6
     simp only [List.mem_cons,List.not_mem_nil,or_false,forall_eq_or_imp,forall_eq,List.sum_cons,List.sum_nil]at h7 h8
     have hok:uax c:=⟨h1.1,h1.2,by omega,hop,fun x hx=>by obtain⟨j,hj,rfl⟩:=ua.1 hx;exact(hall j hj).1,fun j hj h0=>(hall j hj).2 h0,hs,h8.1.2.1,h8.1.2.2,by unfold MM;omega⟩
     rw [gi,if_pos hok,h7]
     exact⟨rfl,by dsimp only;omega,rfl⟩
    ·have:=h.2.2.2.2.2.2
     have:=h.2.1
     simp only [List.mem_cons,List.not_mem_nil,or_false,forall_eq_or_imp,forall_eq,List.sum_cons,List.sum_nil]
     unfold MM at*
     omega
def kY:List D→Option (Prop×D×Fr)
 |[.agg [.c (.int .u64 z33), .c (.int .u64 z34), .c (.int .u64 z35), .c (.int .u64 z36), .c (.int .u64 z37), .c (.sl z38), .c (.bool z39)]]=>some (z33=(z33.toNat:Int)∧z34=(z34.toNat:Int)∧z35=(z35.toNat:Int)∧z36=(z36.toNat:Int)∧z37=(z37.toNat:Int)∧z38=hds (yad z38),vbf (⟨z33.toNat,z34.toNat,z35.toNat,z36.toNat,z37.toNat,(yad z38),z39⟩:Ch),[])
 |_=>none
attribute [go_sem] kY
theorem uaP:∀rs p r fr,kY rs=some (p,r,fr)→p→uc Tryz.prog 259 rs r fr:=by
 intro rs p r fr h hp
 unfold kY at h
 split at h<;>cases h
 obtain⟨hc0,hc1,hc2,hc3,hc4,hc5⟩:=hp
 rename_i z33 z34 z35 z36 z37 z38 z39
 obtain⟨z33,rfl⟩:∃m:Nat,z33=m:=⟨_,hc0⟩
 obtain⟨z34,rfl⟩:∃m:Nat,z34=m:=⟨_,hc1⟩
 obtain⟨z35,rfl⟩:∃m:Nat,z35=m:=⟨_,hc2⟩
 obtain⟨z36,rfl⟩:∃m:Nat,z36=m:=⟨_,hc3⟩
 obtain⟨z37,rfl⟩:∃m:Nat,z37=m:=⟨_,hc4⟩
 obtain⟨z38,rfl⟩:∃m,z38=hds m:=⟨_,hc5⟩
 simp only [Int.toNat_natCast,wk]
 exact vby ⟨z33,z34,z35,z36,z37,z38,z39⟩
theorem wbt {c:Ch}:(gi c).2.2=0↔uax c:=by unfold gi;split<;>simp_all
@[go_sem] def wbL (c:Ch):D:= .tup [.int .u64 ((gi c).2.1:Int), .int .i64 (gi c).2.2]
@[go_sem] abbrev zej:FuncId:=248
@[go_sem] def xcy:Tab:=[(259,kY)]
theorem vbe:za Tryz.prog xcy:=(za.cons uaP za.nil)
set_option maxRecDepth 8000 in
set_option maxHeartbeats 1000000 in
theorem ubT (c:Ch):va Tryz.prog 248 [.agg [.c (.int .u64 (c.id:Int)), .c (.int .u64 (c.loc:Int)), .c (.int .u64 (c.rem:Int)), .c (.int .u64 (c.res:Int)), .c (.int .u64 (c.most:Int)), .sl (hds c.holds), .c (.bool c.op)]] (wbL c):=by
 refine .of (vdC vbe (Nat.le_of_ble_eq_true rfl) ?_)
 simp -implicitDefEqProofs only [cdA,go_sem,Go.Proofs.Tryz.f248,reduceIte,reduceCtorEq,Nat.reduceEqDiff,Nat.reduceAdd,Nat.reduceLeDiff,Nat.reduceSub,Nat.reduceMul,Nat.reduceLT,Nat.reduceShiftRight,Nat.reduceMod,Int.reduceLE,Int.reduceLT,Int.reduceToNat,List.cons.injEq,cdB]
def jao:List D→Option (Prop×D×Fr)
 |[.agg [.c (.int .u64 z41), .c (.int .u64 z42), .c (.int .u64 z43), .c (.int .u64 z44), .c (.int .u64 z45), .c (.sl z46), .c (.bool z47)]]=>some (z41=(z41.toNat:Int)∧z42=(z42.toNat:Int)∧z43=(z43.toNat:Int)∧z44=(z44.toNat:Int)∧z45=(z45.toNat:Int)∧z46=hds (yad z46),wbL (⟨z41.toNat,z42.toNat,z43.toNat,z44.toNat,z45.toNat,(yad z46),z47⟩:Ch),[])
 |_=>none
attribute [go_sem] jao
theorem jba:∀rs p r fr,jao rs=some (p,r,fr)→p→uc Tryz.prog 248 rs r fr:=by
 intro rs p r fr h hp
 unfold jao at h
 split at h<;>cases h
 obtain⟨hc0,hc1,hc2,hc3,hc4,hc5⟩:=hp
 rename_i z41 z42 z43 z44 z45 z46 z47
 obtain⟨z41,rfl⟩:∃m:Nat,z41=m:=⟨_,hc0⟩
 obtain⟨z42,rfl⟩:∃m:Nat,z42=m:=⟨_,hc1⟩
 obtain⟨z43,rfl⟩:∃m:Nat,z43=m:=⟨_,hc2⟩
 obtain⟨z44,rfl⟩:∃m:Nat,z44=m:=⟨_,hc3⟩
 obtain⟨z45,rfl⟩:∃m:Nat,z45=m:=⟨_,hc4⟩
 obtain⟨z46,rfl⟩:∃m,z46=hds m:=⟨_,hc5⟩
 simp only [Int.toNat_natCast,wk]
 exact ubT ⟨z41,z42,z43,z44,z45,z46,z47⟩
@[go_sem] def waB (l:List Nat):D:= .int .i64 (wL l)
@[go_sem] abbrev vcL:FuncId:=152
@[go_sem] def wbp:Tab:=[]
theorem uV:za Tryz.prog wbp:=za.nil
set_option maxRecDepth 8000 in
set_option maxHeartbeats 1000000 in
theorem wa8 (l:List Nat):va Tryz.prog 152 [.sl (yj l)] (waB l):=by
 refine .of (qdx uV (Nat.le_of_ble_eq_true rfl) ?_)
 simp -implicitDefEqProofs only [cdA,go_sem,Go.Proofs.Tryz.f152,reduceIte,reduceCtorEq,Nat.reduceEqDiff,Nat.reduceAdd,Nat.reduceLeDiff,Nat.reduceSub,Nat.reduceMul,Nat.reduceLT,Nat.reduceShiftRight,Nat.reduceMod,Int.reduceLE,Int.reduceLT,Int.reduceToNat,List.cons.injEq,cdB]
 refine fun hl=>SWp.loop (ι:={i:Nat // i≤l.length∧∀j,j<i→l.getD j default≤MM}) (fun i=>⟨[(5, .sl (yj l)),(6, .int .i64 l.length),(7, .int .i64 i.1)],[],0⟩) (fun i=>l.length - i.1) ⟨0,by simp⟩ ?_ ?_
 ·simp [go_sem]
 ·rintro⟨i,hi,hall⟩
  refine qa uV.toS gb1 _ _ _ rfl ?_
  simp -implicitDefEqProofs only [cdA,go_sem,reduceIte,reduceCtorEq,Nat.reduceEqDiff,Nat.reduceAdd,Nat.reduceLeDiff,Nat.reduceSub,Nat.reduceMul,Nat.reduceLT,Nat.reduceShiftRight,Nat.reduceMod,Int.reduceLE,Int.reduceLT,Int.reduceToNat,List.cons.injEq,cdB]
  unfold MM at hall
  refine⟨fun h=>⟨by omega,fun h1=> ?_,fun h1=>⟨⟨i+1,by omega,fun j hj=> ?_⟩,by dsimp only;omega,i64_in _ (by omega)⟩⟩,fun h=> ?_⟩
  ·rw [wL,if_neg]
   intro h2
   have:=decide_eq_true_iff.1 (List.all_eq_true.1 h2 _ (ua.2 ⟨i,by omega,rfl⟩))
   omega
  ·unfold MM
   by_cases hji:j=i
   ·subst hji;omega
   ·exact hall j (by omega)
  ·rw [wL,if_pos]
   refine List.all_eq_true.2 fun x hx=> ?_
   obtain⟨j,hj,rfl⟩:=ua.1 hx
   simpa using hall j (by omega)
def wm:List D→Option (Prop×D×Fr)
 |[.c (.sl z48)]=>some (z48=yj (qm z48),waB (qm z48),[])
 |_=>none
attribute [go_sem] wm
theorem gp:∀rs p r fr,wm rs=some (p,r,fr)→p→uc Tryz.prog 152 rs r fr:=by
 intro rs p r fr h hp
 unfold wm at h
 split at h<;>cases h
 have hc0:=hp
 rename_i z48
 obtain⟨z48,rfl⟩:∃m,z48=yj m:=⟨_,hc0⟩
 simp only [qf]
 exact wa8 z48
@[go_sem] def vbp (l:List Nat):D:= .tup [.int .u64 ((yS l).1:Int), .int .i64 (yS l).2]
@[go_sem] abbrev wdT:FuncId:=211
@[go_sem] def wb8:Tab:=[(152,wm)]
theorem qaj:za Tryz.prog wb8:=(za.cons gp za.nil)
set_option maxRecDepth 8000 in
set_option maxHeartbeats 1000000 in
theorem ybG (l:List Nat):va Tryz.prog 211 [.sl (yj l)] (vbp l):=by
 refine .of (kdA qaj (Nat.le_of_ble_eq_true rfl) ?_)
 simp -implicitDefEqProofs only [cdA,go_sem,Go.Proofs.Tryz.f211,reduceIte,reduceCtorEq,Nat.reduceEqDiff,Nat.reduceAdd,Nat.reduceLeDiff,Nat.reduceSub,Nat.reduceMul,Nat.reduceLT,Nat.reduceShiftRight,Nat.reduceMod,Int.reduceLE,Int.reduceLT,Int.reduceToNat,List.cons.injEq,cdB]
 refine⟨fun h hl=> ?_,fun h=> ?_⟩
 ·refine SWp.loop (ι:={i:Nat // i≤l.length∧(l.take i).sum≤MM}) (fun i=>⟨[(4, .int .u64 ((l.take i.1).sum:Nat)),(10, .sl (yj l)),(11, .int .i64 l.length),(12, .int .i64 i.1)],[],0⟩) (fun i=>l.length - i.1) ⟨0,by simp⟩ ?_ ?_
  ·simp [go_sem]
  ·rintro⟨i,hi,hs⟩
   refine qa qaj.toS bb2 _ _ _ rfl ?_
   simp -implicitDefEqProofs only [cdA,go_sem,reduceIte,reduceCtorEq,Nat.reduceEqDiff,Nat.reduceAdd,Nat.reduceLeDiff,Nat.reduceSub,Nat.reduceMul,Nat.reduceLT,Nat.reduceShiftRight,Nat.reduceMod,Int.reduceLE,Int.reduceLT,Int.reduceToNat,List.cons.injEq,cdB]
   refine⟨fun h1=> ?_,fun h1=> ?_⟩
   ·have hi':i<l.length:=by omega
    have hg:=xaW h hi'
    have hst:=ya1 hi'
    have hle:=qbQ (l:=l) (i:=i+1)
    unfold MM at hs
    rw [u64_in (4611686018427387904 - _) (by omega)]
    refine⟨by omega,fun h2=> ?_,fun h2=>⟨⟨i+1,by omega,by unfold MM;omega⟩,by dsimp only;omega, ?_,i64_in _ (by omega)⟩⟩
    ·rw [yS,if_pos h,if_neg (by omega)];exact⟨rfl,rfl⟩
    ·rw [u64_in _ (by omega)];dsimp only;omega
   ·rw [List.take_of_length_le (by omega)]at hs⊢
    unfold MM at hs
    rw [yS,if_pos h,if_pos hs];exact⟨rfl,rfl⟩
 ·rw [yS,if_neg h]
  exact⟨rfl,rfl⟩
def zB:List D→Option (Prop×D×Fr)
 |[.c (.sl z49)]=>some (z49=yj (qm z49),vbp (qm z49),[])
 |_=>none
attribute [go_sem] zB
theorem yB:∀rs p r fr,zB rs=some (p,r,fr)→p→uc Tryz.prog 211 rs r fr:=by
 intro rs p r fr h hp
 unfold zB at h
 split at h<;>cases h
 have hc0:=hp
 rename_i z49
 obtain⟨z49,rfl⟩:∃m,z49=yj m:=⟨_,hc0⟩
 simp only [qf]
 exact ybG z49
@[go_sem] def zab (l:List Hd):D:= .sl (yj (l.map Hd.n))
@[go_sem] abbrev wb4:FuncId:=254
@[go_sem] def waO:Tab:=[]
theorem bI:za Tryz.prog waO:=za.nil
set_option maxRecDepth 8000 in
set_option maxHeartbeats 1000000 in
theorem jaC (l:List Hd) (h:l.length≤1000000):va Tryz.prog 254 [.sl (hds l)] (zab l):=by
 refine .of (zdD bI (Nat.le_of_ble_eq_true rfl) ?_)
 simp -implicitDefEqProofs only [cdA,go_sem,Go.Proofs.Tryz.f254,reduceIte,reduceCtorEq,Nat.reduceEqDiff,Nat.reduceAdd,Nat.reduceLeDiff,Nat.reduceSub,Nat.reduceMul,Nat.reduceLT,Nat.reduceShiftRight,Nat.reduceMod,Int.reduceLE,Int.reduceLT,Int.reduceToNat,List.cons.injEq,cdB]
 refine fun hl=>SWp.jax 3 1 23 rfl (Nat.zero_le _) ?_
 refine SWp.loop (ι:={i:Nat // i≤l.length}) (fun i=>⟨[(3, .vec 0 (l.take i.1).length),(6, .sl (hds l)),(7, .int .i64 l.length),(8, .int .i64 i.1)],[(0, .vec true 1 23 (yj ((l.take i.1).map Hd.n)))],1⟩) (fun i=>l.length - i.1) ⟨0,by omega⟩ ?_ ?_
 ·simp [go_sem,yj]
 ·rintro⟨i,hi⟩
  refine qa bI.toS bb3 _ _ _ rfl ?_
  simp -implicitDefEqProofs only [cdA,go_sem,reduceIte,reduceCtorEq,Nat.reduceEqDiff,Nat.reduceAdd,Nat.reduceLeDiff,Nat.reduceSub,Nat.reduceMul,Nat.reduceLT,Nat.reduceShiftRight,Nat.reduceMod,Int.reduceLE,Int.reduceLT,Int.reduceToNat,List.cons.injEq,cdB]
  refine⟨fun h1=> ?_,fun h1=> ?_⟩
  ·have hi':i<l.length:=by omega
   have ht:=take_succ hi'
   have hlen:(l.take i).length=i:=by simp;omega
   refine⟨by omega,⟨by simp,by simp;omega⟩,⟨i+1,by omega⟩,by dsimp only;omega,⟨?_,i64_in _ (by omega)⟩, ?_⟩
   ·dsimp only;rw [ht,List.length_append];rfl
   ·dsimp only;rw [ht,List.map_append];rfl
  ·have hi':i=l.length:=by omega
   subst hi'
   rw [List.take_length]
   exact⟨by simp,_,_,_,rfl⟩
@[go_sem] def baa (l:List Hd):Prop:=(l.length≤1000000)
def gn:List D→Option (Prop×D×Fr)
 |[.c (.sl z50)]=>some (z50=hds (yad z50)∧baa (yad z50),zab (yad z50),[])
 |_=>none
attribute [go_sem] gn
theorem yE:∀rs p r fr,gn rs=some (p,r,fr)→p→uc Tryz.prog 254 rs r fr:=by
 intro rs p r fr h hp
 unfold gn at h
 split at h<;>cases h
 obtain⟨hc0,hp⟩:=hp
 rename_i z50
 obtain⟨z50,rfl⟩:∃m,z50=hds m:=⟨_,hc0⟩
 simp only [wk]
 simp only [wk,baa]at hp
 exact jaC z50 hp
theorem kb4 {l:List Nat} {x:Nat} (h:x∈l):x≤l.sum:=by
 induction l with
 |nil=>cases h
 |cons y l ih=>
  rw [List.sum_cons]
  rcases List.mem_cons.1 h with rfl|h
  ·omega
  ·have:=ih h;omega
theorem kbh {c:Ch} (h:uax c):(yS (c.holds.map Hd.n)).2=0:=qq.2 ⟨fun x hx=>by
 have h3:=h.2.2.2.2.2.2.1
 have h4:=h.2.1
 have h5:=kb4 hx
 unfold MM held at*
 omega,by
 have h3:=h.2.2.2.2.2.2.1
 have h4:=h.2.1
 unfold MM held at*
 omega⟩
def zau (c:Ch):Int:=if uax c then 0 else 1
@[go_sem] def kaC (c:Ch):D:= .int .i64 (zau c)
@[go_sem] abbrev zcM:FuncId:=227
@[go_sem] def qbr:Tab:=[(152,wm),(211,zB),(254,gn)]
theorem xD:za Tryz.prog qbr:=(za.cons gp (za.cons yB (za.cons yE za.nil)))
set_option maxRecDepth 8000 in
set_option maxHeartbeats 1000000 in
theorem ja9 (c:Ch):va Tryz.prog 227 [.agg [.c (.int .u64 (c.id:Int)), .c (.int .u64 (c.loc:Int)), .c (.int .u64 (c.rem:Int)), .c (.int .u64 (c.res:Int)), .c (.int .u64 (c.most:Int)), .sl (hds c.holds), .c (.bool c.op)]] (kaC c):=by
 refine .of (vdB xD (Nat.le_of_ble_eq_true rfl) ?_)
 simp -implicitDefEqProofs only [cdA,go_sem,Go.Proofs.Tryz.f227,reduceIte,reduceCtorEq,Nat.reduceEqDiff,Nat.reduceAdd,Nat.reduceLeDiff,Nat.reduceSub,Nat.reduceMul,Nat.reduceLT,Nat.reduceShiftRight,Nat.reduceMod,Int.reduceLE,Int.reduceLT,Int.reduceToNat,List.cons.injEq,cdB]
 have hbad:¬uax c→1=zau c:=fun h=>by simp [zau,if_neg h]
 have hmon:wL [c.res,c.most]=0↔c.res≤MM∧c.most≤MM:=by rw [udR];split<;>simp_all
 rw [hmon]
 refine⟨fun h1 hl=>⟨fun h2=>⟨fun h3 _=>⟨fun h4=>hbad fun h=> ?_,fun h4 _=> ?_⟩,fun h3 _=> ?_⟩,fun h2=>hbad fun h=> ?_⟩,fun h1=>hbad fun h=>h1 ⟨h.1,h.2.1⟩⟩
 ·have:=h.2.2.2.1 (by simpa using h3)
  rw [this]at h4;simp at h4
 rotate_left 2
 ·have:=h.2.2.1;omega
 all_goals
  have hop:c.op=false→c.holds=[]:=fun h=>by first|(rw [h]at h3;cases h3;done)|exact List.eq_nil_of_length_eq_zero (by omega)
  refine SWp.loop (ι:={i:Nat // i≤c.holds.length∧(∀j,j<i→(c.holds.getD j default).n≠0∧(0<j→(c.holds.getD (j - 1) default).id<(c.holds.getD j default).id))}) (fun i=>⟨[(1, .ref 0 0),(34, .sl (hds c.holds)),(35, .int .i64 c.holds.length),(36, .int .i64 i.1)],
   [(0, .box [.int .u64 c.id, .int .u64 c.loc, .int .u64 c.rem, .int .u64 c.res, .int .u64 c.most, .sl (hds c.holds), .bool c.op])],2⟩) (fun i=>c.holds.length - i.1) ⟨0,by simp⟩ ?_ ?_
  ·simp [go_sem]
  ·rintro⟨i,hi,hall⟩
   refine qa xD.toS qb3 _ _ _ rfl ?_
   simp -implicitDefEqProofs only [cdA,go_sem,reduceIte,reduceCtorEq,Nat.reduceEqDiff,Nat.reduceAdd,Nat.reduceLeDiff,Nat.reduceSub,Nat.reduceMul,Nat.reduceLT,Nat.reduceShiftRight,Nat.reduceMod,Int.reduceLE,Int.reduceLT,Int.reduceToNat,List.cons.injEq,cdB]
   refine⟨fun h5=>⟨by omega, ?_⟩,fun h5=> ?_⟩
   ·refine ud.run vcd xD ja (by kernel_rfl) (by kernel_rfl) ?_
    simp -implicitDefEqProofs only [cdA,go_sem,reduceIte,reduceCtorEq,Nat.reduceEqDiff,Nat.reduceAdd,Nat.reduceLeDiff,Nat.reduceSub,Nat.reduceMul,Nat.reduceLT,Nat.reduceShiftRight,Nat.reduceMod,Int.reduceLE,Int.reduceLT,Int.reduceToNat,List.cons.injEq,cdB]
    have hi':i<c.holds.length:=by omega
    have hnext:(0<i→(c.holds.getD (i - 1) default).id<(c.holds.getD i default).id)→(c.holds.getD i default).n≠0→∃i_1:{i:Nat // i≤c.holds.length∧(∀j,j<i→(c.holds.getD j default).n≠0∧(0<j→(c.holds.getD (j - 1) default).id<(c.holds.getD j default).id))},c.holds.length - i_1.val<c.holds.length - i∧IntKind.i64.wrap ((i:Int)+1)=i_1.val:=fun ho hn=>
     ⟨⟨i+1,hi',fun j hj=>by
       by_cases hji:j=i
       ·subst hji;exact⟨hn,ho⟩
       ·exact hall j (by omega)⟩,by dsimp only;omega,i64_in _ (by omega)⟩
    refine⟨fun h6=>⟨fun h7=> ?_,fun h7=>hnext (fun h=>absurd h (by omega)) (by omega)⟩,fun h6=>hbad fun h=>h.2.2.2.2.1 _ (ua.2 ⟨i,hi',rfl⟩) (by omega)⟩
    rw [i64_in _ (by omega),show((i:Int) - 1).toNat=i - 1 by omega]
    refine⟨by omega,fun h8=>hbad fun h=> ?_,fun h8=>hnext (fun _=>by omega) (by omega)⟩
    have:=h.2.2.2.2.2.1 i hi' (by omega)
    change (c.holds.getD (i - 1) default).id<(c.holds.getD i default).id at this
    omega
   ·have hi':i=c.holds.length:=by omega
    subst hi'
    refine⟨by omega,fun h6=> ?_,fun h6=>hbad fun h=>h6 (kbh h)⟩
    have h7:=xU h6
    have e1:(c.holds.map Hd.n).sum=held c.holds:=rfl
    rw [h7,e1]
    refine⟨fun h8=>hbad fun h=> ?_,fun h8=>⟨fun h9=> ?_,fun h9=>hbad fun h=>h9 (qq.2 ?_)⟩⟩
    ·have:=h.2.2.2.2.2.2.1;omega
    ·have h10:=qq.1 h9
     simp only [List.mem_cons,List.not_mem_nil,or_false,forall_eq_or_imp,forall_eq,List.sum_cons,List.sum_nil]at h10
     have hok:uax c:=⟨h1.1,h1.2,by omega,hop,fun x hx=>by obtain⟨j,hj,rfl⟩:=ua.1 hx;exact(hall j hj).1,fun j hj h0=>(hall j hj).2 h0,by omega,h10.1.1,h10.1.2.1,by unfold MM;omega⟩
     rw [zau,if_pos hok]
    ·have:=h.2.2.2.2.2.2
     have:=h.2.1
     simp only [List.mem_cons,List.not_mem_nil,or_false,forall_eq_or_imp,forall_eq,List.sum_cons,List.sum_nil]
     unfold MM at*
     omega
def xw:List D→Option (Prop×D×Fr)
 |[.agg [.c (.int .u64 z52), .c (.int .u64 z53), .c (.int .u64 z54), .c (.int .u64 z55), .c (.int .u64 z56), .c (.sl z57), .c (.bool z58)]]=>some (z52=(z52.toNat:Int)∧z53=(z53.toNat:Int)∧z54=(z54.toNat:Int)∧z55=(z55.toNat:Int)∧z56=(z56.toNat:Int)∧z57=hds (yad z57),kaC (⟨z52.toNat,z53.toNat,z54.toNat,z55.toNat,z56.toNat,(yad z57),z58⟩:Ch),[])
 |_=>none
attribute [go_sem] xw
theorem xQ:∀rs p r fr,xw rs=some (p,r,fr)→p→uc Tryz.prog 227 rs r fr:=by
 intro rs p r fr h hp
 unfold xw at h
 split at h<;>cases h
 obtain⟨hc0,hc1,hc2,hc3,hc4,hc5⟩:=hp
 rename_i z52 z53 z54 z55 z56 z57 z58
 obtain⟨z52,rfl⟩:∃m:Nat,z52=m:=⟨_,hc0⟩
 obtain⟨z53,rfl⟩:∃m:Nat,z53=m:=⟨_,hc1⟩
 obtain⟨z54,rfl⟩:∃m:Nat,z54=m:=⟨_,hc2⟩
 obtain⟨z55,rfl⟩:∃m:Nat,z55=m:=⟨_,hc3⟩
 obtain⟨z56,rfl⟩:∃m:Nat,z56=m:=⟨_,hc4⟩
 obtain⟨z57,rfl⟩:∃m,z57=hds m:=⟨_,hc5⟩
 simp only [Int.toNat_natCast,wk]
 exact ja9 ⟨z52,z53,z54,z55,z56,z57,z58⟩
@[go_sem] def baZ (c:Ch):D:= .tup [.int .u64 ((gi c).1:Int), .int .i64 (gi c).2.2]
@[go_sem] abbrev zde:FuncId:=260
@[go_sem] def kbH:Tab:=[(227,xw),(211,zB),(254,gn)]
theorem uaO:za Tryz.prog kbH:=(za.cons xQ (za.cons yB (za.cons yE za.nil)))
set_option maxRecDepth 8000 in
set_option maxHeartbeats 1000000 in
theorem jbr (c:Ch):va Tryz.prog 260 [.agg [.c (.int .u64 (c.id:Int)), .c (.int .u64 (c.loc:Int)), .c (.int .u64 (c.rem:Int)), .c (.int .u64 (c.res:Int)), .c (.int .u64 (c.most:Int)), .sl (hds c.holds), .c (.bool c.op)]] (baZ c):=by
 refine .of (qdD uaO (Nat.le_of_ble_eq_true rfl) ?_)
 simp -implicitDefEqProofs only [cdA,go_sem,Go.Proofs.Tryz.f260,reduceIte,reduceCtorEq,Nat.reduceEqDiff,Nat.reduceAdd,Nat.reduceLeDiff,Nat.reduceSub,Nat.reduceMul,Nat.reduceLT,Nat.reduceShiftRight,Nat.reduceMod,Int.reduceLE,Int.reduceLT,Int.reduceToNat,List.cons.injEq,cdB]
 by_cases h:uax c
 ·have h1:=kbh h
  have h2:=xU h1
  rw [zau,if_pos h,gi,if_pos h,h1,h2]
  exact⟨fun _=>⟨by have:=h.2.2.1;omega,rfl,rfl⟩,fun h=>absurd rfl h⟩
 ·rw [zau,if_neg h,gi,if_neg h]
  exact⟨fun h=>absurd h (by decide),fun _=>⟨rfl,rfl⟩⟩
def qQ:List D→Option (Prop×D×Fr)
 |[.agg [.c (.int .u64 z60), .c (.int .u64 z61), .c (.int .u64 z62), .c (.int .u64 z63), .c (.int .u64 z64), .c (.sl z65), .c (.bool z66)]]=>some (z60=(z60.toNat:Int)∧z61=(z61.toNat:Int)∧z62=(z62.toNat:Int)∧z63=(z63.toNat:Int)∧z64=(z64.toNat:Int)∧z65=hds (yad z65),baZ (⟨z60.toNat,z61.toNat,z62.toNat,z63.toNat,z64.toNat,(yad z65),z66⟩:Ch),[])
 |_=>none
attribute [go_sem] qQ
theorem waG:∀rs p r fr,qQ rs=some (p,r,fr)→p→uc Tryz.prog 260 rs r fr:=by
 intro rs p r fr h hp
 unfold qQ at h
 split at h<;>cases h
 obtain⟨hc0,hc1,hc2,hc3,hc4,hc5⟩:=hp
 rename_i z60 z61 z62 z63 z64 z65 z66
 obtain⟨z60,rfl⟩:∃m:Nat,z60=m:=⟨_,hc0⟩
 obtain⟨z61,rfl⟩:∃m:Nat,z61=m:=⟨_,hc1⟩
 obtain⟨z62,rfl⟩:∃m:Nat,z62=m:=⟨_,hc2⟩
 obtain⟨z63,rfl⟩:∃m:Nat,z63=m:=⟨_,hc3⟩
 obtain⟨z64,rfl⟩:∃m:Nat,z64=m:=⟨_,hc4⟩
 obtain⟨z65,rfl⟩:∃m,z65=hds m:=⟨_,hc5⟩
 simp only [Int.toNat_natCast,wk]
 exact jbr ⟨z60,z61,z62,z63,z64,z65,z66⟩
@[go_sem] def xbr (c:Ch):D:= .tup [.int .u64 ((gi c).2.1:Int), .int .i64 (gi c).2.2]
@[go_sem] abbrev ydU:FuncId:=255
@[go_sem] def yb9:Tab:=[(260,qQ),(211,zB)]
theorem qa9:za Tryz.prog yb9:=(za.cons waG (za.cons yB za.nil))
set_option maxRecDepth 8000 in
set_option maxHeartbeats 1000000 in
theorem jbH (c:Ch):va Tryz.prog 255 [.agg [.c (.int .u64 (c.id:Int)), .c (.int .u64 (c.loc:Int)), .c (.int .u64 (c.rem:Int)), .c (.int .u64 (c.res:Int)), .c (.int .u64 (c.most:Int)), .sl (hds c.holds), .c (.bool c.op)]] (xbr c):=by
 refine .of (ydD qa9 (Nat.le_of_ble_eq_true rfl) ?_)
 simp -implicitDefEqProofs only [cdA,go_sem,Go.Proofs.Tryz.f255,reduceIte,reduceCtorEq,Nat.reduceEqDiff,Nat.reduceAdd,Nat.reduceLeDiff,Nat.reduceSub,Nat.reduceMul,Nat.reduceLT,Nat.reduceShiftRight,Nat.reduceMod,Int.reduceLE,Int.reduceLT,Int.reduceToNat,List.cons.injEq,cdB]
 rw [wbt]
 refine⟨fun h=> ?_,fun h=> ?_⟩
 ·have h2:=h.2.2.2.2.2.2
  have h3:=h.2.1
  have e1:(gi c).1=held c.holds:=by rw [gi,if_pos h]
  have h1:(yS [c.loc,c.rem,held c.holds]).2=0:=qq.2 (by
   simp only [List.mem_cons,List.not_mem_nil,or_false,forall_eq_or_imp,forall_eq,List.sum_cons,List.sum_nil]
   unfold MM at*
   omega)
  rw [e1,h1,xU h1,gi,if_pos h]
  simp only [List.sum_cons,List.sum_nil]
  exact⟨by omega,trivial⟩
 ·rw [gi,if_neg h];simp
def uZ:List D→Option (Prop×D×Fr)
 |[.agg [.c (.int .u64 z68), .c (.int .u64 z69), .c (.int .u64 z70), .c (.int .u64 z71), .c (.int .u64 z72), .c (.sl z73), .c (.bool z74)]]=>some (z68=(z68.toNat:Int)∧z69=(z69.toNat:Int)∧z70=(z70.toNat:Int)∧z71=(z71.toNat:Int)∧z72=(z72.toNat:Int)∧z73=hds (yad z73),xbr (⟨z68.toNat,z69.toNat,z70.toNat,z71.toNat,z72.toNat,(yad z73),z74⟩:Ch),[])
 |_=>none
attribute [go_sem] uZ
theorem zaR:∀rs p r fr,uZ rs=some (p,r,fr)→p→uc Tryz.prog 255 rs r fr:=by
 intro rs p r fr h hp
 unfold uZ at h
 split at h<;>cases h
 obtain⟨hc0,hc1,hc2,hc3,hc4,hc5⟩:=hp
 rename_i z68 z69 z70 z71 z72 z73 z74
 obtain⟨z68,rfl⟩:∃m:Nat,z68=m:=⟨_,hc0⟩
 obtain⟨z69,rfl⟩:∃m:Nat,z69=m:=⟨_,hc1⟩
 obtain⟨z70,rfl⟩:∃m:Nat,z70=m:=⟨_,hc2⟩
 obtain⟨z71,rfl⟩:∃m:Nat,z71=m:=⟨_,hc3⟩
 obtain⟨z72,rfl⟩:∃m:Nat,z72=m:=⟨_,hc4⟩
 obtain⟨z73,rfl⟩:∃m,z73=hds m:=⟨_,hc5⟩
 simp only [Int.toNat_natCast,wk]
 exact jbH ⟨z68,z69,z70,z71,z72,z73,z74⟩
end Dm
namespace Dm
open Go Go.Proofs Go.IntWalk
abbrev zcw (c:Ch):Nat:=(gi c).2.1
def x5 (l:List Ch):Nat:=(l.map zcw).sum
theorem qbd (c:Ch):zcw c≤MM:=by
 unfold zcw gi
 split
 ·rename_i h;exact h.2.2.2.2.2.2.2.2.2
 ·exact Nat.zero_le _
theorem qaI {l:List Ch} {i:Nat} (h:i<l.length):x5 (l.take (i+1))=x5 (l.take i)+zcw (l.getD i default):=by
 rw [take_succ h,x5,List.map_append,List.sum_append];simp [x5]
theorem vbu {l:List Ch} {i:Nat}:x5 (l.take i)≤x5 l:=by
 conv=>rhs;rw [←List.take_append_drop i l,x5,List.map_append,List.sum_append]
 exact Nat.le_add_right _ _
def qad (l:List Ch):List Nat:=l.flatMap fun c=>c.holds.map Hd.id
def vbw (l:List Ch):Prop:=l.length≤32∧(∀c∈l,uax c)∧Srt.Chn Ch.id ltN l∧(qad l).Nodup∧x5 l≤MM
instance (l:List Ch):Decidable (Srt.Chn Ch.id ltN l):=by unfold Srt.Chn;infer_instance
instance (l:List Ch):Decidable (vbw l):=by unfold vbw;infer_instance
def qbw (l:List Ch):Int:=if vbw l then 0 else 1
def hm:Int→List Ch→List (Nat×Int)
 |_,[]=>[]
 |i,c::l=>c.holds.map (fun h=>(h.id,i))++hm (i+1) l
def gaO (l:List Ch):List (Nat×Int)×Int:=if vbw l then(hm 0 l,0)else([],1)
@[go_sem] def zaW (c:Ch) (id:Nat):D:= .int .i64 (zad c.id id)
@[go_sem] abbrev ydc:FuncId:=249
@[go_sem] def jbC:Tab:=[(225,xJ)]
theorem baL:za Tryz.prog jbC:=(za.cons wq za.nil)
set_option maxRecDepth 8000 in
set_option maxHeartbeats 1000000 in
theorem zbk (c:Ch) (id:Nat):va Tryz.prog 249 [.agg [.c (.int .u64 (c.id:Int)), .c (.int .u64 (c.loc:Int)), .c (.int .u64 (c.rem:Int)), .c (.int .u64 (c.res:Int)), .c (.int .u64 (c.most:Int)), .sl (hds c.holds), .c (.bool c.op)], .c (.int .u64 (id:Int))] (zaW c id):=by
 refine .of (wdC baL (Nat.le_of_ble_eq_true rfl) ?_)
 simp -implicitDefEqProofs only [cdA,go_sem,Go.Proofs.Tryz.f249,reduceIte,reduceCtorEq,Nat.reduceEqDiff,Nat.reduceAdd,Nat.reduceLeDiff,Nat.reduceSub,Nat.reduceMul,Nat.reduceLT,Nat.reduceShiftRight,Nat.reduceMod,Int.reduceLE,Int.reduceLT,Int.reduceToNat,List.cons.injEq,cdB]
def gN:List D→Option (Prop×D×Fr)
 |[.agg [.c (.int .u64 z76), .c (.int .u64 z77), .c (.int .u64 z78), .c (.int .u64 z79), .c (.int .u64 z80), .c (.sl z81), .c (.bool z82)], .c (.int .u64 z83)]=>some (z76=(z76.toNat:Int)∧z77=(z77.toNat:Int)∧z78=(z78.toNat:Int)∧z79=(z79.toNat:Int)∧z80=(z80.toNat:Int)∧z81=hds (yad z81)∧z83=(z83.toNat:Int),zaW (⟨z76.toNat,z77.toNat,z78.toNat,z79.toNat,z80.toNat,(yad z81),z82⟩:Ch) z83.toNat,[])
 |_=>none
attribute [go_sem] gN
theorem gaE:∀rs p r fr,gN rs=some (p,r,fr)→p→uc Tryz.prog 249 rs r fr:=by
 intro rs p r fr h hp
 unfold gN at h
 split at h<;>cases h
 obtain⟨hc0,hc1,hc2,hc3,hc4,hc5,hc6⟩:=hp
 rename_i z76 z77 z78 z79 z80 z81 z82 z83
 obtain⟨z76,rfl⟩:∃m:Nat,z76=m:=⟨_,hc0⟩
 obtain⟨z77,rfl⟩:∃m:Nat,z77=m:=⟨_,hc1⟩
 obtain⟨z78,rfl⟩:∃m:Nat,z78=m:=⟨_,hc2⟩
 obtain⟨z79,rfl⟩:∃m:Nat,z79=m:=⟨_,hc3⟩
 obtain⟨z80,rfl⟩:∃m:Nat,z80=m:=⟨_,hc4⟩
 obtain⟨z81,rfl⟩:∃m,z81=hds m:=⟨_,hc5⟩
 obtain⟨z83,rfl⟩:∃m:Nat,z83=m:=⟨_,hc6⟩
 simp only [Int.toNat_natCast,wk]
 exact zbk ⟨z76,z77,z78,z79,z80,z81,z82⟩ z83
theorem gau {l:List Ch} {i:Nat} (h:i<l.length):qad (l.take (i+1))=qad (l.take i)++(l.getD i default).holds.map Hd.id:=by
 rw [take_succ h,qad,List.flatMap_append];simp [qad]
theorem vbh {l:List Ch} {i:Nat} (h:(qad l).Nodup):(qad (l.take i)).Nodup:=by
 rw [←List.take_append_drop i l,qad,List.flatMap_append]at h
 exact(List.nodup_append.1 h).1
theorem jbl {c:Ch} (h:uax c):(c.holds.map Hd.id).Nodup:=by
 have h1:=(Srt.uU (lt:=ltN) Srt.jB).1 h.2.2.2.2.2.1
 unfold Srt.Up at h1
 rw [List.Nodup,List.pairwise_map]
 exact h1.imp fun hlt he=>by
  simp only [Hd.key,ltN]at hlt
  omega
def yaJ (l:List Ch) (h:Nat):Int:=match l.findIdx? (fun c=>c.holds.any fun x=>decide (x.id=h))with
 |some i=>i
 |none=> -1
theorem vbv {l:List Ch} {h:Nat}:0≤yaJ l h↔h∈qad l:=by
 unfold yaJ qad
 rw [List.mem_flatMap]
 cases hf:l.findIdx? (fun c=>c.holds.any fun x=>decide (x.id=h))with
 |none=>
  rw [List.findIdx?_eq_none_iff]at hf
  refine⟨fun h=>absurd h (by decide),fun⟨c,hc,hm⟩=> ?_⟩
  obtain⟨x,hx,rfl⟩:=List.mem_map.1 hm
  have:=List.any_eq_false.1 (hf c hc) x hx
  simp at this
 |some i=>
  refine⟨fun _=> ?_,fun _=>Int.natCast_nonneg _⟩
  obtain⟨hi,h2,_⟩:=List.findIdx?_eq_some_iff_getElem.1 hf
  obtain⟨x,hx,h3⟩:=List.any_eq_true.1 h2
  exact⟨_,List.getElem_mem hi,List.mem_map.2 ⟨x,hx,by simpa using h3⟩⟩
theorem ubh:∀{l:List Ch} {s:Int},(hm s l).map (·.1)=qad l
 |[],_=>rfl
 |c::l,s=>by
  have e:qad (c::l)=c.holds.map Hd.id++qad l:=by simp [qad]
  rw [hm,List.map_append,ubh,List.map_map,e];rfl
theorem gbY {l:List Ch} {i:Nat} (h:i<l.length):hm 0 (l.take (i+1))=hm 0 (l.take i)++(l.getD i default).holds.map fun x=>(x.id,(i:Int)):=by
 have key:∀(l:List Ch) (s:Int) (c:Ch),hm s (l++[c])=hm s l++c.holds.map fun x=>(x.id,s+l.length):=by
  intro l
  induction l with
  |nil=>intro s c;simp [hm]
  |cons d l ih=>
   intro s c
   rw [List.cons_append,hm,ih,hm,List.append_assoc]
   simp only [List.length_cons]
   rw [show s+((l.length+1:Nat):Int)=s+1+l.length by omega]
 rw [take_succ h,key]
 simp only [Int.zero_add,List.length_take]
 rw [show min i l.length=i by omega]
@[go_sem] def uah (l:List Ch) (h:Nat):D:= .int .i64 (yaJ l h)
@[go_sem] abbrev uco:FuncId:=228
@[go_sem] def va6:Tab:=[]
theorem xz:za Tryz.prog va6:=za.nil
set_option maxRecDepth 8000 in
set_option maxHeartbeats 1000000 in
theorem xaN (l:List Ch) (h:Nat):va Tryz.prog 228 [.sl (chs l), .c (.int .u64 (h:Int))] (uah l h):=by
 refine .of (wdB xz (Nat.le_of_ble_eq_true rfl) ?_)
 simp -implicitDefEqProofs only [cdA,go_sem,Go.Proofs.Tryz.f228,reduceIte,reduceCtorEq,Nat.reduceEqDiff,Nat.reduceAdd,Nat.reduceLeDiff,Nat.reduceSub,Nat.reduceMul,Nat.reduceLT,Nat.reduceShiftRight,Nat.reduceMod,Int.reduceLE,Int.reduceLT,Int.reduceToNat,List.cons.injEq,cdB]
 refine fun hl=>SWp.loop (ι:={i:Nat // i≤l.length∧∀j,j<i→∀x∈(l.getD j default).holds,x.id≠h}) (fun i=>⟨[(1, .int .u64 h),(9, .sl (chs l)),(10, .int .i64 l.length),(11, .int .i64 i.1)],[],0⟩) (fun i=>l.length - i.1) ⟨0,by simp⟩ ?_ ?_
 ·simp [go_sem]
 ·rintro⟨i,hi,hall⟩
  refine qa xz.toS ybD _ _ _ rfl ?_
  simp -implicitDefEqProofs only [cdA,go_sem,reduceIte,reduceCtorEq,Nat.reduceEqDiff,Nat.reduceAdd,Nat.reduceLeDiff,Nat.reduceSub,Nat.reduceMul,Nat.reduceLT,Nat.reduceShiftRight,Nat.reduceMod,Int.reduceLE,Int.reduceLT,Int.reduceToNat,List.cons.injEq,cdB]
  refine⟨fun h1=>⟨by omega,fun _=> ?_⟩,fun h1=> ?_⟩
  ·have hi':i<l.length:=by omega
   generalize hc:l.getD i default=c at*
   refine SWp.loop (ι:={k:Nat // k≤c.holds.length∧∀j,j<k→(c.holds.getD j default).id≠h}) (fun k=>⟨[(1, .int .u64 h),(5, .int .i64 i),(9, .sl (chs l)),(10, .int .i64 l.length),(11, .int .i64 i),(17, .sl (hds c.holds)),(18, .int .i64 c.holds.length),(19, .int .i64 k.1)],[],1⟩) (fun k=>c.holds.length - k.1) ⟨0,by simp⟩ ?_ ?_
   ·simp [go_sem]
   ·rintro⟨k,hk,hin⟩
    refine qa xz.toS ybD _ _ _ rfl ?_
    simp -implicitDefEqProofs only [cdA,go_sem,reduceIte,reduceCtorEq,Nat.reduceEqDiff,Nat.reduceAdd,Nat.reduceLeDiff,Nat.reduceSub,Nat.reduceMul,Nat.reduceLT,Nat.reduceShiftRight,Nat.reduceMod,Int.reduceLE,Int.reduceLT,Int.reduceToNat,List.cons.injEq,cdB]
    refine⟨fun h2=>⟨by omega,fun h3=> ?_,fun h3=>⟨⟨k+1,by omega,fun j hj=> ?_⟩,by dsimp only;omega,i64_in _ (by omega)⟩⟩,fun h2=>⟨⟨i+1,hi',fun j hj x hx=> ?_⟩,by dsimp only;omega,i64_in _ (by omega)⟩⟩
    ·have hf:(l.findIdx? fun c=>c.holds.any fun x=>decide (x.id=h))=some i:=by
      refine List.findIdx?_eq_some_iff_getElem.2 ⟨hi', ?_,fun j hj=> ?_⟩
      ·rw [←we hi',hc]
       exact List.any_eq_true.2 ⟨_,ua.2 ⟨k,by omega,rfl⟩,decide_eq_true (by omega)⟩
      ·rw [Bool.not_eq_true,List.any_eq_false]
       intro x hx
       have:=hall j hj x (by rw [we (by omega)];exact hx)
       simpa using this
     rw [yaJ,hf]
    ·by_cases hji:j=k
     ·subst hji;omega
     ·exact hin j (by omega)
    ·by_cases hji:j=i
     ·subst hji
      rw [hc]at hx
      obtain⟨q,hq,rfl⟩:=ua.1 hx
      exact hin q (by omega)
     ·exact hall j (by omega) x hx
  ·rw [yaJ,List.findIdx?_eq_none_iff.2 fun c hc=> ?_]
   obtain⟨j,hj,rfl⟩:=ua.1 hc
   rw [List.any_eq_false]
   intro x hx
   simpa using hall j (by omega) x hx
def yA:List D→Option (Prop×D×Fr)
 |[.c (.sl z85), .c (.int .u64 z86)]=>some (z85=chs (ug z85)∧z86=(z86.toNat:Int),uah (ug z85) z86.toNat,[])
 |_=>none
attribute [go_sem] yA
theorem zae:∀rs p r fr,yA rs=some (p,r,fr)→p→uc Tryz.prog 228 rs r fr:=by
 intro rs p r fr h hp
 unfold yA at h
 split at h<;>cases h
 obtain⟨hc0,hc1⟩:=hp
 rename_i z85 z86
 obtain⟨z85,rfl⟩:∃m,z85=chs m:=⟨_,hc0⟩
 obtain⟨z86,rfl⟩:∃m:Nat,z86=m:=⟨_,hc1⟩
 simp only [Int.toNat_natCast,yb]
 exact xaN z85 z86
def kct (l:List Ch):Nat×Bool:=if x5 l≤MM then(x5 l,true)else(0,false)
@[go_sem] def waX (l:List Ch):D:= .tup [.int .u64 ((kct l).1:Int), .bool (kct l).2]
@[go_sem] abbrev vdc:FuncId:=229
@[go_sem] def qbF:Tab:=[(255,uZ),(211,zB)]
theorem vaa:za Tryz.prog qbF:=(za.cons zaR (za.cons yB za.nil))
set_option maxRecDepth 8000 in
set_option maxHeartbeats 1000000 in
theorem qbn (l:List Ch):va Tryz.prog 229 [.sl (chs l)] (waX l):=by
 refine .of (udB vaa (Nat.le_of_ble_eq_true rfl) ?_)
 simp -implicitDefEqProofs only [cdA,go_sem,Go.Proofs.Tryz.f229,reduceIte,reduceCtorEq,Nat.reduceEqDiff,Nat.reduceAdd,Nat.reduceLeDiff,Nat.reduceSub,Nat.reduceMul,Nat.reduceLT,Nat.reduceShiftRight,Nat.reduceMod,Int.reduceLE,Int.reduceLT,Int.reduceToNat,List.cons.injEq,cdB]
 refine fun hl=>SWp.loop (ι:={i:Nat // i≤l.length∧x5 (l.take i)≤MM}) (fun i=>⟨[(4, .int .u64 (x5 (l.take i.1):Nat)),(11, .sl (chs l)),(12, .int .i64 l.length),(13, .int .i64 i.1)],[],0⟩) (fun i=>l.length - i.1) ⟨0,by simp [x5]⟩ ?_ ?_
 ·simp [go_sem,x5]
 ·rintro⟨i,hi,hs⟩
  refine qa vaa.toS jb3 _ _ _ rfl ?_
  simp -implicitDefEqProofs only [cdA,go_sem,reduceIte,reduceCtorEq,Nat.reduceEqDiff,Nat.reduceAdd,Nat.reduceLeDiff,Nat.reduceSub,Nat.reduceMul,Nat.reduceLT,Nat.reduceShiftRight,Nat.reduceMod,Int.reduceLE,Int.reduceLT,Int.reduceToNat,List.cons.injEq,cdB]
  have hA:=qbd (l.getD i default)
  refine⟨fun h=> ?_,fun h=> ?_⟩
  ·have hi':i<l.length:=by omega
   have h1:=qaI hi'
   refine⟨by omega,fun h2=> ?_,fun h2=> ?_⟩
   ·have h3:=xU h2
    have h4:=(qq.1 h2).2
    simp only [List.sum_cons,List.sum_nil,Nat.add_zero]at h3 h4
    exact⟨⟨i+1,hi',by rw [h1];exact h4⟩,by dsimp only;omega,by rw [h3];dsimp only;rw [h1],i64_in _ (by omega)⟩
   ·have:¬x5 l≤MM:=fun h3=>h2 (qq.2 (by
     have:=vbu (l:=l) (i:=i+1)
     simp only [List.mem_cons,List.not_mem_nil,or_false,forall_eq_or_imp,forall_eq,List.sum_cons,List.sum_nil]
     unfold MM zcw at*
     omega))
    rw [kct,if_neg this];exact⟨rfl,rfl⟩
  ·have hi':i=l.length:=by omega
   subst hi'
   rw [List.take_length]at hs⊢
   rw [kct,if_pos hs];exact⟨rfl,rfl⟩
def qO:List D→Option (Prop×D×Fr)
 |[.c (.sl z87)]=>some (z87=chs (ug z87),waX (ug z87),[])
 |_=>none
attribute [go_sem] qO
theorem xaF:∀rs p r fr,qO rs=some (p,r,fr)→p→uc Tryz.prog 229 rs r fr:=by
 intro rs p r fr h hp
 unfold qO at h
 split at h<;>cases h
 have hc0:=hp
 rename_i z87
 obtain⟨z87,rfl⟩:∃m,z87=chs m:=⟨_,hc0⟩
 simp only [yb]
 exact qbn z87
@[go_sem] def wah (l:List Ch):D:= .int .i64 (qbw l)
@[go_sem] abbrev wco:FuncId:=167
@[go_sem] def qa6:Tab:=[(227,xw),(228,yA),(229,qO)]
theorem ql:za Tryz.prog qa6:=(za.cons xQ (za.cons zae (za.cons xaF za.nil)))
set_option maxRecDepth 8000 in
set_option maxHeartbeats 1000000 in
theorem yaN (l:List Ch):va Tryz.prog 167 [.sl (chs l)] (wah l):=by
 refine .of (kdy ql (Nat.le_of_ble_eq_true rfl) ?_)
 simp -implicitDefEqProofs only [cdA,go_sem,Go.Proofs.Tryz.f167,reduceIte,reduceCtorEq,Nat.reduceEqDiff,Nat.reduceAdd,Nat.reduceLeDiff,Nat.reduceSub,Nat.reduceMul,Nat.reduceLT,Nat.reduceShiftRight,Nat.reduceMod,Int.reduceLE,Int.reduceLT,Int.reduceToNat,List.cons.injEq,cdB]
 have hbad:¬vbw l→1=qbw l:=fun h=>by rw [qbw,if_neg h]
 refine fun hl=>⟨fun h1=>hbad fun h=> ?_,fun h1 _=> ?_⟩
 ·have:=h.1;omega
 refine SWp.loop (ι:={i:Nat // i≤l.length∧(∀c∈l.take i,uax c)∧(∀j,j<i→0<j→(l.getD (j - 1) default).id<(l.getD j default).id)∧(qad (l.take i)).Nodup}) (fun i=>⟨[(0, .sl (chs l)),(12, .sl (chs l)),(13, .int .i64 l.length),(14, .int .i64 i.1)],[],0⟩) (fun i=>l.length - i.1) ⟨0,by simp [qad]⟩ ?_ ?_
 ·simp [go_sem]
 ·rintro⟨i,hi,hall,ho,hn⟩
  refine qa ql.toS gbC _ _ _ rfl ?_
  simp -implicitDefEqProofs only [cdA,go_sem,reduceIte,reduceCtorEq,Nat.reduceEqDiff,Nat.reduceAdd,Nat.reduceLeDiff,Nat.reduceSub,Nat.reduceMul,Nat.reduceLT,Nat.reduceShiftRight,Nat.reduceMod,Int.reduceLE,Int.reduceLT,Int.reduceToNat,List.cons.injEq,cdB]
  refine⟨fun h=>⟨by omega, ?_⟩,fun h=> ?_⟩
  ·refine ud.run ucc ql ja (by kernel_rfl) (by kernel_rfl) ?_
   simp -implicitDefEqProofs only [cdA,go_sem,reduceIte,reduceCtorEq,Nat.reduceEqDiff,Nat.reduceAdd,Nat.reduceLeDiff,Nat.reduceSub,Nat.reduceMul,Nat.reduceLT,Nat.reduceShiftRight,Nat.reduceMod,Int.reduceLE,Int.reduceLT,Int.reduceToNat,List.cons.injEq,cdB]
   have hi':i<l.length:=by omega
   have hmem:l.getD i default∈l:=ua.2 ⟨i,hi',rfl⟩
   have hsub:∀{a b:List Nat},(a++b).Nodup↔a.Nodup∧b.Nodup∧∀x∈b,x∉a:=fun{a b}=>by
    rw [List.nodup_append]
    exact and_congr_right fun _=>and_congr_right fun _=>⟨fun h x hb ha=>h x ha x hb rfl,fun h x ha y hb e=>h y hb (e▸ha)⟩
   have hks:=gau hi'
   have htk:∀c,c∈l.take (i+1)↔c∈l.take i∨c=l.getD i default:=fun c=>by rw [take_succ hi'];simp
   refine⟨fun h2=> ?_,fun h2=>hbad fun h=>h2 (by rw [zau,if_pos (h.2.1 _ hmem)])⟩
   have hc0:uax (l.getD i default):=by
    unfold zau at h2;split at h2
    ·assumption
    ·cases h2
   have hcn:=jbl hc0
   generalize hc:l.getD i default=c at*
   refine⟨fun h3=>⟨?_,fun h4=>hbad fun h=> ?_,fun h4 _=> ?_⟩,fun h3 _=> ?_⟩
   ·rw [i64_in _ (by omega)];omega
   ·rw [i64_in _ (by omega),show((i:Int) - 1).toNat=i - 1 by omega]at h4
    have:=h.2.2.1 i hi' (by omega)
    rw [hc]at this
    simp only [ltN]at this
    omega
   rotate_right 1
   all_goals
    have hord:0<i→(l.getD (i - 1) default).id<c.id:=fun h0=>by
     first
     |(exfalso;omega)
     |(rw [i64_in _ (by omega),show((i:Int) - 1).toNat=i - 1 by omega]at h4;omega)
    refine SWp.loop (ι:={k:Nat // k≤c.holds.length∧∀j,j<k→(c.holds.getD j default).id∉qad (l.take i)}) (fun k=>⟨[(0, .sl (chs l)),(3, .int .i64 i),(12, .sl (chs l)),(13, .int .i64 l.length),(14, .int .i64 i),(38, .sl (hds c.holds)),(39, .int .i64 c.holds.length),(40, .int .i64 k.1)],[],1⟩) (fun k=>c.holds.length - k.1) ⟨0,by simp⟩ ?_ ?_
    ·simp [go_sem]
    ·rintro⟨k,hk,hin⟩
     refine qa ql.toS gbC _ _ _ rfl ?_
     simp -implicitDefEqProofs only [cdA,go_sem,reduceIte,reduceCtorEq,Nat.reduceEqDiff,Nat.reduceAdd,Nat.reduceLeDiff,Nat.reduceSub,Nat.reduceMul,Nat.reduceLT,Nat.reduceShiftRight,Nat.reduceMod,Int.reduceLE,Int.reduceLT,Int.reduceToNat,List.cons.injEq,cdB]
     refine⟨fun h5=>⟨by omega, ?_⟩,fun h5=> ?_⟩
     ·refine ud.run gbJ ql ja (by kernel_rfl) (by kernel_rfl) ?_
      simp -implicitDefEqProofs only [cdA,go_sem,reduceIte,reduceCtorEq,Nat.reduceEqDiff,Nat.reduceAdd,Nat.reduceLeDiff,Nat.reduceSub,Nat.reduceMul,Nat.reduceLT,Nat.reduceShiftRight,Nat.reduceMod,Int.reduceLE,Int.reduceLT,Int.reduceToNat,List.cons.injEq,cdB]
      rw [vbv]
      refine⟨by omega,fun h6=>hbad fun h=> ?_,fun h6=>⟨⟨k+1,by omega,fun j hj=> ?_⟩,by dsimp only;omega,i64_in _ (by omega)⟩⟩
      ·have:=vbh (i:=i+1) h.2.2.2.1
       rw [hks,hsub]at this
       exact this.2.2 _ (List.mem_map.2 ⟨_,ua.2 ⟨k,by omega,rfl⟩,rfl⟩) h6
      ·by_cases hji:j=k
       ·subst hji;exact h6
       ·exact hin j (by omega)
     ·refine⟨⟨i+1,hi',fun d hd=>((htk d).1 hd).elim (hall d) (fun e=>e▸hc0),fun j hj h0=> ?_, ?_⟩,by dsimp only;omega,i64_in _ (by omega)⟩
      ·by_cases hji:j=i
       ·subst hji;rw [hc];exact hord h0
       ·exact ho j (by omega) h0
      ·rw [hks,hsub]
       refine⟨hn,hcn,fun x hx=> ?_⟩
       obtain⟨y,hy,rfl⟩:=List.mem_map.1 hx
       obtain⟨j,hj,rfl⟩:=ua.1 hy
       exact hin j (by omega)
  ·have hi':i=l.length:=by omega
   subst hi'
   rw [List.take_length]at hall hn
   refine⟨fun h2=> ?_,fun h2=>hbad fun h=> ?_⟩
   ·have h3:x5 l≤MM:=by
     unfold kct at h2;split at h2
     ·assumption
     ·cases h2
    rw [qbw,if_pos ⟨by omega,hall,fun j hj h0=>ho j hj h0,hn,h3⟩]
   ·rw [kct,if_pos h.2.2.2.2]at h2;cases h2
def zA:List D→Option (Prop×D×Fr)
 |[.c (.sl z88)]=>some (z88=chs (ug z88),wah (ug z88),[])
 |_=>none
attribute [go_sem] zA
theorem gad:∀rs p r fr,zA rs=some (p,r,fr)→p→uc Tryz.prog 167 rs r fr:=by
 intro rs p r fr h hp
 unfold zA at h
 split at h<;>cases h
 have hc0:=hp
 rename_i z88
 obtain⟨z88,rfl⟩:∃m,z88=chs m:=⟨_,hc0⟩
 simp only [yb]
 exact yaN z88
@[go_sem] def xbk (l:List Ch):D:= .tup [.c (.map [.int .u64] (kvF .u64 .i64 (gaO l).1)), .int .i64 (gaO l).2]
@[go_sem] abbrev jdT:FuncId:=219
@[go_sem] def qb0:Tab:=[(248,jao),(198,gq),(249,gN)]
theorem vF:za Tryz.prog qb0:=(za.cons jba (za.cons js (za.cons gaE za.nil)))
set_option maxRecDepth 8000 in
set_option maxHeartbeats 1000000 in
theorem kbC (l:List Ch):va Tryz.prog 219 [.sl (chs l)] (xbk l):=by
 refine .of (gdA vF (Nat.le_of_ble_eq_true rfl) ?_)
 simp -implicitDefEqProofs only [cdA,go_sem,Go.Proofs.Tryz.f219,reduceIte,reduceCtorEq,Nat.reduceEqDiff,Nat.reduceAdd,Nat.reduceLeDiff,Nat.reduceSub,Nat.reduceMul,Nat.reduceLT,Nat.reduceShiftRight,Nat.reduceMod,Int.reduceLE,Int.reduceLT,Int.reduceToNat,List.cons.injEq,cdB]
 have hbad:¬vbw l→kvF .u64 .i64 (gaO l).1=[]∧1=(gaO l).2:=fun h=>by rw [gaO,if_neg h];exact⟨rfl,rfl⟩
 refine fun hl=>⟨fun h1=>hbad fun h=> ?_,fun h1 _=> ?_⟩
 ·have:=h.1;omega
 refine SWp.loop (ι:={i:Nat // i≤l.length∧(∀c∈l.take i,uax c)∧(∀j,j<i→0<j→(l.getD (j - 1) default).id<(l.getD j default).id)∧(qad (l.take i)).Nodup∧x5 (l.take i)≤MM}) (fun i=>⟨[(0, .sl (chs l)),(4, .mp 0),(5, .int .u64 (x5 (l.take i.1):Nat)),(18, .sl (chs l)),(19, .int .i64 l.length),(20, .int .i64 i.1)],[(0, .map [.int .u64] (kvN .u64 .i64 (hm 0 (l.take i.1))))],1⟩) (fun i=>l.length - i.1) ⟨0,by simp [qad,x5]⟩ ?_ ?_
 ·simp [go_sem,x5];rfl
 ·rintro⟨i,hi,hall,ho,hn,hs⟩
  refine qa vF.toS zbD _ _ _ rfl ?_
  simp -implicitDefEqProofs only [cdA,go_sem,reduceIte,reduceCtorEq,Nat.reduceEqDiff,Nat.reduceAdd,Nat.reduceLeDiff,Nat.reduceSub,Nat.reduceMul,Nat.reduceLT,Nat.reduceShiftRight,Nat.reduceMod,Int.reduceLE,Int.reduceLT,Int.reduceToNat,List.cons.injEq,cdB]
  refine⟨fun h=>⟨by omega, ?_⟩,fun h=> ?_⟩
  ·refine ud.run jcd vF ja (by kernel_rfl) (by kernel_rfl) ?_
   simp -implicitDefEqProofs only [cdA,go_sem,reduceIte,reduceCtorEq,Nat.reduceEqDiff,Nat.reduceAdd,Nat.reduceLeDiff,Nat.reduceSub,Nat.reduceMul,Nat.reduceLT,Nat.reduceShiftRight,Nat.reduceMod,Int.reduceLE,Int.reduceLT,Int.reduceToNat,List.cons.injEq,cdB]
   have hi':i<l.length:=by omega
   have hmem:l.getD i default∈l:=ua.2 ⟨i,hi',rfl⟩
   have hsub:∀{a b:List Nat},(a++b).Nodup↔a.Nodup∧b.Nodup∧∀x∈b,x∉a:=fun{a b}=>by
    rw [List.nodup_append]
    exact and_congr_right fun _=>and_congr_right fun _=>⟨fun h x hb ha=>h x ha x hb rfl,fun h x ha y hb e=>h y hb (e▸ha)⟩
   have hks:=gau hi'
   have hts:=qaI hi'
   have hmsu:=gbY hi'
   have htle:=vbu (l:=l) (i:=i+1)
   have htk:∀c,c∈l.take (i+1)↔c∈l.take i∨c=l.getD i default:=fun c=>by rw [take_succ hi'];simp
   refine⟨fun h2=> ?_,fun h2=>hbad fun h=>h2 (by rw [gi,if_pos (h.2.1 _ hmem)])⟩
   have hc0:uax (l.getD i default):=wbt.1 h2
   have hcn:=jbl hc0
   have hA:=qbd (l.getD i default)
   change x5 (l.take (i+1))=x5 (l.take i)+(gi (l.getD i default)).2.1 at hts
   change (gi (l.getD i default)).2.1≤MM at hA
   have hadd:¬(yS [x5 (l.take i),(gi (l.getD i default)).2.1]).2=0→¬vbw l:=fun h3 h=>h3 (qq.2 (by
    have:=h.2.2.2.2
    simp only [List.mem_cons,List.not_mem_nil,or_false,forall_eq_or_imp,forall_eq,List.sum_cons,List.sum_nil]
    unfold MM at*
    omega))
   generalize hc:l.getD i default=c at*
   refine⟨fun h3=>⟨?_,fun h4=>hbad fun h=> ?_,fun h4=>⟨fun h5 _=> ?_,fun h5=>hbad (hadd h5)⟩⟩,fun h3=>⟨fun h5 _=> ?_,fun h5=>hbad (hadd h5)⟩⟩
   ·rw [i64_in _ (by omega)];omega
   ·rw [i64_in _ (by omega),show((i:Int) - 1).toNat=i - 1 by omega]at h4
    have:=h.2.2.1 i hi' (by omega)
    rw [hc]at this
    simp only [ltN]at this
    have:=vr (x:=((l.getD (i - 1) default).id:Int)) (y:=c.id)
    omega
   all_goals
    have hord:0<i→(l.getD (i - 1) default).id<c.id:=fun h0=>by
     first
     |(exfalso;omega)
     |(rw [i64_in _ (by omega),show((i:Int) - 1).toNat=i - 1 by omega]at h4
       have:=vr (x:=((l.getD (i - 1) default).id:Int)) (y:=c.id)
       omega)
    have hsum:=xU h5
    have hsum2:=(qq.1 h5).2
    simp only [List.sum_cons,List.sum_nil,Nat.add_zero]at hsum hsum2
    rw [hsum]
    refine SWp.loop (ι:={k:Nat // k≤c.holds.length∧∀j,j<k→(c.holds.getD j default).id∉qad (l.take i)}) (fun k=>⟨[(0, .sl (chs l)),(4, .mp 0),(5, .int .u64 ((x5 (l.take i)+(gi c).2.1:Nat):Int)),(6, .int .i64 i),(18, .sl (chs l)),(19, .int .i64 l.length),(20, .int .i64 i),(57, .sl (hds c.holds)),(58, .int .i64 c.holds.length),(59, .int .i64 k.1)],[(0, .map [.int .u64] (kvN .u64 .i64 (hm 0 (l.take i)++(c.holds.take k.1).map fun x=>(x.id,(i:Int)))))],3⟩) (fun k=>c.holds.length - k.1) ⟨0,by simp⟩ ?_ ?_
    ·simp [go_sem]
    ·rintro⟨k,hk,hin⟩
     refine qa vF.toS zbD _ _ _ rfl ?_
     simp -implicitDefEqProofs only [cdA,go_sem,reduceIte,reduceCtorEq,Nat.reduceEqDiff,Nat.reduceAdd,Nat.reduceLeDiff,Nat.reduceSub,Nat.reduceMul,Nat.reduceLT,Nat.reduceShiftRight,Nat.reduceMod,Int.reduceLE,Int.reduceLT,Int.reduceToNat,List.cons.injEq,cdB]
     have hkeys:∀m,m≤c.holds.length→(hm 0 (l.take i)++(c.holds.take m).map fun x=>(x.id,(i:Int))).map (·.1)=qad (l.take i)++(c.holds.take m).map Hd.id:=fun m hm=>by
      rw [List.map_append,ubh,List.map_map];rfl
     refine⟨fun h6=>⟨by omega,fun a ha=>hbad fun h=> ?_,fun ha=> ?_⟩,fun h6=> ?_⟩
     ·have hk':k<c.holds.length:=by omega
      have h7:¬nlk (c.holds.getD k default).id (hm 0 (l.take i)++(c.holds.take k).map fun x=>(x.id,(i:Int)))=none:=by rw [ha];simp
      rw [jan,hkeys k hk,Classical.not_not,List.mem_append]at h7
      rcases h7 with h7|h7
      ·have:=vbh (i:=i+1) h.2.2.2.1
       rw [hks,hsub]at this
       exact this.2.2 _ (List.mem_map.2 ⟨_,ua.2 ⟨k,hk',rfl⟩,rfl⟩) h7
      ·have h8:(c.holds.take (k+1)).map Hd.id=(c.holds.take k).map Hd.id++[(c.holds.getD k default).id]:=by rw [take_succ hk'];simp
       have h9:((c.holds.take (k+1)).map Hd.id).Nodup:=by
        rw [List.map_take];exact hcn.sublist (List.take_sublist _ _)
       rw [h8,hsub]at h9
       exact h9.2.2 _ (by simp) h7
     ·have hk':k<c.holds.length:=by omega
      have h7:=jan.1 ha
      rw [van h7]
      rw [hkeys k hk,List.mem_append,not_or]at h7
      refine⟨⟨k+1,hk',fun j hj=> ?_⟩,by dsimp only;omega,i64_in _ (by omega), ?_⟩
      ·by_cases hji:j=k
       ·subst hji;exact h7.1
       ·exact hin j (by omega)
      ·dsimp only
       rw [take_succ hk',List.map_append,←List.append_assoc];rfl
     ·have hk':k=c.holds.length:=by omega
      subst hk'
      refine⟨⟨i+1,hi',fun d hd=>((htk d).1 hd).elim (hall d) (fun e=>e▸hc0),fun j hj h0=> ?_, ?_,by rw [hts];exact hsum2⟩,by dsimp only;omega,⟨by dsimp only;rw [hts];omega,i64_in _ (by omega)⟩, ?_⟩
      ·by_cases hji:j=i
       ·subst hji;rw [hc];exact hord h0
       ·exact ho j (by omega) h0
      ·rw [hks,hsub]
       refine⟨hn,hcn,fun x hx=> ?_⟩
       obtain⟨y,hy,rfl⟩:=List.mem_map.1 hx
       obtain⟨j,hj,rfl⟩:=ua.1 hy
       exact hin j (by omega)
      ·dsimp only
       rw [List.take_length,hmsu]
  ·have hi':i=l.length:=by omega
   subst hi'
   rw [List.take_length]at hall hn hs⊢
   rw [gaO,if_pos ⟨by omega,hall,fun j hj h0=>ho j hj h0,hn,hs⟩]
   exact⟨⟨_,_,rfl,v8, .refl _⟩,rfl⟩
def qZ:List D→Option (Prop×D×Fr)
 |[.c (.sl z89)]=>some (z89=chs (ug z89),xbk (ug z89),[])
 |_=>none
attribute [go_sem] qZ
theorem vaQ:∀rs p r fr,qZ rs=some (p,r,fr)→p→uc Tryz.prog 219 rs r fr:=by
 intro rs p r fr h hp
 unfold qZ at h
 split at h<;>cases h
 have hc0:=hp
 rename_i z89
 obtain⟨z89,rfl⟩:∃m,z89=chs m:=⟨_,hc0⟩
 simp only [yb]
 exact kbC z89
@[go_sem] def waV (l:List Ch):D:= .int .i64 (qbw l)
@[go_sem] abbrev zdc:FuncId:=159
@[go_sem] def zbC:Tab:=[(219,qZ)]
theorem uaL:za Tryz.prog zbC:=(za.cons vaQ za.nil)
set_option maxRecDepth 8000 in
set_option maxHeartbeats 1000000 in
theorem vbj (l:List Ch):va Tryz.prog 159 [.sl (chs l)] (waV l):=by
 refine .of (gdx uaL (Nat.le_of_ble_eq_true rfl) ?_)
 simp -implicitDefEqProofs only [cdA,go_sem,Go.Proofs.Tryz.f159,reduceIte,reduceCtorEq,Nat.reduceEqDiff,Nat.reduceAdd,Nat.reduceLeDiff,Nat.reduceSub,Nat.reduceMul,Nat.reduceLT,Nat.reduceShiftRight,Nat.reduceMod,Int.reduceLE,Int.reduceLT,Int.reduceToNat,List.cons.injEq,cdB]
 rw [gaO,qbw];split<;>rfl
def uN:List D→Option (Prop×D×Fr)
 |[.c (.sl z90)]=>some (z90=chs (ug z90),waV (ug z90),[])
 |_=>none
attribute [go_sem] uN
theorem uaE:∀rs p r fr,uN rs=some (p,r,fr)→p→uc Tryz.prog 159 rs r fr:=by
 intro rs p r fr h hp
 unfold uN at h
 split at h<;>cases h
 have hc0:=hp
 rename_i z90
 obtain⟨z90,rfl⟩:∃m,z90=chs m:=⟨_,hc0⟩
 simp only [yb]
 exact vbj z90
end Dm
namespace Dm
open Go Go.Proofs Go.IntWalk
structure Ky where
 k:Nat
 print:List UInt8
 reply:List UInt8
 till:Nat
deriving DecidableEq,Inhabited
@[go_sem] def Ky.enc (e:Ky):List C:=[.int .u64 (e.k:Int), .sl (u8s e.print), .sl (u8s e.reply), .int .u64 (e.till:Int)]
def Ky.dec:List C→Ky
 |[.int .u64 z2, .sl z3, .sl z4, .int .u64 z5]=>(⟨z2.toNat,(ku z3),(ku z4),z5.toNat⟩:Ky)
 |_=>default
def kys (l:List Ky):List (List C):=l.map Ky.enc
def yo (l:List (List C)):List Ky:=l.map Ky.dec
@[simp,go_sem] theorem jcn (l:List Ky):(kys l).length=l.length:=by simp [kys]
@[go_sem] theorem kdP (l:List Ky) (i:Nat):(kys l).getD i [.int .u64 0, .sl [], .sl [], .int .u64 0]=(l.getD i default).enc:=by
 simp only [kys,List.getD_eq_getElem?_getD,List.getElem?_map]
 cases l[i]? <;>rfl
@[go_sem] theorem vc9 (l:List Ky):uf 4 (kys l)=True:=by
 simp [uf,kys,Ky.enc]
theorem Ky.yd (e:Ky):Ky.dec e.enc=e:=by
 simp [Ky.enc,Ky.dec,zg]
@[go_sem] theorem ze (l:List Ky):yo (kys l)=l:=by
 simp only [yo,kys,List.map_map]
 exact List.map_id'' (fun e=>Ky.yd e) l
@[go_sem] theorem jdP (a b:List Ky):kys a++kys b=kys (a++b):=by simp [kys]
@[go_sem] theorem jc9 (l:List Ky) (k:Nat):(kys l).drop k=kys (l.drop k):=by simp [kys]
@[go_sem] theorem kc9 (l:List Ky) (k:Nat):(kys l).take k=kys (l.take k):=by simp [kys]
@[go_sem] theorem vdP (z6:Int) (z7:List UInt8) (z8:List UInt8) (z9:Int) (hz6:0≤z6) (hz9:0≤z9):[[C.int .u64 z6,C.sl (u8s z7),C.sl (u8s z8),C.int .u64 z9]]=kys [⟨z6.toNat,z7,z8,z9.toNat⟩]:=by simp [kys,Ky.enc,Int.toNat_of_nonneg hz6,Int.toNat_of_nonneg hz9]
@[go_sem] theorem wdP (l:List Ky) (i:Nat) (z6:Int) (z7:List UInt8) (z8:List UInt8) (z9:Int) (hz6:0≤z6) (hz9:0≤z9):(kys l).set i [C.int .u64 z6,C.sl (u8s z7),C.sl (u8s z8),C.int .u64 z9]=kys (l.set i ⟨z6.toNat,z7,z8,z9.toNat⟩):=by simp [kys,List.map_set,Ky.enc,Int.toNat_of_nonneg hz6,Int.toNat_of_nonneg hz9]
@[go_sem] theorem qc9 (l:List Ky) (z6:Int) (z7:List UInt8) (z8:List UInt8) (z9:Int) (hz6:0≤z6) (hz9:0≤z9):[C.int .u64 z6,C.sl (u8s z7),C.sl (u8s z8),C.int .u64 z9]::kys l=kys (⟨z6.toNat,z7,z8,z9.toNat⟩::l):=by simp [kys,Ky.enc,Int.toNat_of_nonneg hz6,Int.toNat_of_nonneg hz9]
@[go_sem] theorem Ky.eta {e:Ky}:(⟨e.k,e.print,e.reply,e.till⟩:Ky)=e:=rfl
@[go_sem] def yav (x:Ky) (k:Nat):D:= .int .i64 (zad x.k k)
@[go_sem] abbrev gcJ:FuncId:=165
@[go_sem] def xbi:Tab:=[(225,xJ)]
theorem zav:za Tryz.prog xbi:=(za.cons wq za.nil)
set_option maxRecDepth 8000 in
set_option maxHeartbeats 1000000 in
theorem wa4 (x:Ky) (k:Nat):va Tryz.prog 165 [.agg [.c (.int .u64 (x.k:Int)), .sl (u8s x.print), .sl (u8s x.reply), .c (.int .u64 (x.till:Int))], .c (.int .u64 (k:Int))] (yav x k):=by
 refine .of (qdy zav (Nat.le_of_ble_eq_true rfl) ?_)
 simp -implicitDefEqProofs only [cdA,go_sem,Go.Proofs.Tryz.f165,reduceIte,reduceCtorEq,Nat.reduceEqDiff,Nat.reduceAdd,Nat.reduceLeDiff,Nat.reduceSub,Nat.reduceMul,Nat.reduceLT,Nat.reduceShiftRight,Nat.reduceMod,Int.reduceLE,Int.reduceLT,Int.reduceToNat,List.cons.injEq,cdB]
def xG:List D→Option (Prop×D×Fr)
 |[.agg [.c (.int .u64 z11), .c (.sl z12), .c (.sl z13), .c (.int .u64 z14)], .c (.int .u64 z15)]=>some (z11=(z11.toNat:Int)∧z12=u8s (ku z12)∧z13=u8s (ku z13)∧z14=(z14.toNat:Int)∧z15=(z15.toNat:Int),yav (⟨z11.toNat,(ku z12),(ku z13),z14.toNat⟩:Ky) z15.toNat,[])
 |_=>none
attribute [go_sem] xG
theorem gao:∀rs p r fr,xG rs=some (p,r,fr)→p→uc Tryz.prog 165 rs r fr:=by
 intro rs p r fr h hp
 unfold xG at h
 split at h<;>cases h
 obtain⟨hc0,hc1,hc2,hc3,hc4⟩:=hp
 rename_i z11 z12 z13 z14 z15
 obtain⟨z11,rfl⟩:∃m:Nat,z11=m:=⟨_,hc0⟩
 obtain⟨z12,rfl⟩:∃m,z12=u8s m:=⟨_,hc1⟩
 obtain⟨z13,rfl⟩:∃m,z13=u8s m:=⟨_,hc2⟩
 obtain⟨z14,rfl⟩:∃m:Nat,z14=m:=⟨_,hc3⟩
 obtain⟨z15,rfl⟩:∃m:Nat,z15=m:=⟨_,hc4⟩
 simp only [Int.toNat_natCast,zg]
 exact wa4 ⟨z11,z12,z13,z14⟩ z15
@[go_sem] def qav (x:Ky):D:= .bool (decide (x.print.length≤4096∧x.reply.length≤4096))
@[go_sem] abbrev bcJ:FuncId:=164
@[go_sem] def qbi:Tab:=[]
theorem xav:za Tryz.prog qbi:=za.nil
set_option maxRecDepth 8000 in
set_option maxHeartbeats 1000000 in
theorem ua4 (x:Ky):va Tryz.prog 164 [.agg [.c (.int .u64 (x.k:Int)), .sl (u8s x.print), .sl (u8s x.reply), .c (.int .u64 (x.till:Int))]] (qav x):=by
 refine .of (xdy xav (Nat.le_of_ble_eq_true rfl) ?_)
 simp -implicitDefEqProofs only [cdA,go_sem,Go.Proofs.Tryz.f164,reduceIte,reduceCtorEq,Nat.reduceEqDiff,Nat.reduceAdd,Nat.reduceLeDiff,Nat.reduceSub,Nat.reduceMul,Nat.reduceLT,Nat.reduceShiftRight,Nat.reduceMod,Int.reduceLE,Int.reduceLT,Int.reduceToNat,List.cons.injEq,cdB]
 intro _ _
 rw [decide_eq_decide];omega
def qG:List D→Option (Prop×D×Fr)
 |[.agg [.c (.int .u64 z17), .c (.sl z18), .c (.sl z19), .c (.int .u64 z20)]]=>some (z17=(z17.toNat:Int)∧z18=u8s (ku z18)∧z19=u8s (ku z19)∧z20=(z20.toNat:Int),qav (⟨z17.toNat,(ku z18),(ku z19),z20.toNat⟩:Ky),[])
 |_=>none
attribute [go_sem] qG
theorem bao:∀rs p r fr,qG rs=some (p,r,fr)→p→uc Tryz.prog 164 rs r fr:=by
 intro rs p r fr h hp
 unfold qG at h
 split at h<;>cases h
 obtain⟨hc0,hc1,hc2,hc3⟩:=hp
 rename_i z17 z18 z19 z20
 obtain⟨z17,rfl⟩:∃m:Nat,z17=m:=⟨_,hc0⟩
 obtain⟨z18,rfl⟩:∃m,z18=u8s m:=⟨_,hc1⟩
 obtain⟨z19,rfl⟩:∃m,z19=u8s m:=⟨_,hc2⟩
 obtain⟨z20,rfl⟩:∃m:Nat,z20=m:=⟨_,hc3⟩
 simp only [Int.toNat_natCast,zg]
 exact ua4 ⟨z17,z18,z19,z20⟩
def kcO (l:List Ky):Prop:=l.length≤128∧(∀x∈l,x.print.length≤4096∧x.reply.length≤4096)∧Srt.Chn Ky.k ltN l
instance (l:List Ky):Decidable (Srt.Chn Ky.k ltN l):=by unfold Srt.Chn;infer_instance
instance (l:List Ky):Decidable (kcO l):=by unfold kcO;infer_instance
def bbe (l:List Ky):Int:=if kcO l then 0 else 1
@[go_sem] def bau (l:List Ky):D:= .int .i64 (bbe l)
@[go_sem] abbrev ucJ:FuncId:=84
@[go_sem] def ybi:Tab:=[(165,xG),(164,qG)]
theorem qC:za Tryz.prog ybi:=(za.cons gao (za.cons bao za.nil))
set_option maxRecDepth 8000 in
set_option maxHeartbeats 1000000 in
theorem va4 (l:List Ky):va Tryz.prog 84 [.sl (kys l)] (bau l):=by
 refine .of (jev qC (Nat.le_of_ble_eq_true rfl) ?_)
 simp -implicitDefEqProofs only [cdA,go_sem,Go.Proofs.Tryz.f84,reduceIte,reduceCtorEq,Nat.reduceEqDiff,Nat.reduceAdd,Nat.reduceLeDiff,Nat.reduceSub,Nat.reduceMul,Nat.reduceLT,Nat.reduceShiftRight,Nat.reduceMod,Int.reduceLE,Int.reduceLT,Int.reduceToNat,List.cons.injEq,cdB]
 have hbad:¬kcO l→1=bbe l:=fun h=>by rw [bbe,if_neg h]
 refine fun _=>⟨fun h1=>hbad fun h=>by have:=h.1;omega,fun h1 _=> ?_⟩
 refine SWp.loop (ι:={i:Nat // i≤l.length∧∀j,j<i→((l.getD j default).print.length≤4096∧(l.getD j default).reply.length≤4096)∧(0<j→(l.getD (j - 1) default).k<(l.getD j default).k)}) (fun i=>⟨[(0, .sl (kys l)),(8, .sl (kys l)),(9, .int .i64 l.length),(10, .int .i64 i.1)],[],0⟩) (fun i=>l.length - i.1) ⟨0,by simp⟩ ?_ ?_
 ·simp [go_sem]
 ·rintro⟨i,hi,hall⟩
  refine qa qC.toS gdQ _ _ _ rfl ?_
  simp -implicitDefEqProofs only [cdA,go_sem,reduceIte,reduceCtorEq,Nat.reduceEqDiff,Nat.reduceAdd,Nat.reduceLeDiff,Nat.reduceSub,Nat.reduceMul,Nat.reduceLT,Nat.reduceShiftRight,Nat.reduceMod,Int.reduceLE,Int.reduceLT,Int.reduceToNat,List.cons.injEq,cdB]
  refine⟨fun h2=>⟨h2, ?_⟩,fun h2=> ?_⟩
  ·refine ud.run kcU qC ja (by kernel_rfl) (by kernel_rfl) ?_
   simp -implicitDefEqProofs only [cdA,go_sem,reduceIte,reduceCtorEq,Nat.reduceEqDiff,Nat.reduceAdd,Nat.reduceLeDiff,Nat.reduceSub,Nat.reduceMul,Nat.reduceLT,Nat.reduceShiftRight,Nat.reduceMod,Int.reduceLE,Int.reduceLT,Int.reduceToNat,List.cons.injEq,cdB]
   have hi':i<l.length:=by omega
   have hnext:((l.getD i default).print.length≤4096∧(l.getD i default).reply.length≤4096)→(0<i→(l.getD (i - 1) default).k<(l.getD i default).k)→∃i_1:{i:Nat // i≤l.length∧∀j,j<i→((l.getD j default).print.length≤4096∧(l.getD j default).reply.length≤4096)∧(0<j→(l.getD (j - 1) default).k<(l.getD j default).k)},l.length - i_1.val<l.length - i∧IntKind.i64.wrap ((i:Int)+1)=i_1.val:=fun h3 h4=>⟨⟨i+1,hi',fun j hj=>by
    by_cases hji:j=i
    ·subst hji;exact⟨h3,h4⟩
    ·exact hall j (by omega)⟩,by dsimp only;omega,i64_in _ (by omega)⟩
   refine⟨fun h3=>⟨fun h4=> ?_,fun h4=>hnext h3 fun h=>absurd h (by omega)⟩,fun h3=>hbad fun h=>h3 (h.2.1 _ (ua.2 ⟨i,hi',rfl⟩))⟩
   rw [i64_in _ (by omega),show((i:Int) - 1).toNat=i - 1 by omega]
   have hc:∀a b:Nat,0≤zad a b↔¬a<b:=fun a b=>by
    have:=vr (x:=a) (y:=b);omega
   rw [hc]
   exact⟨by omega,fun h5=>hbad fun h=>h5 (h.2.2 i hi' (by omega)),fun h5=>hnext h3 fun _=>by omega⟩
  ·have hi':i=l.length:=by omega
   subst hi'
   rw [bbe,if_pos ⟨by omega,fun x hx=>by obtain⟨j,hj,rfl⟩:=ua.1 hx;exact(hall j hj).1,fun j hj h0=>(hall j hj).2 h0⟩]
def yG:List D→Option (Prop×D×Fr)
 |[.c (.sl z21)]=>some (z21=kys (yo z21),bau (yo z21),[])
 |_=>none
attribute [go_sem] yG
theorem uao:∀rs p r fr,yG rs=some (p,r,fr)→p→uc Tryz.prog 84 rs r fr:=by
 intro rs p r fr h hp
 unfold yG at h
 split at h<;>cases h
 have hc0:=hp
 rename_i z21
 obtain⟨z21,rfl⟩:∃m,z21=kys m:=⟨_,hc0⟩
 simp only [ze]
 exact va4 z21
end Dm
namespace Dm
open Go Go.Proofs Go.IntWalk
structure It where
 hash:Nat
 n:Nat
deriving DecidableEq,Inhabited
@[go_sem] def It.enc (e:It):List C:=[.int .u64 (e.hash:Int), .int .u64 (e.n:Int)]
def It.dec:List C→It
 |[.int .u64 z2, .int .u64 z3]=>(⟨z2.toNat,z3.toNat⟩:It)
 |_=>default
def its (l:List It):List (List C):=l.map It.enc
def y7 (l:List (List C)):List It:=l.map It.dec
@[simp,go_sem] theorem bcm (l:List It):(its l).length=l.length:=by simp [its]
@[go_sem] theorem xdN (l:List It) (i:Nat):(its l).getD i [.int .u64 0, .int .u64 0]=(l.getD i default).enc:=by
 simp only [its,List.getD_eq_getElem?_getD,List.getElem?_map]
 cases l[i]? <;>rfl
@[go_sem] theorem bc7 (l:List It):uf 2 (its l)=True:=by
 simp [uf,its,It.enc]
theorem It.yd (e:It):It.dec e.enc=e:=by
 simp [It.enc,It.dec]
@[go_sem] theorem uo (l:List It):y7 (its l)=l:=by
 simp only [y7,its,List.map_map]
 exact List.map_id'' (fun e=>It.yd e) l
@[go_sem] theorem ydN (a b:List It):its a++its b=its (a++b):=by simp [its]
@[go_sem] theorem wc7 (l:List It) (k:Nat):(its l).drop k=its (l.drop k):=by simp [its]
@[go_sem] theorem gc7 (l:List It) (k:Nat):(its l).take k=its (l.take k):=by simp [its]
@[go_sem] theorem qdN (z4:Int) (z5:Int) (hz4:0≤z4) (hz5:0≤z5):[[C.int .u64 z4,C.int .u64 z5]]=its [⟨z4.toNat,z5.toNat⟩]:=by simp [its,It.enc,Int.toNat_of_nonneg hz4,Int.toNat_of_nonneg hz5]
@[go_sem] theorem jdN (l:List It) (i:Nat) (z4:Int) (z5:Int) (hz4:0≤z4) (hz5:0≤z5):(its l).set i [C.int .u64 z4,C.int .u64 z5]=its (l.set i ⟨z4.toNat,z5.toNat⟩):=by simp [its,List.map_set,It.enc,Int.toNat_of_nonneg hz4,Int.toNat_of_nonneg hz5]
@[go_sem] theorem vc7 (l:List It) (z4:Int) (z5:Int) (hz4:0≤z4) (hz5:0≤z5):[C.int .u64 z4,C.int .u64 z5]::its l=its (⟨z4.toNat,z5.toNat⟩::l):=by simp [its,It.enc,Int.toNat_of_nonneg hz4,Int.toNat_of_nonneg hz5]
@[go_sem] theorem uc7 (l:List It):kS (its l)=True:=eq_true fun x hx c hc=>by
 obtain⟨e,_,rfl⟩:=List.mem_map.1 hx
 simp only [It.enc,List.mem_cons,List.not_mem_nil,or_false]at hc
 rcases hc with rfl|rfl<;>rfl
@[go_sem] theorem It.eta {e:It}:(⟨e.hash,e.n⟩:It)=e:=rfl
@[go_sem] theorem It.eqD {a b:It}:eqD Tryz.prog 250 [D.c (.int .u64 (a.hash:Int)),D.c (.int .u64 (a.n:Int))] [D.c (.int .u64 (b.hash:Int)),D.c (.int .u64 (b.n:Int))]=some (decide (a=b)):=by
 cases a;cases b
 simp only [Dm.eqD,wbz,xo,eqC,List.getElem?_cons_zero,List.getElem?_cons_succ,if_true,Option.some.injEq,It.mk.injEq]
 rw [Bool.eq_iff_iff]
 simp [Int.ofNat_inj]
def gcp (x:It):Prop:=x.n≠0∧x.n≤MM
instance (x:It):Decidable (gcp x):=by unfold gcp;infer_instance
def gar (l:List It):Nat:=(l.map It.n).sum
def ubc (l:List It):Nat×Int:=if l.length≠0∧l.length≤16∧∀x∈l,gcp x then(if gar l≤MM then(gar l,0)else(0,8))else(0,1)
theorem jac {l:List It} {i:Nat} (h:i<l.length):gar (l.take (i+1))=gar (l.take i)+(l.getD i default).n:=by
 rw [take_succ h,gar,List.map_append,List.sum_append];simp [gar]
theorem vcb {l:List It} {i:Nat}:gar (l.take i)≤gar l:=by
 conv=>rhs;rw [←List.take_append_drop i l,gar,List.map_append,List.sum_append]
 exact Nat.le_add_right _ _
@[go_sem] def vbL (l:List It):D:= .tup [.int .u64 ((ubc l).1:Int), .int .i64 (ubc l).2]
@[go_sem] abbrev bei:FuncId:=121
@[go_sem] def ycy:Tab:=[(122,zf),(198,gq)]
theorem wu:za Tryz.prog ycy:=(za.cons ve (za.cons js za.nil))
set_option maxRecDepth 8000 in
set_option maxHeartbeats 1000000 in
theorem wbT (l:List It):va Tryz.prog 121 [.sl (its l)] (vbL l):=by
 refine .of (wdv wu (Nat.le_of_ble_eq_true rfl) ?_)
 simp -implicitDefEqProofs only [cdA,go_sem,Go.Proofs.Tryz.f121,reduceIte,reduceCtorEq,Nat.reduceEqDiff,Nat.reduceAdd,Nat.reduceLeDiff,Nat.reduceSub,Nat.reduceMul,Nat.reduceLT,Nat.reduceShiftRight,Nat.reduceMod,Int.reduceLE,Int.reduceLT,Int.reduceToNat,List.cons.injEq,cdB]
 have hbad:¬(l.length≠0∧l.length≤16∧∀x∈l,gcp x)→0=((ubc l).1:Int)∧1=(ubc l).2:=fun h=>by rw [ubc,if_neg h];exact⟨rfl,rfl⟩
 refine fun _=>⟨fun h1 _=>⟨fun h2=> ?_,fun h2=>hbad fun h=>by omega⟩,fun h1=>hbad fun h=>by omega⟩
 refine ydA wu (Nat.le_of_ble_eq_true rfl) ?_
 simp -implicitDefEqProofs only [cdA,go_sem,Go.Proofs.Tryz.f205,reduceIte,reduceCtorEq,Nat.reduceEqDiff,Nat.reduceAdd,Nat.reduceLeDiff,Nat.reduceSub,Nat.reduceMul,Nat.reduceLT,Nat.reduceShiftRight,Nat.reduceMod,Int.reduceLE,Int.reduceLT,Int.reduceToNat,List.cons.injEq,cdB]
 refine qdC wu (Nat.le_of_ble_eq_true rfl) ?_
 simp -implicitDefEqProofs only [cdA,go_sem,Go.Proofs.Tryz.f243,reduceIte,reduceCtorEq,Nat.reduceEqDiff,Nat.reduceAdd,Nat.reduceLeDiff,Nat.reduceSub,Nat.reduceMul,Nat.reduceLT,Nat.reduceShiftRight,Nat.reduceMod,Int.reduceLE,Int.reduceLT,Int.reduceToNat,List.cons.injEq,cdB]
 refine fun _=>SWp.loop (ι:={i:Nat // i≤l.length∧∀j,j<i→gcp (l.getD j default)}) (fun i=>⟨[(0, .sl (its l)),(1, .fn (.func 204) [] []),(7, .int .i64 l.length),(8, .int .i64 i.1)],[],0⟩) (fun i=>l.length - i.1) ⟨0,by simp⟩ ?_ ?_
 ·simp [go_sem]
 ·rintro⟨i,hi,hall⟩
  refine qa wu.toS ub3 _ _ _ rfl ?_
  simp -implicitDefEqProofs only [cdA,go_sem,reduceIte,reduceCtorEq,Nat.reduceEqDiff,Nat.reduceAdd,Nat.reduceLeDiff,Nat.reduceSub,Nat.reduceMul,Nat.reduceLT,Nat.reduceShiftRight,Nat.reduceMod,Int.reduceLE,Int.reduceLT,Int.reduceToNat,List.cons.injEq,cdB]
  refine⟨fun h4=>⟨by omega, ?_⟩,fun h4=> ?_⟩
  ·skip
   refine zdA wu (Nat.le_of_ble_eq_true rfl) ?_
   simp -implicitDefEqProofs only [cdA,go_sem,Go.Proofs.Tryz.f204,reduceIte,reduceCtorEq,Nat.reduceEqDiff,Nat.reduceAdd,Nat.reduceLeDiff,Nat.reduceSub,Nat.reduceMul,Nat.reduceLT,Nat.reduceShiftRight,Nat.reduceMod,Int.reduceLE,Int.reduceLT,Int.reduceToNat,List.cons.injEq,cdB]
   have hi':i<l.length:=by omega
   have hin:=ua.2 ⟨i,hi',rfl⟩
   rw [uI]
   refine⟨fun h5=>⟨fun h6=>⟨⟨i+1,by omega,fun j hj=> ?_⟩,by dsimp only;omega,i64_in _ (by omega)⟩,fun h6=>hbad fun h=>h6 (h.2.2 _ hin).2⟩,fun h5=>hbad fun h=>(h.2.2 _ hin).1 (by omega)⟩
   by_cases hji:j=i
   ·subst hji;exact⟨by omega,h6⟩
   ·exact hall j (by omega)
  ·have hi':i=l.length:=by omega
   subst hi'
   have hok:∀x∈l,gcp x:=fun x hx=>by obtain⟨j,hj,rfl⟩:=ua.1 hx;exact hall j hj
   have hsum:ubc l=if gar l≤MM then(gar l,0)else(0,8):=by rw [ubc,if_pos ⟨by omega,by omega,hok⟩]
   refine⟨fun h=>h.elim,fun _=>SWp.loop (ι:={i:Nat // i≤l.length∧gar (l.take i)≤MM}) (fun i=>⟨[(2, .int .u64 (gar (l.take i.1):Nat)),(20, .sl (its l)),(21, .int .i64 l.length),(22, .int .i64 i.1)],[],0⟩) (fun i=>l.length - i.1) ⟨0,by simp [gar]⟩ ?_ ?_⟩
   ·simp [go_sem,gar]
   ·rintro⟨i,hi,hs⟩
    refine qa wu.toS kb1 _ _ _ rfl ?_
    simp -implicitDefEqProofs only [cdA,go_sem,reduceIte,reduceCtorEq,Nat.reduceEqDiff,Nat.reduceAdd,Nat.reduceLeDiff,Nat.reduceSub,Nat.reduceMul,Nat.reduceLT,Nat.reduceShiftRight,Nat.reduceMod,Int.reduceLE,Int.reduceLT,Int.reduceToNat,List.cons.injEq,cdB]
    unfold MM at*
    refine⟨fun h5=>⟨by omega,fun h6=> ?_,fun h6=> ?_⟩,fun h5=> ?_⟩
    ·have hi':i<l.length:=by omega
     have h7:=xU h6
     have h8:=(qq.1 h6).2
     simp only [List.sum_cons,List.sum_nil,Nat.add_zero]at h7 h8
     refine⟨⟨i+1,hi',by rw [jac hi'];exact h8⟩,by dsimp only;omega, ?_,i64_in _ (by omega)⟩
     rw [h7];dsimp only;rw [jac hi']
    ·have hi':i<l.length:=by omega
     have hn:=(hok _ (ua.2 ⟨i,hi',rfl⟩)).2
     unfold MM at hn
     have hle:=vcb (l:=l) (i:=i+1)
     rw [jac hi']at hle
     have h7:yS [gar (l.take i),(l.getD i default).n]=(0,8):=by
      have hm:wL [gar (l.take i),(l.getD i default).n]=0:=by rw [udR,if_pos ⟨hs,hn⟩]
      have hns:¬[gar (l.take i),(l.getD i default).n].sum≤4611686018427387904:=fun h=>h6 (qq.2 ⟨fun x hx=>by
       simp only [List.mem_cons,List.not_mem_nil,or_false]at hx
       rcases hx with rfl|rfl
       ·exact hs
       ·exact hn,h⟩)
      rw [yS,if_pos hm,if_neg hns]
     have h8:¬gar l≤4611686018427387904:=fun h=>h6 (qq.2 ⟨fun x hx=>by
      simp only [List.mem_cons,List.not_mem_nil,or_false]at hx
      rcases hx with rfl|rfl
      ·exact hs
      ·exact hn,by simp only [List.sum_cons,List.sum_nil,Nat.add_zero];omega⟩)
     rw [h7,hsum,if_neg h8];exact⟨rfl,rfl⟩
    ·have hi':i=l.length:=by omega
     subst hi'
     rw [List.take_length]at hs⊢
     rw [hsum,if_pos hs];exact⟨rfl,rfl⟩
def vab:List D→Option (Prop×D×Fr)
 |[.c (.sl z6)]=>some (z6=its (y7 z6),vbL (y7 z6),[])
 |_=>none
attribute [go_sem] vab
theorem gaj:∀rs p r fr,vab rs=some (p,r,fr)→p→uc Tryz.prog 121 rs r fr:=by
 intro rs p r fr h hp
 unfold vab at h
 split at h<;>cases h
 have hc0:=hp
 rename_i z6
 obtain⟨z6,rfl⟩:∃m,z6=its m:=⟨_,hc0⟩
 simp only [uo]
 exact wbT z6
end Dm
namespace Dm
open Go Go.Proofs Go.IntWalk
def xu (m:Int):Int:=if 0<m∧m<11 then([0,71,17,79,3,2,2,0,6,4,32]:List Int).getD m.toNat 0 else 0
@[go_sem] def zaP (m:Int):D:= .tup [.int .i64 (xu m), .bool (decide (0<m∧m<11))]
@[go_sem] abbrev qdU:FuncId:=202
@[go_sem] def qca:Tab:=[]
theorem kT:za Tryz.prog qca:=za.nil
set_option maxRecDepth 8000 in
set_option maxHeartbeats 1000000 in
theorem bbH (m:Int):va Tryz.prog 202 [.c (.int .i64 m)] (zaP m):=by
 have hm:m≤0∨11≤m∨m=1∨m=2∨m=3∨m=4∨m=5∨m=6∨m=7∨m=8∨m=9∨m=10:=by omega
 unfold zaP xu
 refine .of ?_
 rcases hm with hm|hm|rfl|rfl|rfl|rfl|rfl|rfl|rfl|rfl|rfl|rfl
 ·skip
  refine wbS kT (Nat.le_of_ble_eq_true rfl) ?_
  simp -implicitDefEqProofs only [cdA,go_sem,Go.Proofs.Tryz.f202,reduceIte,reduceCtorEq,Nat.reduceEqDiff,Nat.reduceAdd,Nat.reduceLeDiff,Nat.reduceSub,Nat.reduceMul,Nat.reduceLT,Nat.reduceShiftRight,Nat.reduceMod,Int.reduceLE,Int.reduceLT,Int.reduceToNat,List.cons.injEq,cdB]
  exact⟨fun h=>absurd hm h,fun _=>⟨by rw [if_neg (by omega)],(decide_eq_false (by omega)).symm⟩⟩
 ·skip
  refine wbS kT (Nat.le_of_ble_eq_true rfl) ?_
  simp -implicitDefEqProofs only [cdA,go_sem,Go.Proofs.Tryz.f202,reduceIte,reduceCtorEq,Nat.reduceEqDiff,Nat.reduceAdd,Nat.reduceLeDiff,Nat.reduceSub,Nat.reduceMul,Nat.reduceLT,Nat.reduceShiftRight,Nat.reduceMod,Int.reduceLE,Int.reduceLT,Int.reduceToNat,List.cons.injEq,cdB]
  exact⟨fun _=>⟨fun _=>⟨by rw [if_neg (by omega)],(decide_eq_false (by omega)).symm⟩,fun h=>absurd hm h⟩,fun h=>by omega⟩
 all_goals
  refine wbS kT (Nat.le_of_ble_eq_true rfl) ?_
  simp -implicitDefEqProofs only [cdA,go_sem,Go.Proofs.Tryz.f202,List.drop_succ_cons,List.drop_zero,List.map_cons,List.map_nil,List.getElem?_cons_zero,List.drop_nil,reduceIte,reduceCtorEq,Nat.reduceEqDiff,Nat.reduceAdd,Nat.reduceLeDiff,Nat.reduceSub,Nat.reduceMul,Nat.reduceLT,Nat.reduceShiftRight,Nat.reduceMod,Int.reduceLE,Int.reduceLT,Int.reduceToNat,List.cons.injEq,cdB]
  exact⟨⟨False.elim,rfl⟩,False.elim⟩
def bZ:List D→Option (Prop×D×Fr)
 |[.c (.int .i64 z1)]=>some (True,zaP z1,[])
 |_=>none
attribute [go_sem] bZ
theorem xaR:∀rs p r fr,bZ rs=some (p,r,fr)→p→uc Tryz.prog 202 rs r fr:=by
 intro rs p r fr h hp
 unfold bZ at h
 split at h<;>cases h
 rename_i z1
 exact bbH z1
structure Rq where
 id:Nat
 method:Int
 key:Nat
 t:Tk
 a:Nat
 n:Nat
 till:Nat
 items:List It
 l:List Cv
deriving DecidableEq,Inhabited
@[go_sem] def Rq.enc (e:Rq):List C:=[.int .u64 (e.id:Int), .int .i64 e.method, .int .u64 (e.key:Int), .int .u64 (e.t.root:Int), .sl (cvs e.t.l), .int .i64 e.t.tag, .int .u64 (e.a:Int), .int .u64 (e.n:Int), .int .u64 (e.till:Int), .sl (its e.items), .sl (cvs e.l)]
def Rq.dec:List C→Rq
 |[.int .u64 z3, .int .i64 z4, .int .u64 z5, .int .u64 z7, .sl z8, .int .i64 z9, .int .u64 z10, .int .u64 z11, .int .u64 z12, .sl z13, .sl z14]=>(⟨z3.toNat,z4,z5.toNat,(⟨z7.toNat,(zj z8),z9⟩:Tk),z10.toNat,z11.toNat,z12.toNat,(y7 z13),(zj z14)⟩:Rq)
 |_=>default
def rqs (l:List Rq):List (List C):=l.map Rq.enc
def web (l:List (List C)):List Rq:=l.map Rq.dec
@[simp,go_sem] theorem bcs (l:List Rq):(rqs l).length=l.length:=by simp [rqs]
@[go_sem] theorem jdX (l:List Rq) (i:Nat):(rqs l).getD i [.int .u64 0, .int .i64 0, .int .u64 0, .int .u64 0, .sl [], .int .i64 0, .int .u64 0, .int .u64 0, .int .u64 0, .sl [], .sl []]=(l.getD i default).enc:=by
 simp only [rqs,List.getD_eq_getElem?_getD,List.getElem?_map]
 cases l[i]? <;>rfl
@[go_sem] theorem udi (l:List Rq):uf 11 (rqs l)=True:=by
 simp [uf,rqs,Rq.enc]
theorem Rq.yd (e:Rq):Rq.dec e.enc=e:=by
 simp [Rq.enc,Rq.dec,ye,uo]
@[go_sem] theorem qc3 (l:List Rq):web (rqs l)=l:=by
 simp only [web,rqs,List.map_map]
 exact List.map_id'' (fun e=>Rq.yd e) l
@[go_sem] theorem qdX (a b:List Rq):rqs a++rqs b=rqs (a++b):=by simp [rqs]
@[go_sem] theorem vdi (l:List Rq) (k:Nat):(rqs l).drop k=rqs (l.drop k):=by simp [rqs]
@[go_sem] theorem wdi (l:List Rq) (k:Nat):(rqs l).take k=rqs (l.take k):=by simp [rqs]
@[go_sem] theorem kdX (z15:Int) (z16:Int) (z17:Int) (z18:Int) (z19:List Cv) (z20:Int) (z21:Int) (z22:Int) (z23:Int) (z24:List It) (z25:List Cv) (hz15:0≤z15) (hz17:0≤z17) (hz18:0≤z18) (hz21:0≤z21) (hz22:0≤z22) (hz23:0≤z23):[[C.int .u64 z15,C.int .i64 z16,C.int .u64 z17,C.int .u64 z18,C.sl (cvs z19),C.int .i64 z20,C.int .u64 z21,C.int .u64 z22,C.int .u64 z23,C.sl (its z24),C.sl (cvs z25)]]=rqs [⟨z15.toNat,z16,z17.toNat,⟨z18.toNat,z19,z20⟩,z21.toNat,z22.toNat,z23.toNat,z24,z25⟩]:=by simp [rqs,Rq.enc,Int.toNat_of_nonneg hz15,Int.toNat_of_nonneg hz17,Int.toNat_of_nonneg hz18,Int.toNat_of_nonneg hz21,Int.toNat_of_nonneg hz22,Int.toNat_of_nonneg hz23]
@[go_sem] theorem vdX (l:List Rq) (i:Nat) (z15:Int) (z16:Int) (z17:Int) (z18:Int) (z19:List Cv) (z20:Int) (z21:Int) (z22:Int) (z23:Int) (z24:List It) (z25:List Cv) (hz15:0≤z15) (hz17:0≤z17) (hz18:0≤z18) (hz21:0≤z21) (hz22:0≤z22) (hz23:0≤z23):(rqs l).set i [C.int .u64 z15,C.int .i64 z16,C.int .u64 z17,C.int .u64 z18,C.sl (cvs z19),C.int .i64 z20,C.int .u64 z21,C.int .u64 z22,C.int .u64 z23,C.sl (its z24),C.sl (cvs z25)]=rqs (l.set i ⟨z15.toNat,z16,z17.toNat,⟨z18.toNat,z19,z20⟩,z21.toNat,z22.toNat,z23.toNat,z24,z25⟩):=by simp [rqs,List.map_set,Rq.enc,Int.toNat_of_nonneg hz15,Int.toNat_of_nonneg hz17,Int.toNat_of_nonneg hz18,Int.toNat_of_nonneg hz21,Int.toNat_of_nonneg hz22,Int.toNat_of_nonneg hz23]
@[go_sem] theorem kdi (l:List Rq) (z15:Int) (z16:Int) (z17:Int) (z18:Int) (z19:List Cv) (z20:Int) (z21:Int) (z22:Int) (z23:Int) (z24:List It) (z25:List Cv) (hz15:0≤z15) (hz17:0≤z17) (hz18:0≤z18) (hz21:0≤z21) (hz22:0≤z22) (hz23:0≤z23):[C.int .u64 z15,C.int .i64 z16,C.int .u64 z17,C.int .u64 z18,C.sl (cvs z19),C.int .i64 z20,C.int .u64 z21,C.int .u64 z22,C.int .u64 z23,C.sl (its z24),C.sl (cvs z25)]::rqs l=rqs (⟨z15.toNat,z16,z17.toNat,⟨z18.toNat,z19,z20⟩,z21.toNat,z22.toNat,z23.toNat,z24,z25⟩::l):=by simp [rqs,Rq.enc,Int.toNat_of_nonneg hz15,Int.toNat_of_nonneg hz17,Int.toNat_of_nonneg hz18,Int.toNat_of_nonneg hz21,Int.toNat_of_nonneg hz22,Int.toNat_of_nonneg hz23]
@[go_sem] theorem Rq.eta {e:Rq}:(⟨e.id,e.method,e.key,e.t,e.a,e.n,e.till,e.items,e.l⟩:Rq)=e:=rfl
def xdf (l:List Cv):Bool:=l.any fun c=>decide (¬gB c=0)
@[go_sem] def vbs (l:List Cv):D:= .bool (xdf l)
@[go_sem] abbrev jdU:FuncId:=117
@[go_sem] def jca:Tab:=[(58,jh)]
theorem gF:za Tryz.prog jca:=(za.cons zi za.nil)
set_option maxRecDepth 8000 in
set_option maxHeartbeats 1000000 in
theorem zbI (l:List Cv):va Tryz.prog 117 [.sl (cvs l), .fn (.func 203) [] []] (vbs l):=by
 refine .of (xcv gF (Nat.le_of_ble_eq_true rfl) ?_)
 simp -implicitDefEqProofs only [cdA,go_sem,Go.Proofs.Tryz.f117,reduceIte,reduceCtorEq,Nat.reduceEqDiff,Nat.reduceAdd,Nat.reduceLeDiff,Nat.reduceSub,Nat.reduceMul,Nat.reduceLT,Nat.reduceShiftRight,Nat.reduceMod,Int.reduceLE,Int.reduceLT,Int.reduceToNat,List.cons.injEq,cdB]
 refine wcv gF (Nat.le_of_ble_eq_true rfl) ?_
 simp -implicitDefEqProofs only [cdA,go_sem,Go.Proofs.Tryz.f199,reduceIte,reduceCtorEq,Nat.reduceEqDiff,Nat.reduceAdd,Nat.reduceLeDiff,Nat.reduceSub,Nat.reduceMul,Nat.reduceLT,Nat.reduceShiftRight,Nat.reduceMod,Int.reduceLE,Int.reduceLT,Int.reduceToNat,List.cons.injEq,cdB]
 refine fun _=>SWp.loop (ι:={i:Nat // i≤l.length∧∀j,j<i→gB (l.getD j default)=0}) (fun i=>⟨[(0, .sl (cvs l)),(1, .fn (.func 203) [] []),(7, .int .i64 l.length),(8, .int .i64 i.1)],[],0⟩) (fun i=>l.length - i.1) ⟨0,by simp⟩ ?_ ?_
 ·simp [go_sem]
 ·rintro⟨i,hi,hall⟩
  refine qa gF.toS bbC _ _ _ rfl ?_
  simp -implicitDefEqProofs only [cdA,go_sem,reduceIte,reduceCtorEq,Nat.reduceEqDiff,Nat.reduceAdd,Nat.reduceLeDiff,Nat.reduceSub,Nat.reduceMul,Nat.reduceLT,Nat.reduceShiftRight,Nat.reduceMod,Int.reduceLE,Int.reduceLT,Int.reduceToNat,List.cons.injEq,cdB]
  refine⟨fun h4=>⟨h4, ?_⟩,fun h4=> ?_⟩
  ·skip
   refine bdz gF (Nat.le_of_ble_eq_true rfl) ?_
   simp -implicitDefEqProofs only [cdA,go_sem,Go.Proofs.Tryz.f203,reduceIte,reduceCtorEq,Nat.reduceEqDiff,Nat.reduceAdd,Nat.reduceLeDiff,Nat.reduceSub,Nat.reduceMul,Nat.reduceLT,Nat.reduceShiftRight,Nat.reduceMod,Int.reduceLE,Int.reduceLT,Int.reduceToNat,List.cons.injEq,cdB]
   have hi':i<l.length:=by omega
   refine⟨fun h5=>⟨⟨i+1,hi',fun j hj=> ?_⟩,by dsimp only;omega,i64_in _ (by omega)⟩,fun h5=> ?_⟩
   ·by_cases hji:j=i
    ·subst hji;exact h5
    ·exact hall j (by omega)
   ·exact(List.any_eq_true.2 ⟨_,ua.2 ⟨i,hi',rfl⟩,decide_eq_true h5⟩).symm
  ·have hi':i=l.length:=by omega
   subst hi'
   rw [eq_comm,decide_eq_false (fun h=>h.elim),xdf,List.any_eq_false]
   intro c hc
   obtain⟨j,hj,rfl⟩:=ua.1 hc
   rw [hall j hj];decide
def j0:List D→Option (Prop×D×Fr)
 |[.c (.sl z26), .fn (.func 203) [] []]=>some (z26=cvs (zj z26),vbs (zj z26),[])
 |_=>none
attribute [go_sem] j0
theorem qaR:∀rs p r fr,j0 rs=some (p,r,fr)→p→uc Tryz.prog 117 rs r fr:=by
 intro rs p r fr h hp
 unfold j0 at h
 split at h<;>cases h
 have hc0:=hp
 rename_i z26
 obtain⟨z26,rfl⟩:∃m,z26=cvs m:=⟨_,hc0⟩
 simp only [ye]
 exact zbI z26
end Dm
namespace Dm
open Go Go.Proofs Go.IntWalk
def wS:Code→Option Code
 | .loop c=>some (.loop c)
 | .seq a b=>match wS a with
  |some c=>some c
  |none=>wS b
 | .block _ c=>wS c
 | .cond _ a b=>match wS a with
  |some c=>some c
  |none=>wS b
 |_=>none
noncomputable def ucQ:Code:=(wS (Tryz.f120.body.getD .skip)).getD .skip
structure Rw where
 bit:Int
 there:Bool
 is:Bool
deriving DecidableEq,Inhabited
@[go_sem] def Rw.enc (e:Rw):List C:=[.int .i64 e.bit, .bool e.there, .bool e.is]
def Rw.dec:List C→Rw
 |[.int .i64 z2, .bool z3, .bool z4]=>(⟨z2,z3,z4⟩:Rw)
 |_=>default
def rws (l:List Rw):List (List C):=l.map Rw.enc
def ueb (l:List (List C)):List Rw:=l.map Rw.dec
@[simp,go_sem] theorem zct (l:List Rw):(rws l).length=l.length:=by simp [rws]
@[go_sem] theorem gdX (l:List Rw) (i:Nat):(rws l).getD i [.int .i64 0, .bool false, .bool false]=(l.getD i default).enc:=by
 simp only [rws,List.getD_eq_getElem?_getD,List.getElem?_map]
 cases l[i]? <;>rfl
@[go_sem] theorem qdj (l:List Rw):uf 3 (rws l)=True:=by
 simp [uf,rws,Rw.enc]
theorem Rw.yd (e:Rw):Rw.dec e.enc=e:=by
 simp [Rw.enc,Rw.dec]
@[go_sem] theorem jc3 (l:List Rw):ueb (rws l)=l:=by
 simp only [ueb,rws,List.map_map]
 exact List.map_id'' (fun e=>Rw.yd e) l
@[go_sem] theorem udX (a b:List Rw):rws a++rws b=rws (a++b):=by simp [rws]
@[go_sem] theorem zdj (l:List Rw) (k:Nat):(rws l).drop k=rws (l.drop k):=by simp [rws]
@[go_sem] theorem xdj (l:List Rw) (k:Nat):(rws l).take k=rws (l.take k):=by simp [rws]
@[go_sem] theorem bdX (z5:Int) (z6:Bool) (z7:Bool):[[C.int .i64 z5,C.bool z6,C.bool z7]]=rws [⟨z5,z6,z7⟩]:=by simp [rws,Rw.enc]
@[go_sem] theorem zdY (l:List Rw) (i:Nat) (z5:Int) (z6:Bool) (z7:Bool):(rws l).set i [C.int .i64 z5,C.bool z6,C.bool z7]=rws (l.set i ⟨z5,z6,z7⟩):=by simp [rws,List.map_set,Rw.enc]
@[go_sem] theorem bdi (l:List Rw) (z5:Int) (z6:Bool) (z7:Bool):[C.int .i64 z5,C.bool z6,C.bool z7]::rws l=rws (⟨z5,z6,z7⟩::l):=by simp [rws,Rw.enc]
@[go_sem] theorem ydj (l:List Rw):kS (rws l)=True:=eq_true fun x hx c hc=>by
 obtain⟨e,_,rfl⟩:=List.mem_map.1 hx
 simp only [Rw.enc,List.mem_cons,List.not_mem_nil,or_false]at hc
 rcases hc with rfl|rfl|rfl<;>rfl
@[go_sem] theorem Rw.eta {e:Rw}:(⟨e.bit,e.there,e.is⟩:Rw)=e:=rfl
abbrev jbs (r:Rq):Ob:= .box [.c (.int .u64 r.id), .c (.int .i64 r.method), .c (.int .u64 r.key), .c (.int .u64 r.t.root), .sl (cvs r.t.l), .c (.int .i64 r.t.tag), .c (.int .u64 r.a), .c (.int .u64 r.n), .c (.int .u64 r.till), .sl (its r.items), .sl (cvs r.l)]
def vp (what:Int) (b:Rw):Bool:=if kaJ .i64 what b.bit=0 then !b.there else b.is
theorem uz {Q:Exit→St→Prop} {T:Tab} (hT:za Tryz.prog T) (r:Rq) {what:Int} {ok:Bool} {id nx:Nat} {E:List Rw} {rest:List (Nat×Ob)} (hE:E.length=6) (hid:0<id∧id<nx)
 (h0:Sub 0 ⟨[(1, .ref 0 0),(3, .int .i64 what),(4, .bool ok),(82, .vec id 6),(83, .int .i64 6),(84, .int .i64 0)],(id, .vec true 3 247 (rws E))::(0,jbs r)::rest,nx⟩ ⟨[(1, .ref 0 0),(3, .int .i64 what),(4, .bool ok),(82, .vec id 6),(83, .int .i64 6),(84, .int .i64 0)],[(id, .vec true 3 247 (rws E)),(0,jbs r)],nx⟩)
 (hQ:Q (.exit 0) ⟨[(1, .ref 0 0),(3, .int .i64 what),(4, .bool (ok&&E.all (vp what))),(82, .vec id 6),(83, .int .i64 6),(84, .int .i64 6),(85, .bool false)],[(id, .vec true 3 247 (rws E)),(0,jbs r)],nx⟩):SWp Tryz.prog 113 0 ucQ Q ⟨[(1, .ref 0 0),(3, .int .i64 what),(4, .bool ok),(82, .vec id 6),(83, .int .i64 6),(84, .int .i64 0)],(id, .vec true 3 247 (rws E))::(0,jbs r)::rest,nx⟩:=by
 change SWp _ _ _ (Code.loop _) _ _
 refine SWp.loop (ι:={i:Nat // i≤6}) (fun i=>⟨[(1, .ref 0 0),(3, .int .i64 what),(4, .bool (ok&&((E.take i.1).all (vp what)))),(82, .vec id 6),(83, .int .i64 6),(84, .int .i64 i.1)],[(id, .vec true 3 247 (rws E)),(0,jbs r)],nx⟩) (fun i=>6 - i.1) ⟨0,by simp⟩ ?_ ?_
 ·simp only [List.take_zero,List.all_nil,Bool.and_true];exact h0
 ·rintro⟨i,hi⟩
  have hne:¬(0:Nat)=id:=by omega
  have hne2:¬nx=id:=by omega
  have hne3:¬id=nx:=by omega
  have hne4:¬(0:Nat)=nx:=by omega
  have hp1:(0<nx)=True:=eq_true (by omega)
  have hp2:(id<nx)=True:=eq_true hid.2
  refine qa hT.toS jb1 _ _ _ rfl ?_
  simp -implicitDefEqProofs only [cdA,go_sem,hne,hne2,hne3,hne4,hp1,hp2,if_false,reduceIte,reduceCtorEq,Nat.reduceEqDiff,Nat.reduceAdd,Nat.reduceLeDiff,Nat.reduceSub,Nat.reduceMul,Nat.reduceLT,Nat.reduceShiftRight,Nat.reduceMod,Int.reduceLE,Int.reduceLT,Int.reduceToNat,List.cons.injEq,cdB]
  refine⟨fun h1=> ?_,fun h1=> ?_⟩
  rotate_left 1
  ·have hi6:i=6:=by omega
   subst hi6
   rw [List.take_of_length_le (by omega)]
   exact hQ
  have htk:=take_succ (l:=E) (i:=i) (by omega)
  have hstep:∀b:Bool,b=(if(ok&&(E.take i).all (vp what))=true then vp what (E.getD i default)else false)→b=(ok&&(E.take (i+1)).all (vp what)):=fun b hb=>by
   rw [hb,htk,List.all_append]
   cases ok<;>cases (E.take i).all (vp what)<;>simp
  refine⟨h1,⟨hE.symm,by omega⟩,fun h2=>⟨fun h3=>⟨⟨i+1,by omega⟩,by dsimp only;omega,⟨hstep _ ?_,i64_in _ (by omega)⟩,Nat.le_succ _⟩,fun h3=>⟨⟨i+1,by omega⟩,by dsimp only;omega,⟨hstep _ ?_,i64_in _ (by omega)⟩,Nat.le_succ _⟩⟩,fun h2=>⟨fun h3=>⟨⟨i+1,by omega⟩,by dsimp only;omega,⟨hstep _ ?_,i64_in _ (by omega)⟩,Nat.le_succ _⟩,fun h3=>⟨⟨i+1,by omega⟩,by dsimp only;omega,⟨hstep _ ?_,i64_in _ (by omega)⟩,Nat.le_succ _⟩⟩⟩
  ·rw [if_pos h3,vp,if_pos h2]
  ·rw [if_neg (by rw [h3];decide)]
  ·rw [if_pos h3,vp,if_neg h2]
  ·rw [if_neg (by rw [h3];decide)]
def kaD (r:Rq):List Rw:=[⟨1,decide (r.key≠0),true⟩,⟨2,decide (r.a≠0),true⟩,⟨4,decide (r.n≠0),decide (kaJ .i64 (xu r.method) 64=0∨0<r.n∧r.n≤4611686018427387904)⟩,⟨8,decide (r.till≠0),true⟩,⟨16,decide (r.items≠[]),decide ((ubc r.items).2=0)⟩,⟨32,decide (r.l≠[]),decide (r.l≠[]∧r.l.length≤16∧∀c∈r.l,gB c=0)⟩]
def ga5 (r:Rq):Prop:=(0<r.method∧r.method<11)∧(kaD r).all (vp (xu r.method))=true∧wbl r.t
instance (r:Rq):Decidable (ga5 r):=by unfold ga5;infer_instance
def rqS (r:Rq):Int:=if ga5 r then 0 else 1
theorem gcQ {r:Rq} {E:List Rw} (h:E=kaD r):∀b:Bool,b=(decide (0<r.method∧r.method<11)&&E.all (vp (xu r.method)))→(b=true→zaS r.t=0→0=rqS r)∧(b=true→¬zaS r.t=0→1=rqS r)∧(b=false→1=rqS r):=by
 subst h
 rintro b hb
 have htz:zaS r.t=0↔wbl r.t:=by unfold zaS;split<;>rename_i h<;>simp only [h]<;>decide
 refine⟨fun h1 h2=> ?_,fun h1 h2=> ?_,fun h1=> ?_⟩
 ·rw [h1,eq_comm,Bool.and_eq_true,decide_eq_true_iff]at hb
  rw [rqS,if_pos ⟨hb.1,hb.2,htz.1 h2⟩]
 ·rw [rqS,if_neg fun h=>h2 (htz.2 h.2.2)]
 ·rw [rqS,if_neg fun h=> ?_]
  rw [h1,eq_comm,Bool.and_eq_false_iff]at hb
  rcases hb with hb|hb
  ·exact of_decide_eq_false hb h.1
  ·rw [h.2.1]at hb;cases hb
theorem kM {r:Rq} {n4 i32:Bool} (h4:n4=decide (kaJ .i64 (xu r.method) 64=0∨0<r.n∧r.n≤4611686018427387904)) (h32:i32=decide (r.l≠[]∧r.l.length≤16∧∀c∈r.l,gB c=0)):
 ((!(decide (0<r.method∧r.method<11)&&(vp (xu r.method) ⟨1, !decide ((r.key:Int)=0),true⟩&&(vp (xu r.method) ⟨2, !decide ((r.a:Int)=0),true⟩&&(vp (xu r.method) ⟨4, !decide ((r.n:Int)=0),n4⟩&&(vp (xu r.method) ⟨8, !decide ((r.till:Int)=0),true⟩&&(vp (xu r.method) ⟨16,decide (0<(r.items.length:Int)),decide ((ubc r.items).snd=0)⟩&&vp (xu r.method) ⟨32,decide (0<(r.l.length:Int)),i32⟩)))))))=false→(zaS r.t=0→0=rqS r)∧(¬zaS r.t=0→1=rqS r))∧
 ((!(decide (0<r.method∧r.method<11)&&(vp (xu r.method) ⟨1, !decide ((r.key:Int)=0),true⟩&&(vp (xu r.method) ⟨2, !decide ((r.a:Int)=0),true⟩&&(vp (xu r.method) ⟨4, !decide ((r.n:Int)=0),n4⟩&&(vp (xu r.method) ⟨8, !decide ((r.till:Int)=0),true⟩&&(vp (xu r.method) ⟨16,decide (0<(r.items.length:Int)),decide ((ubc r.items).snd=0)⟩&&vp (xu r.method) ⟨32,decide (0<(r.l.length:Int)),i32⟩)))))))=true→1=rqS r):=by
 have hz:∀a:Nat,(!decide ((a:Int)=0))=decide (a≠0):=fun a=>by
  rw [←decide_not];exact decide_eq_decide.2 ⟨fun h h'=>h (by rw [h'];rfl),fun h h'=>h (by omega)⟩
 have hl:∀{α:Type} (l:List α),decide (0<(l.length:Int))=decide (¬l.length=0):=fun l=>decide_eq_decide.2 (by omega)
 have he1:decide (¬r.items.length=0)=decide (r.items≠[]):=decide_eq_decide.2 (by rw [List.length_eq_zero_iff])
 have he2:decide (¬r.l.length=0)=decide (r.l≠[]):=decide_eq_decide.2 (by rw [List.length_eq_zero_iff])
 rw [hz,hz,hz,hz,hl,hl,he1,he2,h4,h32]
 have key:=gcQ (E:=kaD r) rfl _ rfl
 simp only [kaD,List.all_cons,List.all_nil,Bool.and_true]at key
 obtain⟨k1,k2,k3⟩:=key
 refine⟨fun h=>⟨k1 ?_,k2 ?_⟩,fun h=>k3 ?_⟩
 ·rw [←Bool.not_not (decide _&&_),h];rfl
 ·rw [←Bool.not_not (decide _&&_),h];rfl
 ·rw [←Bool.not_not (decide _&&_),h];rfl
theorem rq4 {w:Int} {n:Nat} (hw:¬kaJ .i64 w 64=0) (hn:0<(n:Int)):decide (wL [n]=0)=decide (kaJ .i64 w 64=0∨0<n∧n≤4611686018427387904):=decide_eq_decide.2 ⟨fun h=> .inr ⟨by omega,uI.1 h⟩,fun h=>h.elim (fun h=>(hw h).elim) fun h=>uI.2 h.2⟩
theorem ydX {w:Int} {n:Nat} (hw:¬kaJ .i64 w 64=0) (hn:¬0<(n:Int)):false=decide (kaJ .i64 w 64=0∨0<n∧n≤4611686018427387904):=(decide_eq_false fun h=>h.elim hw fun h=>hn (by omega)).symm
theorem xdX {w:Int} {n:Nat} (hw:kaJ .i64 w 64=0):true=decide (kaJ .i64 w 64=0∨0<n∧n≤4611686018427387904):=(decide_eq_true (.inl hw)).symm
theorem zdX {l:List Cv} (hl:0<(l.length:Int)) (h16:(l.length:Int)≤16):(!xdf l)=decide (l≠[]∧l.length≤16∧∀c∈l,gB c=0):=by
 have h0:l≠[]:=fun h=>by rw [h]at hl;exact absurd hl (by decide)
 rw [Bool.eq_iff_iff,Bool.not_eq_true',decide_eq_true_iff,xdf,List.any_eq_false]
 refine⟨fun h=>⟨h0,by omega,fun c hc=> ?_⟩,fun h c hc=> ?_⟩
 ·have:=h c hc
  rw [decide_eq_true_iff]at this
  exact Decidable.not_not.1 this
 ·rw [decide_eq_true_iff]
  exact fun h'=>h' (h.2.2 c hc)
theorem yca {l:List Cv} (hl:¬0<(l.length:Int)):false=decide (l≠[]∧l.length≤16∧∀c∈l,gB c=0):=(decide_eq_false fun h=>hl (by have:=List.length_pos_iff.2 h.1;omega)).symm
theorem zca {l:List Cv} (h16:¬(l.length:Int)≤16):false=decide (l≠[]∧l.length≤16∧∀c∈l,gB c=0):=(decide_eq_false fun h=>h16 (by omega)).symm
@[go_sem] def vaD (r:Rq):D:= .int .i64 (rqS r)
@[go_sem] abbrev kcM:FuncId:=120
@[go_sem] def kbs:Tab:=[(202,bZ),(121,vab),(58,jh),(53,xx),(122,zf),(117,j0)]
theorem yf:za Tryz.prog kbs:=(za.cons xaR (za.cons gaj (za.cons zi (za.cons qE (za.cons ve (za.cons qaR za.nil))))))
set_option maxRecDepth 8000 in
set_option maxHeartbeats 1000000 in
theorem yba (r:Rq):va Tryz.prog 120 [.agg [.c (.int .u64 (r.id:Int)), .c (.int .i64 r.method), .c (.int .u64 (r.key:Int)), .c (.int .u64 (r.t.root:Int)), .sl (cvs r.t.l), .c (.int .i64 r.t.tag), .c (.int .u64 (r.a:Int)), .c (.int .u64 (r.n:Int)), .c (.int .u64 (r.till:Int)), .sl (its r.items), .sl (cvs r.l)]] (vaD r):=by
 refine .of (vdv yf (Nat.le_of_ble_eq_true rfl) ?_)
 simp -implicitDefEqProofs only [cdA,go_sem,Go.Proofs.Tryz.f120,reduceIte,reduceCtorEq,Nat.reduceEqDiff,Nat.reduceAdd,Nat.reduceLeDiff,Nat.reduceSub,Nat.reduceMul,Nat.reduceLT,Nat.reduceShiftRight,Nat.reduceMod,Int.reduceLE,Int.reduceLT,Int.reduceToNat,List.cons.injEq,cdB]
 refine ud.run jcc yf ja (by kernel_rfl) (by kernel_rfl) ?_
 simp -implicitDefEqProofs only [cdA,go_sem,reduceIte,reduceCtorEq,Nat.reduceEqDiff,Nat.reduceAdd,Nat.reduceLeDiff,Nat.reduceSub,Nat.reduceMul,Nat.reduceLT,Nat.reduceShiftRight,Nat.reduceMod,Int.reduceLE,Int.reduceLT,Int.reduceToNat,List.cons.injEq,cdB]
 refine⟨fun hw=>⟨fun hn=>⟨fun hl=>⟨fun h16=> ?_,fun h16=> ?_⟩,fun hl=> ?_⟩,fun hn=>⟨fun hl=>⟨fun h16=> ?_,fun h16=> ?_⟩,fun hl=> ?_⟩⟩,fun hw=>⟨fun hl=>⟨fun h16=> ?_,fun h16=> ?_⟩,fun hl=> ?_⟩⟩
 ·refine uz yf r rfl ⟨by decide,by decide⟩ (by simp [go_sem]) ?_
  simp -implicitDefEqProofs only [cdA,go_sem,reduceIte,reduceCtorEq,Nat.reduceEqDiff,Nat.reduceAdd,Nat.reduceLeDiff,Nat.reduceSub,Nat.reduceMul,Nat.reduceLT,Nat.reduceShiftRight,Nat.reduceMod,Int.reduceLE,Int.reduceLT,Int.reduceToNat,List.cons.injEq,cdB]
  exact kM (rq4 hw hn) (zdX hl h16)
 ·refine uz yf r rfl ⟨by decide,by decide⟩ (by simp [go_sem]) ?_
  simp -implicitDefEqProofs only [cdA,go_sem,reduceIte,reduceCtorEq,Nat.reduceEqDiff,Nat.reduceAdd,Nat.reduceLeDiff,Nat.reduceSub,Nat.reduceMul,Nat.reduceLT,Nat.reduceShiftRight,Nat.reduceMod,Int.reduceLE,Int.reduceLT,Int.reduceToNat,List.cons.injEq,cdB]
  exact kM (rq4 hw hn) (zca h16)
 ·refine uz yf r rfl ⟨by decide,by decide⟩ (by simp [go_sem]) ?_
  simp -implicitDefEqProofs only [cdA,go_sem,reduceIte,reduceCtorEq,Nat.reduceEqDiff,Nat.reduceAdd,Nat.reduceLeDiff,Nat.reduceSub,Nat.reduceMul,Nat.reduceLT,Nat.reduceShiftRight,Nat.reduceMod,Int.reduceLE,Int.reduceLT,Int.reduceToNat,List.cons.injEq,cdB]
  exact kM (rq4 hw hn) (yca hl)
 ·refine uz yf r rfl ⟨by decide,by decide⟩ (by simp [go_sem]) ?_
  simp -implicitDefEqProofs only [cdA,go_sem,reduceIte,reduceCtorEq,Nat.reduceEqDiff,Nat.reduceAdd,Nat.reduceLeDiff,Nat.reduceSub,Nat.reduceMul,Nat.reduceLT,Nat.reduceShiftRight,Nat.reduceMod,Int.reduceLE,Int.reduceLT,Int.reduceToNat,List.cons.injEq,cdB]
  exact kM (ydX hw hn) (zdX hl h16)
 ·refine uz yf r rfl ⟨by decide,by decide⟩ (by simp [go_sem]) ?_
  simp -implicitDefEqProofs only [cdA,go_sem,reduceIte,reduceCtorEq,Nat.reduceEqDiff,Nat.reduceAdd,Nat.reduceLeDiff,Nat.reduceSub,Nat.reduceMul,Nat.reduceLT,Nat.reduceShiftRight,Nat.reduceMod,Int.reduceLE,Int.reduceLT,Int.reduceToNat,List.cons.injEq,cdB]
  exact kM (ydX hw hn) (zca h16)
 ·refine uz yf r rfl ⟨by decide,by decide⟩ (by simp [go_sem]) ?_
  simp -implicitDefEqProofs only [cdA,go_sem,reduceIte,reduceCtorEq,Nat.reduceEqDiff,Nat.reduceAdd,Nat.reduceLeDiff,Nat.reduceSub,Nat.reduceMul,Nat.reduceLT,Nat.reduceShiftRight,Nat.reduceMod,Int.reduceLE,Int.reduceLT,Int.reduceToNat,List.cons.injEq,cdB]
  exact kM (ydX hw hn) (yca hl)
 ·refine uz yf r rfl ⟨by decide,by decide⟩ (by simp [go_sem]) ?_
  simp -implicitDefEqProofs only [cdA,go_sem,reduceIte,reduceCtorEq,Nat.reduceEqDiff,Nat.reduceAdd,Nat.reduceLeDiff,Nat.reduceSub,Nat.reduceMul,Nat.reduceLT,Nat.reduceShiftRight,Nat.reduceMod,Int.reduceLE,Int.reduceLT,Int.reduceToNat,List.cons.injEq,cdB]
  exact kM (xdX hw) (zdX hl h16)
 ·refine uz yf r rfl ⟨by decide,by decide⟩ (by simp [go_sem]) ?_
  simp -implicitDefEqProofs only [cdA,go_sem,reduceIte,reduceCtorEq,Nat.reduceEqDiff,Nat.reduceAdd,Nat.reduceLeDiff,Nat.reduceSub,Nat.reduceMul,Nat.reduceLT,Nat.reduceShiftRight,Nat.reduceMod,Int.reduceLE,Int.reduceLT,Int.reduceToNat,List.cons.injEq,cdB]
  exact kM (xdX hw) (zca h16)
 ·refine uz yf r rfl ⟨by decide,by decide⟩ (by simp [go_sem]) ?_
  simp -implicitDefEqProofs only [cdA,go_sem,reduceIte,reduceCtorEq,Nat.reduceEqDiff,Nat.reduceAdd,Nat.reduceLeDiff,Nat.reduceSub,Nat.reduceMul,Nat.reduceLT,Nat.reduceShiftRight,Nat.reduceMod,Int.reduceLE,Int.reduceLT,Int.reduceToNat,List.cons.injEq,cdB]
  exact kM (xdX hw) (yca hl)
def gH:List D→Option (Prop×D×Fr)
 |[.agg [.c (.int .u64 z9), .c (.int .i64 z10), .c (.int .u64 z11), .c (.int .u64 z13), .c (.sl z14), .c (.int .i64 z15), .c (.int .u64 z16), .c (.int .u64 z17), .c (.int .u64 z18), .c (.sl z19), .c (.sl z20)]]=>some (z9=(z9.toNat:Int)∧z11=(z11.toNat:Int)∧z13=(z13.toNat:Int)∧z14=cvs (zj z14)∧z16=(z16.toNat:Int)∧z17=(z17.toNat:Int)∧z18=(z18.toNat:Int)∧z19=its (y7 z19)∧z20=cvs (zj z20),vaD (⟨z9.toNat,z10,z11.toNat,(⟨z13.toNat,(zj z14),z15⟩:Tk),z16.toNat,z17.toNat,z18.toNat,(y7 z19),(zj z20)⟩:Rq),[])
 |_=>none
attribute [go_sem] gH
theorem uaq:∀rs p r fr,gH rs=some (p,r,fr)→p→uc Tryz.prog 120 rs r fr:=by
 intro rs p r fr h hp
 unfold gH at h
 split at h<;>cases h
 obtain⟨hc0,hc1,hc2,hc3,hc4,hc5,hc6,hc7,hc8⟩:=hp
 rename_i z9 z10 z11 z13 z14 z15 z16 z17 z18 z19 z20
 obtain⟨z9,rfl⟩:∃m:Nat,z9=m:=⟨_,hc0⟩
 obtain⟨z11,rfl⟩:∃m:Nat,z11=m:=⟨_,hc1⟩
 obtain⟨z13,rfl⟩:∃m:Nat,z13=m:=⟨_,hc2⟩
 obtain⟨z14,rfl⟩:∃m,z14=cvs m:=⟨_,hc3⟩
 obtain⟨z16,rfl⟩:∃m:Nat,z16=m:=⟨_,hc4⟩
 obtain⟨z17,rfl⟩:∃m:Nat,z17=m:=⟨_,hc5⟩
 obtain⟨z18,rfl⟩:∃m:Nat,z18=m:=⟨_,hc6⟩
 obtain⟨z19,rfl⟩:∃m,z19=its m:=⟨_,hc7⟩
 obtain⟨z20,rfl⟩:∃m,z20=cvs m:=⟨_,hc8⟩
 simp only [Int.toNat_natCast,ye,uo]
 exact yba ⟨z9,z10,z11,⟨z13,z14,z15⟩,z16,z17,z18,z19,z20⟩
end Dm
