import Derived.Test.YthcioaapafehhaaGreatDoorP5

set_option linter.unusedSimpArgs false
set_option linter.unusedVariables false
set_option linter.unusedSectionVars false
set_option linter.defProp false
set_option maxRecDepth 20000
set_option maxHeartbeats 4000000
namespace Dm
open Go Go.Proofs Go.IntWalk
def goA (bk:List (NK×Int)):Option Int→List (List UInt8)→Option Int
 |none,_=>none
 |some at0,[]=>some at0
 |some at0,x::l=>goA bk (alk (0,at0,x) bk) l
theorem yo {bk:List (NK×Int)} {l:List (List UInt8)}:goA bk none l=none:=by cases l<;>rfl
theorem w5 {bk:List (NK×Int)}:∀{l:List (List UInt8)} {o:Option Int} {m:List (List UInt8)},goA bk o (l++m)=goA bk (goA bk o l) m
 |l,none,m=>by rw [yo,yo,yo]
 |[],some a,m=>rfl
 |x::l,some a,m=>by rw [List.cons_append,goA,goA,w5]
def ku (l:List Tm) (key:Nat) (text:List UInt8) (ts:List (List UInt8)):Int×Int:=
 if¬kH l then(0,1)else if 4096<text.length∨∃x∈ts,4096<x.length then(0,4)else
 match goA (bkA l) (alk (key, -1,text) (bkA l)) ts with
 |some i=>(i,0)
 |none=>(0,5)
@[go_sem] def ubA (a:Ar) (key:Nat) (text:List UInt8) (ts:List (List UInt8)):D:= .tup [.int .i64 (ku a.l key text ts).1, .int .i64 (ku a.l key text ts).2]
@[go_sem] abbrev zeJ:FuncId:=112
@[go_sem] def zcr:Tab:=[(118,jM)]
theorem jh:za Tryz.prog zcr:=(za.cons jR za.nil)
theorem wbY (a:Ar) (key:Nat) (text:List UInt8) (ts:List (List UInt8)):ja Tryz.prog 112 [.agg [.sl (tms a.l)], .c (.int .u64 (key:Int)), .sl (u8s text), .sl (ve ts)] (ubA a key text ts):=by
 refine .of (uea jh (Nat.le_of_ble_eq_true rfl) ?_)
 simp -implicitDefEqProofs only [cdA,go_sem,Go.Proofs.Tryz.f112,simprocAttr, -Int.reduceEq,List.cons.injEq,cdB]
 have hrz:(zn a.l).2=0↔kH a.l:=by unfold zn;split<;>rename_i h<;>simp only [h]<;>decide
 refine⟨fun h0=> ?_,fun h0=>by
  have hno:¬kH a.l:=fun h=>h0 (hrz.2 h)
  rw [ku,zn,if_neg hno,if_pos hno];exact⟨rfl,rfl⟩⟩
 have hok:=hrz.1 h0
 have hra:(zn a.l).1=bkA a.l:=by rw [zn,if_pos hok]
 rw [hra]
 refine yc8 jh (Nat.le_of_ble_eq_true rfl) ?_
 simp -implicitDefEqProofs only [cdA,go_sem,Go.Proofs.Tryz.f194,simprocAttr, -Int.reduceEq,List.cons.injEq,cdB]
 refine fun _=>⟨fun h1=> ?_,fun h1=>by rw [ku,if_neg (fun h=>h hok),if_pos (.inl (by omega))];exact⟨rfl,rfl⟩⟩
 refine veh jh (Nat.le_of_ble_eq_true rfl) ?_
 simp -implicitDefEqProofs only [cdA,go_sem,Go.Proofs.Tryz.f195,simprocAttr, -Int.reduceEq,List.cons.injEq,cdB]
 refine jel jh (Nat.le_of_ble_eq_true rfl) ?_
 simp -implicitDefEqProofs only [cdA,go_sem,Go.Proofs.Tryz.f241,simprocAttr, -Int.reduceEq,List.cons.injEq,cdB]
 refine fun _=>SWp.loop (ι:={i:Nat // i≤ts.length∧∀j,j<i→(ts.getD j default).length≤4096}) (fun i=>⟨[(0, .sl (ve ts)),(1, .fn (.func 194) [] []),(7, .int .i64 ts.length),(8, .int .i64 i.1)],[],1⟩) (fun i=>ts.length - i.1) ⟨0,by simp⟩ ?_ ?_
 ·simp [go_sem]
 ·rintro⟨i,hi,hall⟩
  refine ya jh.toS udk _ _ _ rfl ?_
  simp -implicitDefEqProofs only [cdA,go_sem,simprocAttr, -Int.reduceEq,List.cons.injEq,cdB]
  refine⟨fun h4=>⟨h4, ?_⟩,fun h4=> ?_⟩
  ·skip
   refine yc8 jh (Nat.le_of_ble_eq_true rfl) ?_
   simp -implicitDefEqProofs only [cdA,go_sem,Go.Proofs.Tryz.f194,simprocAttr, -Int.reduceEq,List.cons.injEq,cdB]
   have hi':i<ts.length:=by omega
   refine fun _=>⟨fun h5=> ?_,fun h5=> ?_⟩
   ·rw [ku,if_neg (fun h=>h hok),if_pos (.inr ⟨_,va.2 ⟨i,hi',rfl⟩,by omega⟩)];exact⟨rfl,rfl⟩
   ·refine⟨⟨i+1,hi',fun j hj=> ?_⟩,by dsimp only;omega,i64_in _ (by omega)⟩
    by_cases hji:j=i
    ·subst hji;omega
    ·exact hall j (by omega)
  ·have hi':i=ts.length:=by omega
   subst hi'
   have hok2:¬∃x∈ts,4096<x.length:=by
    rintro⟨x,hx,hlt⟩
    obtain⟨j,hj,rfl⟩:=va.1 hx
    have:=hall j hj;omega
   have hfind:ku a.l key text ts=match goA (bkA a.l) (alk (key, -1,text) (bkA a.l)) ts with|some i=>(i,0)|none=>(0,5):=by
    rw [ku,if_neg (fun h=>h hok),if_neg (by rintro(h|h);omega;exact hok2 h)]
   refine⟨fun h=>h.elim,fun at0 hat _=> ?_,fun hat _=> ?_⟩
   ·rw [hat]at hfind
    refine SWp.loop (ι:={i:Nat // i≤ts.length}) (fun i=>⟨[(10, .c (.map nkt (bcA (bkA a.l)))),(13, .int .i64 ((goA (bkA a.l) (some at0) (ts.take i.1)).getD 0)),(14, .bool (goA (bkA a.l) (some at0) (ts.take i.1)).isSome),(42, .sl (ve ts)),(43, .int .i64 ts.length),(44, .int .i64 i.1)],[],1⟩) (fun i=>ts.length - i.1) ⟨0,by simp⟩ ?_ ?_
    ·simp [go_sem,goA]
    ·rintro⟨i,hi⟩
     have hstep:i<ts.length→goA (bkA a.l) (some at0) (ts.take (i+1))=goA (bkA a.l) (goA (bkA a.l) (some at0) (ts.take i)) [ts.getD i default]:=fun h=>by rw [take_succ h,w5]
     have hwhole:goA (bkA a.l) (some at0) ts=goA (bkA a.l) (goA (bkA a.l) (some at0) (ts.take i)) (ts.drop i):=by rw [←w5,List.take_append_drop]
     dsimp only
     cases ho:goA (bkA a.l) (some at0) (ts.take i)
     ·rw [ho]at hstep hwhole
      rw [yo]at hwhole
      refine ya jh.toS ybK _ _ _ rfl ?_
      simp -implicitDefEqProofs only [cdA,go_sem,Option.isSome_none,Option.getD_none,false_implies,true_implies,simprocAttr, -Int.reduceEq,List.cons.injEq,cdB]
      rw [hfind,hwhole]
      exact⟨fun h=>⟨h,rfl,rfl⟩,fun _=>⟨rfl,rfl⟩⟩
     ·rename_i at1
      rw [ho]at hstep hwhole
      refine ya jh.toS ybK _ _ _ rfl ?_
      simp -implicitDefEqProofs only [cdA,go_sem,Option.isSome_some,Option.getD_some,false_implies,true_implies,simprocAttr, -Int.reduceEq,List.cons.injEq,cdB]
      refine⟨fun h=>⟨h,fun b hb=>⟨⟨i+1,by omega⟩,by dsimp only;omega, ?_, ?_,i64_in _ (by omega)⟩,fun hb=>⟨⟨i+1,by omega⟩,by dsimp only;omega, ?_, ?_,i64_in _ (by omega)⟩⟩,fun h=> ?_⟩
      rotate_left 4
      ·have:i=ts.length:=by omega
       subst this
       rw [List.drop_length,goA]at hwhole
       rw [hfind,hwhole];exact⟨rfl,rfl⟩
      all_goals (dsimp only;rw [hstep (by omega),goA,hb];rfl)
   ·rw [hat,yo]at hfind
    refine SWp.loop (ι:={i:Nat // i≤ts.length}) (fun i=>⟨[(10, .c (.map nkt (bcA (bkA a.l)))),(13, .int .i64 ((goA (bkA a.l) none (ts.take i.1)).getD 0)),(14, .bool (goA (bkA a.l) none (ts.take i.1)).isSome),(42, .sl (ve ts)),(43, .int .i64 ts.length),(44, .int .i64 i.1)],[],1⟩) (fun i=>ts.length - i.1) ⟨0,by simp⟩ ?_ ?_
    ·simp [go_sem,goA]
    ·rintro⟨i,hi⟩
     have hstep:i<ts.length→goA (bkA a.l) none (ts.take (i+1))=goA (bkA a.l) (goA (bkA a.l) none (ts.take i)) [ts.getD i default]:=fun h=>by rw [take_succ h,w5]
     have hwhole:goA (bkA a.l) none ts=goA (bkA a.l) (goA (bkA a.l) none (ts.take i)) (ts.drop i):=by rw [←w5,List.take_append_drop]
     dsimp only
     cases ho:goA (bkA a.l) none (ts.take i)
     ·rw [ho]at hstep hwhole
      rw [yo]at hwhole
      refine ya jh.toS ybK _ _ _ rfl ?_
      simp -implicitDefEqProofs only [cdA,go_sem,Option.isSome_none,Option.getD_none,false_implies,true_implies,simprocAttr, -Int.reduceEq,List.cons.injEq,cdB]
      rw [hfind]
      exact⟨fun h=>⟨h,rfl,rfl⟩,fun _=>⟨rfl,rfl⟩⟩
     ·rename_i at1
      rw [ho]at hstep hwhole
      refine ya jh.toS ybK _ _ _ rfl ?_
      simp -implicitDefEqProofs only [cdA,go_sem,Option.isSome_some,Option.getD_some,false_implies,true_implies,simprocAttr, -Int.reduceEq,List.cons.injEq,cdB]
      exact absurd ho (by rw [yo];exact fun h=>by cases h)
def kad:List D→Option (Prop×D×Fr)
 |[.agg [.c (.sl z2)], .c (.int .u64 z3), .c (.sl z4), .c (.sl z5)]=>some (z2=tms (qb z2)∧z3=(z3.toNat:Int)∧z4=u8s (vf z4)∧z5=ve (bB z5),ubA (⟨(qb z2)⟩:Ar) z3.toNat (vf z4) (bB z5),[])
 |_=>none
attribute [go_sem] kad
theorem qa7:ga 112 kad:=by
 intro rs p r fr h hp
 unfold kad at h
 split at h<;>cases h
 obtain⟨hc0,hc1,hc2,hc3⟩:=hp
 rename_i z2 z3 z4 z5
 have:=wbY ⟨(qb z2)⟩ z3.toNat (vf z4) (bB z5)
 rw [←hc0,←hc1,←hc2,←hc3]at this
 exact this
end Dm
namespace Dm
open Go Go.Proofs Go.IntWalk
structure Tk where
 root:Nat
 l:List Cv
 tag:Int
deriving DecidableEq,Inhabited
@[go_sem] def Tk.enc (e:Tk):List C:=[.int .u64 (e.root:Int), .sl (cvs e.l), .int .i64 e.tag]
def Tk.dec:List C→Tk
 |[.int .u64 z2, .sl z3, .int .i64 z4]=>(⟨z2.toNat,(uc z3),z4⟩:Tk)
 |_=>default
def tks (l:List Tk):List (List C):=l.map Tk.enc
def be5 (l:List (List C)):List Tk:=l.map Tk.dec
@[simp,go_sem] theorem bc5 (l:List Tk):(tks l).length=l.length:=by simp [tks]
@[go_sem] theorem beR (l:List Tk) (i:Nat):(tks l).getD i [.int .u64 0, .sl [], .int .i64 0]=(l.getD i default).enc:=by
 simp only [tks,List.getD_eq_getElem?_getD,List.getElem?_map]
 cases l[i]? <;>rfl
@[go_sem] theorem kd0 (l:List Tk):bf 3 (tks l)=True:=by
 simp [bf,tks,Tk.enc]
theorem Tk.jc (e:Tk):Tk.dec e.enc=e:=by
 simp [Tk.enc,Tk.dec,xS]
@[go_sem] theorem zdI (l:List Tk):be5 (tks l)=l:=by
 simp only [be5,tks,List.map_map]
 exact List.map_id'' (fun e=>Tk.jc e) l
@[go_sem] theorem geR (a b:List Tk):tks a++tks b=tks (a++b):=by simp [tks]
@[go_sem] theorem qd0 (l:List Tk) (k:Nat):(tks l).drop k=tks (l.drop k):=by simp [tks]
@[go_sem] theorem jd0 (l:List Tk) (k:Nat):(tks l).take k=tks (l.take k):=by simp [tks]
@[go_sem] theorem zeS (z5:Int) (z6:List Cv) (z7:Int) (hz5:0≤z5):[[C.int .u64 z5,C.sl (cvs z6),C.int .i64 z7]]=tks [⟨z5.toNat,z6,z7⟩]:=by simp [tks,Tk.enc,Int.toNat_of_nonneg hz5]
@[go_sem] theorem yeS (l:List Tk) (i:Nat) (z5:Int) (z6:List Cv) (z7:Int) (hz5:0≤z5):(tks l).set i [C.int .u64 z5,C.sl (cvs z6),C.int .i64 z7]=tks (l.set i ⟨z5.toNat,z6,z7⟩):=by simp [tks,List.map_set,Tk.enc,Int.toNat_of_nonneg hz5]
@[go_sem] theorem xd0 (l:List Tk) (z5:Int) (z6:List Cv) (z7:Int) (hz5:0≤z5):[C.int .u64 z5,C.sl (cvs z6),C.int .i64 z7]::tks l=tks (⟨z5.toNat,z6,z7⟩::l):=by simp [tks,Tk.enc,Int.toNat_of_nonneg hz5]
@[go_sem] theorem Tk.eta {e:Tk}:(⟨e.root,e.l,e.tag⟩:Tk)=e:=rfl
def vaY (t:Tk):Prop:=t.l.length≤16∧0≤t.tag∧t.tag≤1048576∧∀c∈t.l,ko c=0
instance (t:Tk):Decidable (vaY t):=by unfold vaY;infer_instance
def yac (t:Tk):Int:=if vaY t then 0 else 1
@[go_sem] def zbl (t:Tk):D:= .int .i64 (yac t)
@[go_sem] abbrev zdU:FuncId:=53
@[go_sem] def kcg:Tab:=[(58,xh)]
theorem uv:za Tryz.prog kcg:=(za.cons wh za.nil)
theorem jbV (t:Tk):ja Tryz.prog 53 [.agg [.c (.int .u64 (t.root:Int)), .sl (cvs t.l), .c (.int .i64 t.tag)]] (zbl t):=by
 refine .of (gfm uv (Nat.le_of_ble_eq_true rfl) ?_)
 simp -implicitDefEqProofs only [cdA,go_sem,Go.Proofs.Tryz.f53,simprocAttr, -Int.reduceEq,List.cons.injEq,cdB]
 have hbad:¬vaY t→1=yac t:=fun h=>by rw [yac,if_neg h]
 refine fun _=>⟨fun h1=>⟨fun h2=>⟨fun h3=> ?_,fun h3=>hbad fun h=>by have:=h.2.2.1;omega⟩,fun h2=>hbad fun h=>by have:=h.2.1;omega⟩,fun h1=>hbad fun h=>by have:=h.1;omega⟩
 refine wc7 uv (Nat.le_of_ble_eq_true rfl) ?_
 simp -implicitDefEqProofs only [cdA,go_sem,Go.Proofs.Tryz.f117,simprocAttr, -Int.reduceEq,List.cons.injEq,cdB]
 refine xc8 uv (Nat.le_of_ble_eq_true rfl) ?_
 simp -implicitDefEqProofs only [cdA,go_sem,Go.Proofs.Tryz.f199,simprocAttr, -Int.reduceEq,List.cons.injEq,cdB]
 refine fun _=>SWp.loop (ι:={i:Nat // i≤t.l.length∧∀j,j<i→ko (t.l.getD j default)=0}) (fun i=>⟨[(0, .sl (cvs t.l)),(1, .fn (.func 116) [] []),(7, .int .i64 t.l.length),(8, .int .i64 i.1)],[],1⟩) (fun i=>t.l.length - i.1) ⟨0,by simp⟩ ?_ ?_
 ·simp [go_sem]
 ·rintro⟨i,hi,hall⟩
  refine ya uv.toS jcC _ _ _ rfl ?_
  simp -implicitDefEqProofs only [cdA,go_sem,simprocAttr, -Int.reduceEq,List.cons.injEq,cdB]
  refine⟨fun h4=>⟨h4, ?_⟩,fun h4=> ?_⟩
  ·skip
   refine yeb uv (Nat.le_of_ble_eq_true rfl) ?_
   simp -implicitDefEqProofs only [cdA,go_sem,Go.Proofs.Tryz.f116,simprocAttr, -Int.reduceEq,List.cons.injEq,cdB]
   have hi':i<t.l.length:=by omega
   refine⟨fun h5=>⟨⟨i+1,hi',fun j hj=> ?_⟩,by dsimp only;omega,i64_in _ (by omega)⟩,fun h5=>hbad fun h=>h5 (h.2.2.2 _ (va.2 ⟨i,hi',rfl⟩))⟩
   by_cases hji:j=i
   ·subst hji;exact h5
   ·exact hall j (by omega)
  ·have hi':i=t.l.length:=by omega
   subst hi'
   have ht:vaY t:=⟨by omega,by omega,by omega,fun c hc=>by
    obtain⟨j,hj,rfl⟩:=va.1 hc
    exact hall j hj⟩
   refine⟨False.elim, ?_⟩
   rw [yac,if_pos ht]
def zB:List D→Option (Prop×D×Fr)
 |[.agg [.c (.int .u64 z9), .c (.sl z10), .c (.int .i64 z11)]]=>some (z9=(z9.toNat:Int)∧z10=cvs (uc z10),zbl (⟨z9.toNat,(uc z10),z11⟩:Tk),[])
 |_=>none
attribute [go_sem] zB
theorem vK:ga 53 zB:=by
 intro rs p r fr h hp
 unfold zB at h
 split at h<;>cases h
 obtain⟨hc0,hc1⟩:=hp
 rename_i z9 z10 z11
 have:=jbV ⟨z9.toNat,(uc z10),z11⟩
 rw [←hc0,←hc1]at this
 exact this
def qP (c:Cv):List UInt8:=if ko c=0 then gm (if c.kind=4 then [c.kind.toNat,c.a,c.b]else [c.kind.toNat,c.a])else []
@[go_sem] def wbc (c:Cv):D:= .tup [.sl (u8s (qP c)), .int .i64 (ko c)]
@[go_sem] abbrev vdP:FuncId:=52
@[go_sem] def qb0:Tab:=[(58,xh),(61,x8)]
theorem jaZ:za Tryz.prog qb0:=(za.cons wh (za.cons k8 za.nil))
theorem vbC (c:Cv):ja Tryz.prog 52 [.agg [.c (.int .i64 c.kind), .c (.int .u64 (c.a:Int)), .c (.int .u64 (c.b:Int))]] (wbc c):=by
 refine .of (ufm jaZ (Nat.le_of_ble_eq_true rfl) ?_)
 simp -implicitDefEqProofs only [cdA,go_sem,Go.Proofs.Tryz.f52,simprocAttr, -Int.reduceEq,List.cons.injEq,cdB]
 refine⟨fun h=> ?_,fun h=>by rw [qP,if_neg h];rfl⟩
 have hk:0≤c.kind∧c.kind≤5:=by
  unfold ko at h
  split at h
  ·rename_i h1;omega
  ·cases h
 have hw:IntKind.u64.wrap c.kind=c.kind:=u64_in _ (by omega)
 rw [qP,if_pos h,hw,h]
 exact⟨fun h1=>⟨by rw [if_pos h1],rfl⟩,fun h1=>⟨by rw [if_neg h1],rfl⟩⟩
def qJ:List D→Option (Prop×D×Fr)
 |[.agg [.c (.int .i64 z13), .c (.int .u64 z14), .c (.int .u64 z15)]]=>some (z14=(z14.toNat:Int)∧z15=(z15.toNat:Int),wbc (⟨z13,z14.toNat,z15.toNat⟩:Cv),[])
 |_=>none
attribute [go_sem] qJ
theorem uaa:ga 52 qJ:=by
 intro rs p r fr h hp
 unfold qJ at h
 split at h<;>cases h
 obtain⟨hc0,hc1⟩:=hp
 rename_i z13 z14 z15
 have:=vbC ⟨z13,z14.toNat,z15.toNat⟩
 rw [←hc0,←hc1]at this
 exact this
def txH (t:Tk) (i:Nat):List (List UInt8):=(t.l.map qP).take i++List.replicate (t.l.length - i) []
theorem xbW {t:Tk} {i:Nat} (hi:i≤t.l.length):(txH t i).length=t.l.length:=by simp [txH];omega
theorem veS {t:Tk}:List.replicate t.l.length [C.sl []]=ve (txH t 0):=by simp [txH,ve,u8s]
theorem zcM {t:Tk}:txH t t.l.length=t.l.map qP:=by
 rw [txH,Nat.sub_self,List.replicate_zero,List.append_nil,List.take_of_length_le (by rw [List.length_map];exact Nat.le_refl _)]
theorem ycM {t:Tk} {i:Nat} (hi:i<t.l.length):(txH t i).set i (qP (t.l.getD i default))=txH t (i+1):=by
 have hl:i<(t.l.map qP).length:=by rw [List.length_map];exact hi
 have h1:((t.l.map qP).take i).length=i:=by rw [List.length_take];omega
 rw [txH,txH,List.take_succ_eq_append_getElem hl,List.append_assoc,List.set_append_right _ _ (by omega),h1,Nat.sub_self]
 obtain⟨k,hk⟩:∃k,t.l.length - i=k+1:=⟨t.l.length - i - 1,by omega⟩
 rw [hk,show t.l.length - (i+1)=k by omega,List.replicate_succ,List.set_cons_zero,xe hi]
 simp
@[go_sem] def kbV (t:Tk):D:= .sl (ve (t.l.map qP))
@[go_sem] abbrev keN:FuncId:=113
@[go_sem] def wcL:Tab:=[(52,qJ)]
theorem qaz:za Tryz.prog wcL:=(za.cons uaa za.nil)
theorem vcg (t:Tk) (h:t.l.length≤1000000):ja Tryz.prog 113 [.agg [.c (.int .u64 (t.root:Int)), .sl (cvs t.l), .c (.int .i64 t.tag)]] (kbV t):=by
 refine .of (gea qaz (Nat.le_of_ble_eq_true rfl) ?_)
 simp -implicitDefEqProofs only [cdA,go_sem,Go.Proofs.Tryz.f113,simprocAttr, -Int.reduceEq,List.cons.injEq,cdB]
 refine fun _=>⟨⟨Int.le_refl _,by omega⟩,fun _=> ?_⟩
 refine SWp.loop (ι:={i:Nat // i≤t.l.length}) (fun i=>⟨[(3, .vec 1 t.l.length),(11, .sl (cvs t.l)),(12, .int .i64 t.l.length),(13, .int .i64 i.1)],[(1, .vec true 1 81 (ve (txH t i.1))),(0, .box [.c (.int .u64 t.root), .sl (cvs t.l), .c (.int .i64 t.tag)])],2⟩) (fun i=>t.l.length - i.1) ⟨0,by simp⟩ ?_ ?_
 ·simp [go_sem,veS,xbW]
 ·rintro⟨i,hi⟩
  refine ya qaz.toS gdg _ _ _ rfl ?_
  simp -implicitDefEqProofs only [cdA,go_sem,simprocAttr, -Int.reduceEq,List.cons.injEq,cdB]
  refine⟨fun h1=> ?_,fun h1=> ?_⟩
  ·have hi':i<t.l.length:=by omega
   rw [ycM hi']
   exact⟨h1,h1,⟨(xbW hi).symm,hi'⟩,⟨i+1,hi'⟩,by dsimp only;omega,i64_in _ (by omega),rfl⟩
  ·have hi':i=t.l.length:=by omega
   subst hi'
   rw [zcM]
   exact⟨by rw [List.length_map],_,_,_,rfl⟩
@[go_sem] def ucL (t:Tk):Prop:=(t.l.length≤1000000)
def xah:List D→Option (Prop×D×Fr)
 |[.agg [.c (.int .u64 z17), .c (.sl z18), .c (.int .i64 z19)]]=>some (z17=(z17.toNat:Int)∧z18=cvs (uc z18)∧ucL (⟨z17.toNat,(uc z18),z19⟩:Tk),kbV (⟨z17.toNat,(uc z18),z19⟩:Tk),[])
 |_=>none
attribute [go_sem] xah
theorem ybb:ga 113 xah:=by
 intro rs p r fr h hp
 unfold xah at h
 split at h<;>cases h
 obtain⟨hc0,hc1,hp⟩:=hp
 rename_i z17 z18 z19
 have:=vcg ⟨z17.toNat,(uc z18),z19⟩ hp
 rw [←hc0,←hc1]at this
 exact this
theorem wbh {l:List Tm} {t:Tm} (h:¬(bh l t).2.2=0):(bh l t).1=[]∧(bh l t).2.1=0:=by
 unfold bh at*
 split at h
 ·rename_i h1;rw [if_pos h1];exact⟨rfl,rfl⟩
 ·rename_i h1
  rw [if_neg h1]
  split at h
  ·rename_i h2;rw [if_pos h2];exact⟨rfl,rfl⟩
  ·rename_i h2
   rw [if_neg h2]
   split at h
   ·exact absurd rfl h
   ·rename_i h3
    split at h
    ·rename_i h4;rw [if_pos h4];exact⟨rfl,rfl⟩
    ·exact absurd rfl h
@[go_sem] def gbV (a:Ar) (root:Nat) (key:Nat):D:= .tup [.agg [.sl (tms (bh a.l ⟨key, -1,gm [root]⟩).1)], .agg [.int .u64 (if(bh a.l ⟨key, -1,gm [root]⟩).2.2=0 then root else 0:Nat), .sl (cvs []), .int .i64 (bh a.l ⟨key, -1,gm [root]⟩).2.1], .int .i64 (bh a.l ⟨key, -1,gm [root]⟩).2.2]
@[go_sem] abbrev veN:FuncId:=19
@[go_sem] def gcL:Tab:=[(60,wad),(61,x8)]
theorem kaz:za Tryz.prog gcL:=(za.cons ka7 (za.cons k8 za.nil))
theorem ucg (a:Ar) (root:Nat) (key:Nat):ja Tryz.prog 19 [.agg [.sl (tms a.l)], .c (.int .u64 (root:Int)), .c (.int .u64 (key:Int))] (gbV a root key):=by
 refine .of (bfj kaz (Nat.le_of_ble_eq_true rfl) ?_)
 simp -implicitDefEqProofs only [cdA,go_sem,Go.Proofs.Tryz.f19,simprocAttr, -Int.reduceEq,List.cons.injEq,cdB]
 refine xb.run wdw kaz qa (by kernel_rfl) (by kernel_rfl) ?_
 simp -implicitDefEqProofs only [cdA,go_sem,simprocAttr, -Int.reduceEq,List.cons.injEq,cdB]
 refine⟨fun h=>⟨⟨by rw [if_pos h],rfl⟩,h.symm⟩,fun h=> ?_⟩
 obtain⟨h1,h2⟩:=wbh h
 rw [if_neg h,h1,h2]
 exact⟨rfl,rfl,rfl,rfl⟩
def uY:List D→Option (Prop×D×Fr)
 |[.agg [.c (.sl z21)], .c (.int .u64 z22), .c (.int .u64 z23)]=>some (z21=tms (qb z21)∧z22=(z22.toNat:Int)∧z23=(z23.toNat:Int),gbV (⟨(qb z21)⟩:Ar) z22.toNat z23.toNat,[])
 |_=>none
attribute [go_sem] uY
theorem uan:ga 19 uY:=by
 intro rs p r fr h hp
 unfold uY at h
 split at h<;>cases h
 obtain⟨hc0,hc1,hc2⟩:=hp
 rename_i z21 z22 z23
 have:=ucg ⟨(qb z21)⟩ z22.toNat z23.toNat
 rw [←hc0,←hc1,←hc2]at this
 exact this
def gB (a:List Tm) (t:Tk) (c:Cv):List Tm×Tk×Int:=
 if¬ko c=0∨¬yac t=0∨¬kH a then([],default,1)else if t.l.length=16 then([],default,7)else
 if(yap a t.tag (qP c)).2.2=0 then((yap a t.tag (qP c)).1,⟨t.root,t.l++[c],(yap a t.tag (qP c)).2.1⟩,0)else([],default,(yap a t.tag (qP c)).2.2)
@[go_sem] def xbd (l:List Cv):D:= .csl (cvs l)
@[go_sem] abbrev bdP:FuncId:=56
@[go_sem] def jb1:Tab:=[]
theorem gaZ:za Tryz.prog jb1:=za.nil
theorem ubD (l:List Cv):ja Tryz.prog 56 [.sl (cvs l)] (xbd l):=by
 refine .of (yfn gaZ (Nat.le_of_ble_eq_true rfl) ?_)
 simp -implicitDefEqProofs only [cdA,go_sem,Go.Proofs.Tryz.f56,simprocAttr, -Int.reduceEq,List.cons.injEq,cdB]
 exact fun _ _=>⟨Int.le_refl _,by rw [List.take_length]⟩
def vU:List D→Option (Prop×D×Fr)
 |[.c (.sl z24)]=>some (z24=cvs (uc z24),xbd (uc z24),[])
 |_=>none
attribute [go_sem] vU
theorem kaT:ga 56 vU:=by
 intro rs p r fr h hp
 unfold vU at h
 split at h<;>cases h
 have hc0:=hp
 rename_i z24
 have:=ubD (uc z24)
 rw [←hc0]at this
 exact this
@[go_sem] def qbV (a:Ar) (t:Tk) (c:Cv):D:= .tup [.agg [.sl (tms (gB a.l t c).1)], .agg [.int .u64 ((gB a.l t c).2.1.root:Nat), .sl (cvs (gB a.l t c).2.1.l), .int .i64 (gB a.l t c).2.1.tag], .int .i64 (gB a.l t c).2.2]
@[go_sem] abbrev jeN:FuncId:=16
@[go_sem] def vcL:Tab:=[(52,qJ),(53,zB),(54,jt),(55,vad),(56,vU)]
theorem v8:za Tryz.prog vcL:=(za.cons uaa (za.cons vK (za.cons wD (za.cons ja7 (za.cons kaT za.nil)))))
theorem jcg (a:Ar) (t:Tk) (c:Cv):ja Tryz.prog 16 [.agg [.sl (tms a.l)], .agg [.c (.int .u64 (t.root:Int)), .sl (cvs t.l), .c (.int .i64 t.tag)], .agg [.c (.int .i64 c.kind), .c (.int .u64 (c.a:Int)), .c (.int .u64 (c.b:Int))]] (qbV a t c):=by
 refine .of (kfj v8 (Nat.le_of_ble_eq_true rfl) ?_)
 simp -implicitDefEqProofs only [cdA,go_sem,Go.Proofs.Tryz.f16,simprocAttr, -Int.reduceEq,List.cons.injEq,cdB]
 have hbad:∀e:Int,gB a.l t c=([],default,e)→tms (gB a.l t c).1=[]∧(0=((gB a.l t c).2.1.root:Int)∧cvs (gB a.l t c).2.1.l=[]∧0=(gB a.l t c).2.1.tag)∧e=(gB a.l t c).2.2:=fun e h=>by rw [h];exact⟨rfl,⟨rfl,rfl,rfl⟩,rfl⟩
 have hrz:ym a.l=0↔kH a.l:=by unfold ym zn;split<;>rename_i h<;>simp only [h]<;>decide
 refine⟨fun h1=>⟨fun h2=>⟨fun h3 _=> ?_,fun h3=>hbad 1 (by rw [gB,if_pos (.inr (.inr fun h=>h3 (hrz.2 h)))])⟩,fun h2=>hbad 1 (by rw [gB,if_pos (.inr (.inl h2))])⟩,fun h1=>hbad 1 (by rw [gB,if_pos (.inl h1)])⟩
 have hno:¬(¬ko c=0∨¬yac t=0∨¬kH a.l):=by
  rintro(h|h|h)
  ·exact h h1
  ·exact h h2
  ·exact h (hrz.1 h3)
 have ht16:t.l.length≤16:=by
  unfold yac at h2
  split at h2
  ·rename_i h;exact h.1
  ·cases h2
 refine⟨fun h4=>hbad 7 (by rw [gB,if_neg hno,if_pos (by omega)]),fun h4=>⟨fun h5=> ?_,fun h5=>hbad _ (by rw [gB,if_neg hno,if_neg (by omega),if_neg h5])⟩⟩
 have hfin:gB a.l t c=((yap a.l t.tag (qP c)).1,⟨t.root,t.l++[c],(yap a.l t.tag (qP c)).2.1⟩,0):=by rw [gB,if_neg hno,if_neg (by omega),if_pos h5]
 rw [hfin]
 refine xb.run vdw v8 qa (by kernel_rfl) (by kernel_rfl) ?_
 simp -implicitDefEqProofs only [cdA,go_sem,simprocAttr, -Int.reduceEq,List.cons.injEq,cdB]
 refine⟨⟨by simp [cvs],by omega⟩, ?_⟩
 refine xb.run vcN v8 qa (by kernel_rfl) (by kernel_rfl) ?_
 simp -implicitDefEqProofs only [cdA,go_sem,simprocAttr, -Int.reduceEq,List.cons.injEq,cdB]
 exact⟨_,_,_,rfl⟩
def yah:List D→Option (Prop×D×Fr)
 |[.agg [.c (.sl z26)], .agg [.c (.int .u64 z28), .c (.sl z29), .c (.int .i64 z30)], .agg [.c (.int .i64 z32), .c (.int .u64 z33), .c (.int .u64 z34)]]=>some (z26=tms (qb z26)∧z28=(z28.toNat:Int)∧z29=cvs (uc z29)∧z33=(z33.toNat:Int)∧z34=(z34.toNat:Int),qbV (⟨(qb z26)⟩:Ar) (⟨z28.toNat,(uc z29),z30⟩:Tk) (⟨z32,z33.toNat,z34.toNat⟩:Cv),[])
 |_=>none
attribute [go_sem] yah
theorem zbb:ga 16 yah:=by
 intro rs p r fr h hp
 unfold yah at h
 split at h<;>cases h
 obtain⟨hc0,hc1,hc2,hc3,hc4⟩:=hp
 rename_i z26 z28 z29 z30 z32 z33 z34
 have:=jcg ⟨(qb z26)⟩ ⟨z28.toNat,(uc z29),z30⟩ ⟨z32,z33.toNat,z34.toNat⟩
 rw [←hc0,←hc1,←hc2,←hc3,←hc4]at this
 exact this
end Dm
namespace Dm
open Go Go.Proofs Go.IntWalk
def yas (a:List Tm) (key:Nat) (t:Tk):Bool×Int:=if¬vaY t∨¬kH a then(false,1)else(decide ((ku a key (gm [t.root]) (t.l.map qP)).2=0∧(ku a key (gm [t.root]) (t.l.map qP)).1=t.tag),0)
@[go_sem] def uaX (a:Ar) (key:Nat) (t:Tk):D:= .tup [.bool (yas a.l key t).1, .int .i64 (yas a.l key t).2]
@[go_sem] abbrev vdp:FuncId:=44
@[go_sem] def ybW:Tab:=[(53,zB),(54,jt),(113,xah),(112,kad),(61,x8)]
theorem gab:za Tryz.prog ybW:=(za.cons vK (za.cons wD (za.cons ybb (za.cons qa7 (za.cons k8 za.nil)))))
theorem vbz (a:Ar) (key:Nat) (t:Tk):ja Tryz.prog 44 [.agg [.sl (tms a.l)], .c (.int .u64 (key:Int)), .agg [.c (.int .u64 (t.root:Int)), .sl (cvs t.l), .c (.int .i64 t.tag)]] (uaX a key t):=by
 refine .of (zfm gab (Nat.le_of_ble_eq_true rfl) ?_)
 simp -implicitDefEqProofs only [cdA,go_sem,Go.Proofs.Tryz.f44,simprocAttr, -Int.reduceEq,List.cons.injEq,cdB]
 have hbad:(¬vaY t∨¬kH a.l)→false=(yas a.l key t).1∧1=(yas a.l key t).2:=fun h=>by rw [yas,if_pos h];exact⟨rfl,rfl⟩
 have hrz:ym a.l=0↔kH a.l:=by unfold ym zn;split<;>rename_i h<;>simp only [h]<;>decide
 have htz:yac t=0↔vaY t:=by unfold yac;split<;>rename_i h<;>simp only [h]<;>decide
 refine⟨fun h1=>⟨fun h2=> ?_,fun h2=>hbad (.inr fun h=>h2 (hrz.2 h))⟩,fun h1=>hbad (.inl fun h=>h1 (htz.2 h))⟩
 have ht:=htz.1 h1
 have ht16:=ht.1
 have hfin:yas a.l key t=(decide ((ku a.l key (gm [t.root]) (t.l.map qP)).2=0∧(ku a.l key (gm [t.root]) (t.l.map qP)).1=t.tag),0):=by
  rw [yas,if_neg]
  rintro(h|h)
  ·exact h ht
  ·exact h (hrz.1 h2)
 rw [hfin]
 refine xb.run jdx gab qa (by kernel_rfl) (by kernel_rfl) ?_
 simp -implicitDefEqProofs only [cdA,go_sem,simprocAttr, -Int.reduceEq,List.cons.injEq,cdB]
 exact⟨by omega,fun h=>by rw [decide_eq_decide];exact⟨fun h3=>⟨h,h3⟩,fun h3=>h3.2⟩,fun h=>(decide_eq_false fun h3=>h h3.1).symm⟩
def kO:List D→Option (Prop×D×Fr)
 |[.agg [.c (.sl z2)], .c (.int .u64 z3), .agg [.c (.int .u64 z5), .c (.sl z6), .c (.int .i64 z7)]]=>some (z2=tms (qb z2)∧z3=(z3.toNat:Int)∧z5=(z5.toNat:Int)∧z6=cvs (uc z6),uaX (⟨(qb z2)⟩:Ar) z3.toNat (⟨z5.toNat,(uc z6),z7⟩:Tk),[])
 |_=>none
attribute [go_sem] kO
theorem kaG:ga 44 kO:=by
 intro rs p r fr h hp
 unfold kO at h
 split at h<;>cases h
 obtain⟨hc0,hc1,hc2,hc3⟩:=hp
 rename_i z2 z3 z5 z6 z7
 have:=vbz ⟨(qb z2)⟩ z3.toNat ⟨z5.toNat,(uc z6),z7⟩
 rw [←hc0,←hc1,←hc2,←hc3]at this
 exact this
structure Us where
 tick:Nat
 method:Int
 amount:Nat
 who:Nat
deriving DecidableEq,Inhabited
@[go_sem] def Us.enc (e:Us):List C:=[.int .u64 (e.tick:Int), .int .i64 e.method, .int .u64 (e.amount:Int), .int .u64 (e.who:Int)]
def Us.dec:List C→Us
 |[.int .u64 z9, .int .i64 z10, .int .u64 z11, .int .u64 z12]=>(⟨z9.toNat,z10,z11.toNat,z12.toNat⟩:Us)
 |_=>default
def uss (l:List Us):List (List C):=l.map Us.enc
def ze6 (l:List (List C)):List Us:=l.map Us.dec
@[simp,go_sem] theorem qc6 (l:List Us):(uss l).length=l.length:=by simp [uss]
@[go_sem] theorem jeX (l:List Us) (i:Nat):(uss l).getD i [.int .u64 0, .int .i64 0, .int .u64 0, .int .u64 0]=(l.getD i default).enc:=by
 simp only [uss,List.getD_eq_getElem?_getD,List.getElem?_map]
 cases l[i]? <;>rfl
@[go_sem] theorem jd3 (l:List Us):bf 4 (uss l)=True:=by
 simp [bf,uss,Us.enc]
theorem Us.jc (e:Us):Us.dec e.enc=e:=by
 simp [Us.enc,Us.dec]
@[go_sem] theorem ydI (l:List Us):ze6 (uss l)=l:=by
 simp only [ze6,uss,List.map_map]
 exact List.map_id'' (fun e=>Us.jc e) l
@[go_sem] theorem qeX (a b:List Us):uss a++uss b=uss (a++b):=by simp [uss]
@[go_sem] theorem yd3 (l:List Us) (k:Nat):(uss l).drop k=uss (l.drop k):=by simp [uss]
@[go_sem] theorem qd3 (l:List Us) (k:Nat):(uss l).take k=uss (l.take k):=by simp [uss]
@[go_sem] theorem keX (z13:Int) (z14:Int) (z15:Int) (z16:Int) (hz13:0≤z13) (hz15:0≤z15) (hz16:0≤z16):[[C.int .u64 z13,C.int .i64 z14,C.int .u64 z15,C.int .u64 z16]]=uss [⟨z13.toNat,z14,z15.toNat,z16.toNat⟩]:=by simp [uss,Us.enc,Int.toNat_of_nonneg hz13,Int.toNat_of_nonneg hz15,Int.toNat_of_nonneg hz16]
@[go_sem] theorem veX (l:List Us) (i:Nat) (z13:Int) (z14:Int) (z15:Int) (z16:Int) (hz13:0≤z13) (hz15:0≤z15) (hz16:0≤z16):(uss l).set i [C.int .u64 z13,C.int .i64 z14,C.int .u64 z15,C.int .u64 z16]=uss (l.set i ⟨z13.toNat,z14,z15.toNat,z16.toNat⟩):=by simp [uss,List.map_set,Us.enc,Int.toNat_of_nonneg hz13,Int.toNat_of_nonneg hz15,Int.toNat_of_nonneg hz16]
@[go_sem] theorem zd3 (l:List Us) (z13:Int) (z14:Int) (z15:Int) (z16:Int) (hz13:0≤z13) (hz15:0≤z15) (hz16:0≤z16):[C.int .u64 z13,C.int .i64 z14,C.int .u64 z15,C.int .u64 z16]::uss l=uss (⟨z13.toNat,z14,z15.toNat,z16.toNat⟩::l):=by simp [uss,Us.enc,Int.toNat_of_nonneg hz13,Int.toNat_of_nonneg hz15,Int.toNat_of_nonneg hz16]
@[go_sem] theorem xd3 (l:List Us):bZ (uss l)=True:=eq_true fun x hx c hc=>by
 obtain⟨e,_,rfl⟩:=List.mem_map.1 hx
 simp only [Us.enc,List.mem_cons,List.not_mem_nil,or_false]at hc
 rcases hc with rfl|rfl|rfl|rfl<;>rfl
@[go_sem] theorem Us.eta {e:Us}:(⟨e.tick,e.method,e.amount,e.who⟩:Us)=e:=rfl
def jbA (u:Us):Bool:=decide (0≤u.method∧u.method<16∧u.amount≤4611686018427387904)
@[go_sem] def yck (u:Us):D:= .bool (jbA u)
@[go_sem] abbrev gfb:FuncId:=59
@[go_sem] def udb:Tab:=[(122,yf)]
theorem bbC:za Tryz.prog udb:=(za.cons we za.nil)
theorem ucs (u:Us):ja Tryz.prog 59 [.agg [.c (.int .u64 (u.tick:Int)), .c (.int .i64 u.method), .c (.int .u64 (u.amount:Int)), .c (.int .u64 (u.who:Int))]] (yck u):=by
 refine .of (jfn bbC (Nat.le_of_ble_eq_true rfl) ?_)
 simp -implicitDefEqProofs only [cdA,go_sem,Go.Proofs.Tryz.f59,simprocAttr, -Int.reduceEq,List.cons.injEq,cdB]
 unfold jbA
 refine⟨fun h1=>⟨fun h2=> ?_,fun h2=>(decide_eq_false fun h=>h2 h.2.1).symm⟩,fun h1=>(decide_eq_false fun h=>h1 h.1).symm⟩
 rw [decide_eq_decide,gG]
 exact⟨fun h=>⟨h1,h2,h⟩,fun h=>h.2.2⟩
def gam:List D→Option (Prop×D×Fr)
 |[.agg [.c (.int .u64 z18), .c (.int .i64 z19), .c (.int .u64 z20), .c (.int .u64 z21)]]=>some (z18=(z18.toNat:Int)∧z20=(z20.toNat:Int)∧z21=(z21.toNat:Int),yck (⟨z18.toNat,z19,z20.toNat,z21.toNat⟩:Us),[])
 |_=>none
attribute [go_sem] gam
theorem gay:ga 59 gam:=by
 intro rs p r fr h hp
 unfold gam at h
 split at h<;>cases h
 obtain⟨hc0,hc1,hc2⟩:=hp
 rename_i z18 z19 z20 z21
 have:=ucs ⟨z18.toNat,z19,z20.toNat,z21.toNat⟩
 rw [←hc0,←hc1,←hc2]at this
 exact this
def gn (c:Cv) (u:Us):Bool:=if c.kind=1 then decide (u.tick≤c.a)else if c.kind=2 then decide (c.a / 2^u.method.toNat % 2=1)else if c.kind=3∨c.kind=4 then decide (u.amount≤c.a)else decide (u.who=c.a)
def uo (c:Cv) (u:Us):Bool×Int:=if ko c=0∧jbA u=true then(gn c u,0)else(false,1)
@[go_sem] def zbd (c:Cv) (u:Us):D:= .tup [.bool (uo c u).1, .int .i64 (uo c u).2]
@[go_sem] abbrev udP:FuncId:=18
@[go_sem] def vb0:Tab:=[(58,xh),(59,gam)]
theorem vaZ:za Tryz.prog vb0:=(za.cons wh (za.cons gay za.nil))
theorem ubC (c:Cv) (u:Us):ja Tryz.prog 18 [.agg [.c (.int .i64 c.kind), .c (.int .u64 (c.a:Int)), .c (.int .u64 (c.b:Int))], .agg [.c (.int .u64 (u.tick:Int)), .c (.int .i64 u.method), .c (.int .u64 (u.amount:Int)), .c (.int .u64 (u.who:Int))]] (zbd c u):=by
 refine .of (ufj vaZ (Nat.le_of_ble_eq_true rfl) ?_)
 simp -implicitDefEqProofs only [cdA,go_sem,Go.Proofs.Tryz.f18,simprocAttr, -Int.reduceEq,List.cons.injEq,cdB]
 have hbad:¬(ko c=0∧jbA u=true)→false=(uo c u).1∧1=(uo c u).2:=fun h=>by rw [uo,if_neg h];exact⟨rfl,rfl⟩
 refine⟨fun h1=>⟨fun h2=> ?_,fun h2=>hbad fun h=>by rw [h2]at h;exact absurd h.2 (by decide)⟩,fun h1=>hbad fun h=>h1 h.1⟩
 have hfin:uo c u=(gn c u,0):=by rw [uo,if_pos ⟨h1,h2⟩]
 rw [hfin]
 have hu:=of_decide_eq_true h2
 unfold gn
 refine⟨fun k1=> ?_,fun k1=>⟨fun k2=> ?_,fun k2=>⟨fun k3=> ?_,fun k3=>⟨fun k4=> ?_,fun k4=>⟨fun k5=> ?_,fun k5=> ?_⟩⟩⟩⟩⟩
 ·rw [if_pos k1];exact⟨by rw [decide_eq_decide];omega,rfl⟩
 ·rw [if_neg k1,if_pos k2]
  have hc:c.a<65536:=by
   unfold ko at h1
   split at h1
   ·rename_i h;omega
   ·cases h1
  have e2:(c.a:Int).fdiv (2^min u.method.toNat 64)=((c.a / 2^u.method.toNat:Nat):Int):=by
   rw [show min u.method.toNat 64=u.method.toNat by omega,Int.fdiv_eq_ediv_of_nonneg _ (Int.le_of_lt (Int.pow_pos (by decide))),Int.natCast_ediv,Int.natCast_pow];rfl
  have hle:c.a / 2^u.method.toNat<18446744073709551616:=by have:=Nat.div_le_self c.a (2^u.method.toNat);omega
  have e3:=yex (a:=c.a / 2^u.method.toNat) (b:=1) hle (by decide)
  rw [e2]
  refine⟨hu.1, ?_,rfl⟩
  rw [decide_eq_decide,show(1:Int)=((1:Nat):Int)from rfl,e3,Nat.and_one_is_mod]
  omega
 ·rw [if_neg k1,if_neg k2,if_pos (.inl k3)];exact⟨by rw [decide_eq_decide];omega,rfl⟩
 ·rw [if_neg k1,if_neg k2,if_pos (.inr k4)];exact⟨by rw [decide_eq_decide];omega,rfl⟩
 ·rw [if_neg k1,if_neg k2,if_neg (by omega)];exact⟨by rw [decide_eq_decide];omega,rfl⟩
 ·exfalso
  unfold ko at h1
  split at h1
  ·rename_i h;omega
  ·cases h1
def jU:List D→Option (Prop×D×Fr)
 |[.agg [.c (.int .i64 z23), .c (.int .u64 z24), .c (.int .u64 z25)], .agg [.c (.int .u64 z27), .c (.int .i64 z28), .c (.int .u64 z29), .c (.int .u64 z30)]]=>some (z24=(z24.toNat:Int)∧z25=(z25.toNat:Int)∧z27=(z27.toNat:Int)∧z29=(z29.toNat:Int)∧z30=(z30.toNat:Int),zbd (⟨z23,z24.toNat,z25.toNat⟩:Cv) (⟨z27.toNat,z28,z29.toNat,z30.toNat⟩:Us),[])
 |_=>none
attribute [go_sem] jU
theorem qaT:ga 18 jU:=by
 intro rs p r fr h hp
 unfold jU at h
 split at h<;>cases h
 obtain⟨hc0,hc1,hc2,hc3,hc4⟩:=hp
 rename_i z23 z24 z25 z27 z28 z29 z30
 have:=ubC ⟨z23,z24.toNat,z25.toNat⟩ ⟨z27.toNat,z28,z29.toNat,z30.toNat⟩
 rw [←hc0,←hc1,←hc2,←hc3,←hc4]at this
 exact this
def kao (l:List Cv) (u:Us):Bool×Int:=if l.length≤16∧jbA u=true∧∀c∈l,ko c=0 then(l.all fun c=>gn c u,0)else(false,1)
@[go_sem] def wbD (l:List Cv) (u:Us):D:= .tup [.bool (kao l u).1, .int .i64 (kao l u).2]
@[go_sem] abbrev ueJ:FuncId:=46
@[go_sem] def jct:Tab:=[(18,jU),(59,gam)]
theorem bas:za Tryz.prog jct:=(za.cons qaT (za.cons gay za.nil))
theorem qb1 (l:List Cv) (u:Us):ja Tryz.prog 46 [.sl (cvs l), .agg [.c (.int .u64 (u.tick:Int)), .c (.int .i64 u.method), .c (.int .u64 (u.amount:Int)), .c (.int .u64 (u.who:Int))]] (wbD l u):=by
 refine .of (xfm bas (Nat.le_of_ble_eq_true rfl) ?_)
 simp -implicitDefEqProofs only [cdA,go_sem,Go.Proofs.Tryz.f46,simprocAttr, -Int.reduceEq,List.cons.injEq,cdB]
 have hbad:¬(l.length≤16∧jbA u=true∧∀c∈l,ko c=0)→false=(kao l u).1∧1=(kao l u).2:=fun h=>by rw [kao,if_neg h];exact⟨rfl,rfl⟩
 refine fun _=>⟨fun h1=>⟨fun h2 _=> ?_,fun h2=>hbad fun h=>by rw [h2]at h;exact absurd h.2.1 (by decide)⟩,fun h1=>hbad fun h=>by have:=h.1;omega⟩
 refine SWp.loop (ι:={i:Nat // i≤l.length∧∀j,j<i→ko (l.getD j default)=0}) (fun i=>⟨[(3, .ref 0 0),(6, .bool ((l.take i.1).all fun c=>gn c u)),(19, .sl (cvs l)),(20, .int .i64 l.length),(21, .int .i64 i.1)],
  [(0, .box [.c (.int .u64 u.tick), .c (.int .i64 u.method), .c (.int .u64 u.amount), .c (.int .u64 u.who)])],1⟩) (fun i=>l.length - i.1) ⟨0,by simp⟩ ?_ ?_
 ·simp [go_sem]
 ·rintro⟨i,hi,hall⟩
  refine ya bas.toS qe9 _ _ _ rfl ?_
  simp -implicitDefEqProofs only [cdA,go_sem,simprocAttr, -Int.reduceEq,List.cons.injEq,cdB]
  have hh:ko (l.getD i default)=0→uo (l.getD i default) u=(gn (l.getD i default) u,0):=fun h=>by rw [uo,if_pos ⟨h,h2⟩]
  have hh1:(uo (l.getD i default) u).2=0→ko (l.getD i default)=0:=fun h=>by
   unfold uo at h
   split at h
   ·rename_i h3;exact h3.1
   ·cases h
  refine⟨fun h3=>⟨h3,fun h4=> ?_,fun h4=> ?_⟩,fun h3=> ?_⟩
  ·have hi':i<l.length:=by omega
   have hc:=hh1 h4
   have htk:=take_succ hi'
   have hnx:∀j,j<i+1→ko (l.getD j default)=0:=fun j hj=>by
    by_cases hji:j=i
    ·subst hji;exact hc
    ·exact hall j (by omega)
   refine⟨fun h5=>⟨⟨i+1,hi',hnx⟩,by dsimp only;omega, ?_,i64_in _ (by omega)⟩,fun h5=>⟨⟨i+1,hi',hnx⟩,by dsimp only;omega, ?_,i64_in _ (by omega)⟩⟩
   ·dsimp only;rw [htk,List.all_append,h5,hh hc];simp
   ·dsimp only;rw [htk,List.all_append,h5];rfl
  ·have hc:¬ko (l.getD i default)=0:=fun h=>h4 (by rw [hh h])
   have e:uo (l.getD i default) u=(false,1):=by rw [uo,if_neg fun h=>hc h.1]
   rw [e]
   exact hbad fun h=>hc (h.2.2 _ (va.2 ⟨i,by omega,rfl⟩))
  ·have hi':i=l.length:=by omega
   subst hi'
   have:kao l u=(l.all fun c=>gn c u,0):=by
    rw [kao,if_pos ⟨by omega,h2,fun c hc=>by obtain⟨j,hj,rfl⟩:=va.1 hc;exact hall j hj⟩]
   rw [this,List.take_length];exact⟨rfl,rfl⟩
def xae:List D→Option (Prop×D×Fr)
 |[.c (.sl z31), .agg [.c (.int .u64 z33), .c (.int .i64 z34), .c (.int .u64 z35), .c (.int .u64 z36)]]=>some (z31=cvs (uc z31)∧z33=(z33.toNat:Int)∧z35=(z35.toNat:Int)∧z36=(z36.toNat:Int),wbD (uc z31) (⟨z33.toNat,z34,z35.toNat,z36.toNat⟩:Us),[])
 |_=>none
attribute [go_sem] xae
theorem ba7:ga 46 xae:=by
 intro rs p r fr h hp
 unfold xae at h
 split at h<;>cases h
 obtain⟨hc0,hc1,hc2,hc3⟩:=hp
 rename_i z31 z33 z34 z35 z36
 have:=qb1 (uc z31) ⟨z33.toNat,z34,z35.toNat,z36.toNat⟩
 rw [←hc0,←hc1,←hc2,←hc3]at this
 exact this
end Dm
namespace Dm
open Go Go.Proofs Go.IntWalk
structure Hd where
 id:Nat
 n:Nat
deriving DecidableEq,Inhabited
@[go_sem] def Hd.enc (e:Hd):List C:=[.int .u64 (e.id:Int), .int .u64 (e.n:Int)]
def Hd.dec:List C→Hd
 |[.int .u64 z9, .int .u64 z10]=>(⟨z9.toNat,z10.toNat⟩:Hd)
 |_=>default
def hds (l:List Hd):List (List C):=l.map Hd.enc
def bn (l:List (List C)):List Hd:=l.map Hd.dec
@[simp,go_sem] theorem ucX (l:List Hd):(hds l).length=l.length:=by simp [hds]
@[go_sem] theorem uew (l:List Hd) (i:Nat):(hds l).getD i [.int .u64 0, .int .u64 0]=(l.getD i default).enc:=by
 simp only [hds,List.getD_eq_getElem?_getD,List.getElem?_map]
 cases l[i]? <;>rfl
@[go_sem] theorem wdL (l:List Hd):bf 2 (hds l)=True:=by
 simp [bf,hds,Hd.enc]
theorem Hd.jc (e:Hd):Hd.dec e.enc=e:=by
 simp [Hd.enc,Hd.dec]
@[go_sem] theorem kaA (l:List Hd):bn (hds l)=l:=by
 simp only [bn,hds,List.map_map]
 exact List.map_id'' (fun e=>Hd.jc e) l
@[go_sem] theorem wew (a b:List Hd):hds a++hds b=hds (a++b):=by simp [hds]
@[go_sem] theorem jdL (l:List Hd) (k:Nat):(hds l).drop k=hds (l.drop k):=by simp [hds]
@[go_sem] theorem vdL (l:List Hd) (k:Nat):(hds l).take k=hds (l.take k):=by simp [hds]
@[go_sem] theorem gew (z11:Int) (z12:Int) (hz11:0≤z11) (hz12:0≤z12):[[C.int .u64 z11,C.int .u64 z12]]=hds [⟨z11.toNat,z12.toNat⟩]:=by simp [hds,Hd.enc,Int.toNat_of_nonneg hz11,Int.toNat_of_nonneg hz12]
@[go_sem] theorem bew (l:List Hd) (i:Nat) (z11:Int) (z12:Int) (hz11:0≤z11) (hz12:0≤z12):(hds l).set i [C.int .u64 z11,C.int .u64 z12]=hds (l.set i ⟨z11.toNat,z12.toNat⟩):=by simp [hds,List.map_set,Hd.enc,Int.toNat_of_nonneg hz11,Int.toNat_of_nonneg hz12]
@[go_sem] theorem qdL (l:List Hd) (z11:Int) (z12:Int) (hz11:0≤z11) (hz12:0≤z12):[C.int .u64 z11,C.int .u64 z12]::hds l=hds (⟨z11.toNat,z12.toNat⟩::l):=by simp [hds,Hd.enc,Int.toNat_of_nonneg hz11,Int.toNat_of_nonneg hz12]
@[go_sem] theorem kdL (l:List Hd):bZ (hds l)=True:=eq_true fun x hx c hc=>by
 obtain⟨e,_,rfl⟩:=List.mem_map.1 hx
 simp only [Hd.enc,List.mem_cons,List.not_mem_nil,or_false]at hc
 rcases hc with rfl|rfl<;>rfl
@[go_sem] theorem Hd.eta {e:Hd}:(⟨e.id,e.n⟩:Hd)=e:=rfl
structure Ch where
 id:Nat
 loc:Nat
 rem:Nat
 res:Nat
 most:Nat
 holds:List Hd
 op:Bool
deriving DecidableEq,Inhabited
@[go_sem] def Ch.enc (e:Ch):List C:=[.int .u64 (e.id:Int), .int .u64 (e.loc:Int), .int .u64 (e.rem:Int), .int .u64 (e.res:Int), .int .u64 (e.most:Int), .sl (hds e.holds), .bool e.op]
def Ch.dec:List C→Ch
 |[.int .u64 z14, .int .u64 z15, .int .u64 z16, .int .u64 z17, .int .u64 z18, .sl z19, .bool z20]=>(⟨z14.toNat,z15.toNat,z16.toNat,z17.toNat,z18.toNat,(bn z19),z20⟩:Ch)
 |_=>default
def chs (l:List Ch):List (List C):=l.map Ch.enc
def yb (l:List (List C)):List Ch:=l.map Ch.dec
@[simp,go_sem] theorem kcS (l:List Ch):(chs l).length=l.length:=by simp [chs]
@[go_sem] theorem weq (l:List Ch) (i:Nat):(chs l).getD i [.int .u64 0, .int .u64 0, .int .u64 0, .int .u64 0, .int .u64 0, .sl [], .bool false]=(l.getD i default).enc:=by
 simp only [chs,List.getD_eq_getElem?_getD,List.getElem?_map]
 cases l[i]? <;>rfl
@[go_sem] theorem gdF (l:List Ch):bf 7 (chs l)=True:=by
 simp [bf,chs,Ch.enc]
theorem Ch.jc (e:Ch):Ch.dec e.enc=e:=by
 simp [Ch.enc,Ch.dec,kaA]
@[go_sem] theorem qbd (l:List Ch):yb (chs l)=l:=by
 simp only [yb,chs,List.map_map]
 exact List.map_id'' (fun e=>Ch.jc e) l
@[go_sem] theorem veq (a b:List Ch):chs a++chs b=chs (a++b):=by simp [chs]
@[go_sem] theorem wdF (l:List Ch) (k:Nat):(chs l).drop k=chs (l.drop k):=by simp [chs]
@[go_sem] theorem udF (l:List Ch) (k:Nat):(chs l).take k=chs (l.take k):=by simp [chs]
@[go_sem] theorem ueq (z21:Int) (z22:Int) (z23:Int) (z24:Int) (z25:Int) (z26:List Hd) (z27:Bool) (hz21:0≤z21) (hz22:0≤z22) (hz23:0≤z23) (hz24:0≤z24) (hz25:0≤z25):[[C.int .u64 z21,C.int .u64 z22,C.int .u64 z23,C.int .u64 z24,C.int .u64 z25,C.sl (hds z26),C.bool z27]]=chs [⟨z21.toNat,z22.toNat,z23.toNat,z24.toNat,z25.toNat,z26,z27⟩]:=by simp [chs,Ch.enc,Int.toNat_of_nonneg hz21,Int.toNat_of_nonneg hz22,Int.toNat_of_nonneg hz23,Int.toNat_of_nonneg hz24,Int.toNat_of_nonneg hz25]
@[go_sem] theorem zer (l:List Ch) (i:Nat) (z21:Int) (z22:Int) (z23:Int) (z24:Int) (z25:Int) (z26:List Hd) (z27:Bool) (hz21:0≤z21) (hz22:0≤z22) (hz23:0≤z23) (hz24:0≤z24) (hz25:0≤z25):(chs l).set i [C.int .u64 z21,C.int .u64 z22,C.int .u64 z23,C.int .u64 z24,C.int .u64 z25,C.sl (hds z26),C.bool z27]=chs (l.set i ⟨z21.toNat,z22.toNat,z23.toNat,z24.toNat,z25.toNat,z26,z27⟩):=by simp [chs,List.map_set,Ch.enc,Int.toNat_of_nonneg hz21,Int.toNat_of_nonneg hz22,Int.toNat_of_nonneg hz23,Int.toNat_of_nonneg hz24,Int.toNat_of_nonneg hz25]
@[go_sem] theorem vdF (l:List Ch) (z21:Int) (z22:Int) (z23:Int) (z24:Int) (z25:Int) (z26:List Hd) (z27:Bool) (hz21:0≤z21) (hz22:0≤z22) (hz23:0≤z23) (hz24:0≤z24) (hz25:0≤z25):[C.int .u64 z21,C.int .u64 z22,C.int .u64 z23,C.int .u64 z24,C.int .u64 z25,C.sl (hds z26),C.bool z27]::chs l=chs (⟨z21.toNat,z22.toNat,z23.toNat,z24.toNat,z25.toNat,z26,z27⟩::l):=by simp [chs,Ch.enc,Int.toNat_of_nonneg hz21,Int.toNat_of_nonneg hz22,Int.toNat_of_nonneg hz23,Int.toNat_of_nonneg hz24,Int.toNat_of_nonneg hz25]
@[go_sem] theorem Ch.eta {e:Ch}:(⟨e.id,e.loc,e.rem,e.res,e.most,e.holds,e.op⟩:Ch)=e:=rfl
def Hd.key (h:Hd):Nat:=h.id
def held (l:List Hd):Nat:=(l.map Hd.n).sum
abbrev ltN (a b:Nat):Prop:=a<b
abbrev MM:Nat:=4611686018427387904
def waN (c:Ch):Prop:=c.res≤MM∧c.most≤MM∧c.holds.length≤64∧(c.op=false→c.holds=[])∧(∀h∈c.holds,h.n≠0)∧Srt.Chn Hd.key ltN c.holds∧held c.holds≤c.most∧c.loc≤MM∧c.rem≤MM∧held c.holds+c.loc+c.rem≤MM
instance (l:List Hd):Decidable (Srt.Chn Hd.key ltN l):=by unfold Srt.Chn;infer_instance
instance (c:Ch):Decidable (waN c):=by unfold waN;infer_instance
def ki (c:Ch):Nat×Nat×Int:=if waN c then(held c.holds,held c.holds+c.loc+c.rem,0)else(0,0,1)
@[go_sem] def wbe (h:Hd) (id:Nat):D:= .int .i64 (vai h.id id)
@[go_sem] abbrev jdQ:FuncId:=261
@[go_sem] def kb5:Tab:=[(225,gP)]
theorem ja0:za Tryz.prog kb5:=(za.cons wu za.nil)
theorem ubG (h:Hd) (id:Nat):ja Tryz.prog 261 [.agg [.c (.int .u64 (h.id:Int)), .c (.int .u64 (h.n:Int))], .c (.int .u64 (id:Int))] (wbe h id):=by
 refine .of (bem ja0 (Nat.le_of_ble_eq_true rfl) ?_)
 simp -implicitDefEqProofs only [cdA,go_sem,Go.Proofs.Tryz.f261,simprocAttr, -Int.reduceEq,List.cons.injEq,cdB]
def bU:List D→Option (Prop×D×Fr)
 |[.agg [.c (.int .u64 z29), .c (.int .u64 z30)], .c (.int .u64 z31)]=>some (z29=(z29.toNat:Int)∧z30=(z30.toNat:Int)∧z31=(z31.toNat:Int),wbe (⟨z29.toNat,z30.toNat⟩:Hd) z31.toNat,[])
 |_=>none
attribute [go_sem] bU
theorem uaT:ga 261 bU:=by
 intro rs p r fr h hp
 unfold bU at h
 split at h<;>cases h
 obtain⟨hc0,hc1,hc2⟩:=hp
 rename_i z29 z30 z31
 have:=ubG ⟨z29.toNat,z30.toNat⟩ z31.toNat
 rw [←hc0,←hc1,←hc2]at this
 exact this
@[go_sem] def kbD (c:Ch):D:= .tup [.int .u64 ((ki c).1:Int), .int .u64 ((ki c).2.1:Int), .int .i64 (ki c).2.2]
@[go_sem] abbrev weJ:FuncId:=259
@[go_sem] def yct:Tab:=[(122,yf),(198,gu),(261,bU)]
theorem gZ:za Tryz.prog yct:=(za.cons we (za.cons gw (za.cons uaT za.nil)))
theorem zb1 (c:Ch):ja Tryz.prog 259 [.agg [.c (.int .u64 (c.id:Int)), .c (.int .u64 (c.loc:Int)), .c (.int .u64 (c.rem:Int)), .c (.int .u64 (c.res:Int)), .c (.int .u64 (c.most:Int)), .sl (hds c.holds), .c (.bool c.op)]] (kbD c):=by
 refine .of (uem gZ (Nat.le_of_ble_eq_true rfl) ?_)
 simp -implicitDefEqProofs only [cdA,go_sem,Go.Proofs.Tryz.f259,simprocAttr, -Int.reduceEq,List.cons.injEq,cdB]
 have hbad:¬waN c→0=((ki c).1:Int)∧0=((ki c).2.1:Int)∧1=(ki c).2.2:=fun h=>by simp [ki,if_neg h]
 have hmon:bO [c.res,c.most]=0↔c.res≤MM∧c.most≤MM:=by rw [ueI];split<;>simp_all
 rw [hmon]
 refine⟨fun h1 hl=>⟨fun h2=>⟨fun h3 _=>⟨fun h4=>hbad fun h=> ?_,fun h4 _=> ?_⟩,fun h3 _=> ?_⟩,fun h2=>hbad fun h=> ?_⟩,fun h1=>hbad fun h=>h1 ⟨h.1,h.2.1⟩⟩
 ·have:=h.2.2.2.1 (by simpa using h3)
  rw [this]at h4;simp at h4
 rotate_left 2
 ·have:=h.2.2.1;omega
 all_goals
  have hop:c.op=false→c.holds=[]:=fun h=>by first|(rw [h]at h3;cases h3;done)|exact List.eq_nil_of_length_eq_zero (by omega)
  refine SWp.loop (ι:={i:Nat // i≤c.holds.length∧held (c.holds.take i)≤c.most∧(∀j,j<i→(c.holds.getD j default).n≠0∧(0<j→(c.holds.getD (j - 1) default).id<(c.holds.getD j default).id))}) (fun i=>⟨[(1, .ref 0 0),(2, .int .u64 (held (c.holds.take i.1):Nat)),(32, .sl (hds c.holds)),(33, .int .i64 c.holds.length),(34, .int .i64 i.1)],
   [(0, .box [.int .u64 c.id, .int .u64 c.loc, .int .u64 c.rem, .int .u64 c.res, .int .u64 c.most, .sl (hds c.holds), .bool c.op])],2⟩) (fun i=>c.holds.length - i.1) ⟨0,by simp [held]⟩ ?_ ?_
  ·simp [go_sem,held]
  ·rintro⟨i,hi,hs,hall⟩
   refine ya gZ.toS qdl _ _ _ rfl ?_
   simp -implicitDefEqProofs only [cdA,go_sem,simprocAttr, -Int.reduceEq,List.cons.injEq,cdB]
   have hst:i<c.holds.length→held (c.holds.take (i+1))=held (c.holds.take i)+(c.holds.getD i default).n:=fun h=>by rw [take_succ h,held,List.map_append,List.sum_append];simp [held]
   have hle:held (c.holds.take (i+1))≤held c.holds:=by
    conv=>rhs;rw [←List.take_append_drop (i+1) c.holds,held,List.map_append,List.sum_append]
    exact Nat.le_add_right _ _
   refine⟨fun h5=>⟨by omega, ?_⟩,fun h5=> ?_⟩
   ·refine xb.run zcP gZ qa (by kernel_rfl) (by kernel_rfl) ?_
    simp -implicitDefEqProofs only [cdA,go_sem,simprocAttr, -Int.reduceEq,List.cons.injEq,cdB]
    have hi':i<c.holds.length:=by omega
    have hst:=hst hi'
    have hnext:(0<i→(c.holds.getD (i - 1) default).id<(c.holds.getD i default).id)→(c.holds.getD i default).n≠0→
     ((uR [held (c.holds.take i),(c.holds.getD i default).n]).2=0→
       ((c.most:Int)<((uR [held (c.holds.take i),(c.holds.getD i default).n]).1:Int)→0=((ki c).1:Int)∧0=((ki c).2.1:Int)∧1=(ki c).2.2)∧
       (¬(c.most:Int)<((uR [held (c.holds.take i),(c.holds.getD i default).n]).1:Int)→∃i_1:{i:Nat // i≤c.holds.length∧held (c.holds.take i)≤c.most∧(∀j,j<i→(c.holds.getD j default).n≠0∧(0<j→(c.holds.getD (j - 1) default).id<(c.holds.getD j default).id))},
        c.holds.length - i_1.val<c.holds.length - i∧((uR [held (c.holds.take i),(c.holds.getD i default).n]).1:Int)=(held (c.holds.take i_1.val):Nat)∧IntKind.i64.wrap ((i:Int)+1)=i_1.val))∧
     (¬(uR [held (c.holds.take i),(c.holds.getD i default).n]).2=0→0=((ki c).1:Int)∧0=((ki c).2.1:Int)∧1=(ki c).2.2):=fun ho hn=>by
     refine⟨fun h6=> ?_,fun h6=>hbad fun h=>h6 (xu.2 ?_)⟩
     ·have h7:=k9 h6
      simp only [List.sum_cons,List.sum_nil,Nat.add_zero]at h7
      rw [h7]
      refine⟨fun h8=>hbad fun h=> ?_,fun h8=>⟨⟨i+1,hi',by omega,fun j hj=> ?_⟩,by dsimp only;omega,by dsimp only;omega,i64_in _ (by omega)⟩⟩
      ·have:=h.2.2.2.2.2.2.1;omega
      ·by_cases hji:j=i
       ·subst hji;exact⟨hn,ho⟩
       ·exact hall j (by omega)
     ·have:=h.2.2.2.2.2.2.1
      have:=h.2.1
      simp only [List.mem_cons,List.not_mem_nil,or_false,forall_eq_or_imp,forall_eq,List.sum_cons,List.sum_nil]
      unfold MM at*
      omega
    refine⟨fun h6=>⟨fun h7=> ?_,fun h7=>hnext (fun h=>absurd h (by omega)) (by omega)⟩,fun h6=>hbad fun h=>h.2.2.2.2.1 _ (va.2 ⟨i,hi',rfl⟩) (by omega)⟩
    rw [i64_in _ (by omega),show((i:Int) - 1).toNat=i - 1 by omega]
    have hc:∀a b:Nat,0≤vai a b↔¬a<b:=fun a b=>by
     have:=yw (x:=a) (y:=b);omega
    rw [hc]
    refine⟨by omega,fun h8=>hbad fun h=>h8 (h.2.2.2.2.2.1 i hi' (by omega)),fun h8=>hnext (fun _=>by omega) (by omega)⟩
   ·have hi':i=c.holds.length:=by omega
    subst hi'
    rw [List.take_length]at hs⊢
    refine⟨fun h6=> ?_,fun h6=>hbad fun h=>h6 (xu.2 ?_)⟩
    ·have h7:=k9 h6
     have h8:=xu.1 h6
     simp only [List.mem_cons,List.not_mem_nil,or_false,forall_eq_or_imp,forall_eq,List.sum_cons,List.sum_nil]at h7 h8
     have hok:waN c:=⟨h1.1,h1.2,by omega,hop,fun x hx=>by obtain⟨j,hj,rfl⟩:=va.1 hx;exact(hall j hj).1,fun j hj h0=>(hall j hj).2 h0,hs,h8.1.2.1,h8.1.2.2,by unfold MM;omega⟩
     rw [ki,if_pos hok,h7]
     exact⟨rfl,by dsimp only;omega,rfl⟩
    ·have:=h.2.2.2.2.2.2
     have:=h.2.1
     simp only [List.mem_cons,List.not_mem_nil,or_false,forall_eq_or_imp,forall_eq,List.sum_cons,List.sum_nil]
     unfold MM at*
     omega
def yae:List D→Option (Prop×D×Fr)
 |[.agg [.c (.int .u64 z33), .c (.int .u64 z34), .c (.int .u64 z35), .c (.int .u64 z36), .c (.int .u64 z37), .c (.sl z38), .c (.bool z39)]]=>some (z33=(z33.toNat:Int)∧z34=(z34.toNat:Int)∧z35=(z35.toNat:Int)∧z36=(z36.toNat:Int)∧z37=(z37.toNat:Int)∧z38=hds (bn z38),kbD (⟨z33.toNat,z34.toNat,z35.toNat,z36.toNat,z37.toNat,(bn z38),z39⟩:Ch),[])
 |_=>none
attribute [go_sem] yae
theorem ga7:ga 259 yae:=by
 intro rs p r fr h hp
 unfold yae at h
 split at h<;>cases h
 obtain⟨hc0,hc1,hc2,hc3,hc4,hc5⟩:=hp
 rename_i z33 z34 z35 z36 z37 z38 z39
 have:=zb1 ⟨z33.toNat,z34.toNat,z35.toNat,z36.toNat,z37.toNat,(bn z38),z39⟩
 rw [←hc0,←hc1,←hc2,←hc3,←hc4,←hc5]at this
 exact this
theorem ybV {c:Ch}:(ki c).2.2=0↔waN c:=by unfold ki;split<;>simp_all
@[go_sem] def kcj (c:Ch):D:= .tup [.int .u64 ((ki c).2.1:Int), .int .i64 (ki c).2.2]
@[go_sem] abbrev ufb:FuncId:=248
@[go_sem] def jdb:Tab:=[(259,yae)]
theorem jbC:za Tryz.prog jdb:=(za.cons ga7 za.nil)
theorem xcs (c:Ch):ja Tryz.prog 248 [.agg [.c (.int .u64 (c.id:Int)), .c (.int .u64 (c.loc:Int)), .c (.int .u64 (c.rem:Int)), .c (.int .u64 (c.res:Int)), .c (.int .u64 (c.most:Int)), .sl (hds c.holds), .c (.bool c.op)]] (kcj c):=by
 refine .of (gel jbC (Nat.le_of_ble_eq_true rfl) ?_)
 simp -implicitDefEqProofs only [cdA,go_sem,Go.Proofs.Tryz.f248,simprocAttr, -Int.reduceEq,List.cons.injEq,cdB]
def vaD:List D→Option (Prop×D×Fr)
 |[.agg [.c (.int .u64 z41), .c (.int .u64 z42), .c (.int .u64 z43), .c (.int .u64 z44), .c (.int .u64 z45), .c (.sl z46), .c (.bool z47)]]=>some (z41=(z41.toNat:Int)∧z42=(z42.toNat:Int)∧z43=(z43.toNat:Int)∧z44=(z44.toNat:Int)∧z45=(z45.toNat:Int)∧z46=hds (bn z46),kcj (⟨z41.toNat,z42.toNat,z43.toNat,z44.toNat,z45.toNat,(bn z46),z47⟩:Ch),[])
 |_=>none
attribute [go_sem] vaD
theorem xbx:ga 248 vaD:=by
 intro rs p r fr h hp
 unfold vaD at h
 split at h<;>cases h
 obtain⟨hc0,hc1,hc2,hc3,hc4,hc5⟩:=hp
 rename_i z41 z42 z43 z44 z45 z46 z47
 have:=xcs ⟨z41.toNat,z42.toNat,z43.toNat,z44.toNat,z45.toNat,(bn z46),z47⟩
 rw [←hc0,←hc1,←hc2,←hc3,←hc4,←hc5]at this
 exact this
@[go_sem] def waP (l:List Nat):D:= .int .i64 (bO l)
@[go_sem] abbrev jdn:FuncId:=152
@[go_sem] def ubO:Tab:=[]
theorem qaa:za Tryz.prog ubO:=za.nil
theorem gbt (l:List Nat):ja Tryz.prog 152 [.sl (qo l)] (waP l):=by
 refine .of (yee qaa (Nat.le_of_ble_eq_true rfl) ?_)
 simp -implicitDefEqProofs only [cdA,go_sem,Go.Proofs.Tryz.f152,simprocAttr, -Int.reduceEq,List.cons.injEq,cdB]
 refine fun hl=>SWp.loop (ι:={i:Nat // i≤l.length∧∀j,j<i→l.getD j default≤MM}) (fun i=>⟨[(5, .sl (qo l)),(6, .int .i64 l.length),(7, .int .i64 i.1)],[],0⟩) (fun i=>l.length - i.1) ⟨0,by simp⟩ ?_ ?_
 ·simp [go_sem]
 ·rintro⟨i,hi,hall⟩
  refine ya qaa.toS gdh _ _ _ rfl ?_
  simp -implicitDefEqProofs only [cdA,go_sem,simprocAttr, -Int.reduceEq,List.cons.injEq,cdB]
  unfold MM at hall
  refine⟨fun h=>⟨by omega,fun h1=> ?_,fun h1=>⟨⟨i+1,by omega,fun j hj=> ?_⟩,by dsimp only;omega,i64_in _ (by omega)⟩⟩,fun h=> ?_⟩
  ·rw [bO,if_neg]
   intro h2
   have:=decide_eq_true_iff.1 (List.all_eq_true.1 h2 _ (va.2 ⟨i,by omega,rfl⟩))
   omega
  ·unfold MM
   by_cases hji:j=i
   ·subst hji;omega
   ·exact hall j (by omega)
  ·rw [bO,if_pos]
   refine List.all_eq_true.2 fun x hx=> ?_
   obtain⟨j,hj,rfl⟩:=va.1 hx
   simpa using hall j (by omega)
def gi:List D→Option (Prop×D×Fr)
 |[.c (.sl z48)]=>some (z48=qo (wk z48),waP (wk z48),[])
 |_=>none
attribute [go_sem] gi
theorem zj:ga 152 gi:=by
 intro rs p r fr h hp
 unfold gi at h
 split at h<;>cases h
 have hc0:=hp
 rename_i z48
 have:=gbt (wk z48)
 rw [←hc0]at this
 exact this
@[go_sem] def wbO (l:List Nat):D:= .tup [.int .u64 ((uR l).1:Int), .int .i64 (uR l).2]
@[go_sem] abbrev geL:FuncId:=211
@[go_sem] def bcH:Tab:=[(152,gi)]
theorem kax:za Tryz.prog bcH:=(za.cons zj za.nil)
theorem gcb (l:List Nat):ja Tryz.prog 211 [.sl (qo l)] (wbO l):=by
 refine .of (gei kax (Nat.le_of_ble_eq_true rfl) ?_)
 simp -implicitDefEqProofs only [cdA,go_sem,Go.Proofs.Tryz.f211,simprocAttr, -Int.reduceEq,List.cons.injEq,cdB]
 refine⟨fun h hl=> ?_,fun h=> ?_⟩
 ·refine SWp.loop (ι:={i:Nat // i≤l.length∧(l.take i).sum≤MM}) (fun i=>⟨[(4, .int .u64 ((l.take i.1).sum:Nat)),(10, .sl (qo l)),(11, .int .i64 l.length),(12, .int .i64 i.1)],[],0⟩) (fun i=>l.length - i.1) ⟨0,by simp⟩ ?_ ?_
  ·simp [go_sem]
  ·rintro⟨i,hi,hs⟩
   refine ya kax.toS wdj _ _ _ rfl ?_
   simp -implicitDefEqProofs only [cdA,go_sem,simprocAttr, -Int.reduceEq,List.cons.injEq,cdB]
   refine⟨fun h1=> ?_,fun h1=> ?_⟩
   ·have hi':i<l.length:=by omega
    have hg:=jbg h hi'
    have hst:=bbk hi'
    have hle:=qco (l:=l) (i:=i+1)
    unfold MM at hs
    rw [u64_in (4611686018427387904 - _) (by omega)]
    refine⟨by omega,fun h2=> ?_,fun h2=>⟨⟨i+1,by omega,by unfold MM;omega⟩,by dsimp only;omega, ?_,i64_in _ (by omega)⟩⟩
    ·rw [uR,if_pos h,if_neg (by omega)];exact⟨rfl,rfl⟩
    ·rw [u64_in _ (by omega)];dsimp only;omega
   ·rw [List.take_of_length_le (by omega)]at hs⊢
    unfold MM at hs
    rw [uR,if_pos h,if_pos hs];exact⟨rfl,rfl⟩
 ·rw [uR,if_neg h]
  exact⟨rfl,rfl⟩
def yx:List D→Option (Prop×D×Fr)
 |[.c (.sl z49)]=>some (z49=qo (wk z49),wbO (wk z49),[])
 |_=>none
attribute [go_sem] yx
theorem wv:ga 211 yx:=by
 intro rs p r fr h hp
 unfold yx at h
 split at h<;>cases h
 have hc0:=hp
 rename_i z49
 have:=gcb (wk z49)
 rw [←hc0]at this
 exact this
@[go_sem] def zam (l:List Hd):D:= .sl (qo (l.map Hd.n))
@[go_sem] abbrev ucD:FuncId:=254
@[go_sem] def qa6:Tab:=[]
theorem vP:za Tryz.prog qa6:=za.nil
theorem qaR (l:List Hd) (h:l.length≤1000000):ja Tryz.prog 254 [.sl (hds l)] (zam l):=by
 refine .of (jem vP (Nat.le_of_ble_eq_true rfl) ?_)
 simp -implicitDefEqProofs only [cdA,go_sem,Go.Proofs.Tryz.f254,simprocAttr, -Int.reduceEq,List.cons.injEq,cdB]
 refine fun hl=>SWp.xaa 3 1 23 rfl (Nat.zero_le _) ?_
 refine SWp.loop (ι:={i:Nat // i≤l.length}) (fun i=>⟨[(3, .vec 0 (l.take i.1).length),(6, .sl (hds l)),(7, .int .i64 l.length),(8, .int .i64 i.1)],[(0, .vec true 1 23 (qo ((l.take i.1).map Hd.n)))],1⟩) (fun i=>l.length - i.1) ⟨0,by omega⟩ ?_ ?_
 ·simp [go_sem,qo]
 ·rintro⟨i,hi⟩
  refine ya vP.toS ydl _ _ _ rfl ?_
  simp -implicitDefEqProofs only [cdA,go_sem,simprocAttr, -Int.reduceEq,List.cons.injEq,cdB]
  refine⟨fun h1=> ?_,fun h1=> ?_⟩
  ·have hi':i<l.length:=by omega
   have ht:=take_succ hi'
   have hlen:(l.take i).length=i:=by simp;omega
   refine⟨by omega,⟨by simp,by simp;omega⟩,⟨i+1,by omega⟩,by dsimp only;omega,⟨?_,i64_in _ (by omega)⟩, ?_⟩
   ·dsimp only;rw [ht,List.length_append];rfl
   ·dsimp only;rw [ht,List.map_append];rfl
  ·have hi':i=l.length:=by omega
   subst hi'
   rw [List.take_length]
   exact⟨by simp,_,_,_,rfl⟩
@[go_sem] def ja6 (l:List Hd):Prop:=(l.length≤1000000)
def yq:List D→Option (Prop×D×Fr)
 |[.c (.sl z50)]=>some (z50=hds (bn z50)∧ja6 (bn z50),zam (bn z50),[])
 |_=>none
attribute [go_sem] yq
theorem qK:ga 254 yq:=by
 intro rs p r fr h hp
 unfold yq at h
 split at h<;>cases h
 obtain⟨hc0,hp⟩:=hp
 rename_i z50
 have:=qaR (bn z50) hp
 rw [←hc0]at this
 exact this
theorem ycD {l:List Nat} {x:Nat} (h:x∈l):x≤l.sum:=by
 induction l with
 |nil=>cases h
 |cons y l ih=>
  rw [List.sum_cons]
  rcases List.mem_cons.1 h with rfl|h
  ·omega
  ·have:=ih h;omega
theorem qbG {c:Ch} (h:waN c):(uR (c.holds.map Hd.n)).2=0:=xu.2 ⟨fun x hx=>by
 have h3:=h.2.2.2.2.2.2.1
 have h4:=h.2.1
 have h5:=ycD hx
 unfold MM held at*
 omega,by
 have h3:=h.2.2.2.2.2.2.1
 have h4:=h.2.1
 unfold MM held at*
 omega⟩
def jaJ (c:Ch):Int:=if waN c then 0 else 1
@[go_sem] def jaR (c:Ch):D:= .int .i64 (jaJ c)
@[go_sem] abbrev kdo:FuncId:=227
@[go_sem] def vbR:Tab:=[(152,gi),(211,yx),(254,yq)]
theorem uI:za Tryz.prog vbR:=(za.cons zj (za.cons wv (za.cons qK za.nil)))
theorem gbv (c:Ch):ja Tryz.prog 227 [.agg [.c (.int .u64 (c.id:Int)), .c (.int .u64 (c.loc:Int)), .c (.int .u64 (c.rem:Int)), .c (.int .u64 (c.res:Int)), .c (.int .u64 (c.most:Int)), .sl (hds c.holds), .c (.bool c.op)]] (jaR c):=by
 refine .of (yek uI (Nat.le_of_ble_eq_true rfl) ?_)
 simp -implicitDefEqProofs only [cdA,go_sem,Go.Proofs.Tryz.f227,simprocAttr, -Int.reduceEq,List.cons.injEq,cdB]
 have hbad:¬waN c→1=jaJ c:=fun h=>by simp [jaJ,if_neg h]
 have hmon:bO [c.res,c.most]=0↔c.res≤MM∧c.most≤MM:=by rw [ueI];split<;>simp_all
 rw [hmon]
 refine⟨fun h1 hl=>⟨fun h2=>⟨fun h3 _=>⟨fun h4=>hbad fun h=> ?_,fun h4 _=> ?_⟩,fun h3 _=> ?_⟩,fun h2=>hbad fun h=> ?_⟩,fun h1=>hbad fun h=>h1 ⟨h.1,h.2.1⟩⟩
 ·have:=h.2.2.2.1 (by simpa using h3)
  rw [this]at h4;simp at h4
 rotate_left 2
 ·have:=h.2.2.1;omega
 all_goals
  have hop:c.op=false→c.holds=[]:=fun h=>by first|(rw [h]at h3;cases h3;done)|exact List.eq_nil_of_length_eq_zero (by omega)
  refine SWp.loop (ι:={i:Nat // i≤c.holds.length∧(∀j,j<i→(c.holds.getD j default).n≠0∧(0<j→(c.holds.getD (j - 1) default).id<(c.holds.getD j default).id))}) (fun i=>⟨[(1, .ref 0 0),(34, .sl (hds c.holds)),(35, .int .i64 c.holds.length),(36, .int .i64 i.1)],
   [(0, .box [.int .u64 c.id, .int .u64 c.loc, .int .u64 c.rem, .int .u64 c.res, .int .u64 c.most, .sl (hds c.holds), .bool c.op])],2⟩) (fun i=>c.holds.length - i.1) ⟨0,by simp⟩ ?_ ?_
  ·simp [go_sem]
  ·rintro⟨i,hi,hall⟩
   refine ya uI.toS ydk _ _ _ rfl ?_
   simp -implicitDefEqProofs only [cdA,go_sem,simprocAttr, -Int.reduceEq,List.cons.injEq,cdB]
   refine⟨fun h5=>⟨by omega, ?_⟩,fun h5=> ?_⟩
   ·refine xb.run kcO uI qa (by kernel_rfl) (by kernel_rfl) ?_
    simp -implicitDefEqProofs only [cdA,go_sem,simprocAttr, -Int.reduceEq,List.cons.injEq,cdB]
    have hi':i<c.holds.length:=by omega
    have hnext:(0<i→(c.holds.getD (i - 1) default).id<(c.holds.getD i default).id)→(c.holds.getD i default).n≠0→∃i_1:{i:Nat // i≤c.holds.length∧(∀j,j<i→(c.holds.getD j default).n≠0∧(0<j→(c.holds.getD (j - 1) default).id<(c.holds.getD j default).id))},c.holds.length - i_1.val<c.holds.length - i∧IntKind.i64.wrap ((i:Int)+1)=i_1.val:=fun ho hn=>
     ⟨⟨i+1,hi',fun j hj=>by
       by_cases hji:j=i
       ·subst hji;exact⟨hn,ho⟩
       ·exact hall j (by omega)⟩,by dsimp only;omega,i64_in _ (by omega)⟩
    refine⟨fun h6=>⟨fun h7=> ?_,fun h7=>hnext (fun h=>absurd h (by omega)) (by omega)⟩,fun h6=>hbad fun h=>h.2.2.2.2.1 _ (va.2 ⟨i,hi',rfl⟩) (by omega)⟩
    rw [i64_in _ (by omega),show((i:Int) - 1).toNat=i - 1 by omega]
    refine⟨by omega,fun h8=>hbad fun h=> ?_,fun h8=>hnext (fun _=>by omega) (by omega)⟩
    have:=h.2.2.2.2.2.1 i hi' (by omega)
    change (c.holds.getD (i - 1) default).id<(c.holds.getD i default).id at this
    omega
   ·have hi':i=c.holds.length:=by omega
    subst hi'
    refine⟨by omega,fun h6=> ?_,fun h6=>hbad fun h=>h6 (qbG h)⟩
    have h7:=k9 h6
    have e1:(c.holds.map Hd.n).sum=held c.holds:=rfl
    rw [h7,e1]
    refine⟨fun h8=>hbad fun h=> ?_,fun h8=>⟨fun h9=> ?_,fun h9=>hbad fun h=>h9 (xu.2 ?_)⟩⟩
    ·have:=h.2.2.2.2.2.2.1;omega
    ·have h10:=xu.1 h9
     simp only [List.mem_cons,List.not_mem_nil,or_false,forall_eq_or_imp,forall_eq,List.sum_cons,List.sum_nil]at h10
     have hok:waN c:=⟨h1.1,h1.2,by omega,hop,fun x hx=>by obtain⟨j,hj,rfl⟩:=va.1 hx;exact(hall j hj).1,fun j hj h0=>(hall j hj).2 h0,by omega,h10.1.1,h10.1.2.1,by unfold MM;omega⟩
     rw [jaJ,if_pos hok]
    ·have:=h.2.2.2.2.2.2
     have:=h.2.1
     simp only [List.mem_cons,List.not_mem_nil,or_false,forall_eq_or_imp,forall_eq,List.sum_cons,List.sum_nil]
     unfold MM at*
     omega
def jA:List D→Option (Prop×D×Fr)
 |[.agg [.c (.int .u64 z52), .c (.int .u64 z53), .c (.int .u64 z54), .c (.int .u64 z55), .c (.int .u64 z56), .c (.sl z57), .c (.bool z58)]]=>some (z52=(z52.toNat:Int)∧z53=(z53.toNat:Int)∧z54=(z54.toNat:Int)∧z55=(z55.toNat:Int)∧z56=(z56.toNat:Int)∧z57=hds (bn z57),jaR (⟨z52.toNat,z53.toNat,z54.toNat,z55.toNat,z56.toNat,(bn z57),z58⟩:Ch),[])
 |_=>none
attribute [go_sem] jA
theorem vX:ga 227 jA:=by
 intro rs p r fr h hp
 unfold jA at h
 split at h<;>cases h
 obtain⟨hc0,hc1,hc2,hc3,hc4,hc5⟩:=hp
 rename_i z52 z53 z54 z55 z56 z57 z58
 have:=gbv ⟨z52.toNat,z53.toNat,z54.toNat,z55.toNat,z56.toNat,(bn z57),z58⟩
 rw [←hc0,←hc1,←hc2,←hc3,←hc4,←hc5]at this
 exact this
@[go_sem] def vbj (c:Ch):D:= .tup [.int .u64 ((ki c).1:Int), .int .i64 (ki c).2.2]
@[go_sem] abbrev jdT:FuncId:=260
@[go_sem] def xce:Tab:=[(227,jA),(211,yx),(254,yq)]
theorem va6:za Tryz.prog xce:=(za.cons vX (za.cons wv (za.cons qK za.nil)))
theorem ubR (c:Ch):ja Tryz.prog 260 [.agg [.c (.int .u64 (c.id:Int)), .c (.int .u64 (c.loc:Int)), .c (.int .u64 (c.rem:Int)), .c (.int .u64 (c.res:Int)), .c (.int .u64 (c.most:Int)), .sl (hds c.holds), .c (.bool c.op)]] (vbj c):=by
 refine .of (gem va6 (Nat.le_of_ble_eq_true rfl) ?_)
 simp -implicitDefEqProofs only [cdA,go_sem,Go.Proofs.Tryz.f260,simprocAttr, -Int.reduceEq,List.cons.injEq,cdB]
 by_cases h:waN c
 ·have h1:=qbG h
  have h2:=k9 h1
  rw [jaJ,if_pos h,ki,if_pos h,h1,h2]
  exact⟨fun _=>⟨by have:=h.2.2.1;omega,rfl,rfl⟩,fun h=>absurd rfl h⟩
 ·rw [jaJ,if_neg h,ki,if_neg h]
  exact⟨fun h=>absurd h (by decide),fun _=>⟨rfl,rfl⟩⟩
def uX:List D→Option (Prop×D×Fr)
 |[.agg [.c (.int .u64 z60), .c (.int .u64 z61), .c (.int .u64 z62), .c (.int .u64 z63), .c (.int .u64 z64), .c (.sl z65), .c (.bool z66)]]=>some (z60=(z60.toNat:Int)∧z61=(z61.toNat:Int)∧z62=(z62.toNat:Int)∧z63=(z63.toNat:Int)∧z64=(z64.toNat:Int)∧z65=hds (bn z65),vbj (⟨z60.toNat,z61.toNat,z62.toNat,z63.toNat,z64.toNat,(bn z65),z66⟩:Ch),[])
 |_=>none
attribute [go_sem] uX
theorem gaV:ga 260 uX:=by
 intro rs p r fr h hp
 unfold uX at h
 split at h<;>cases h
 obtain⟨hc0,hc1,hc2,hc3,hc4,hc5⟩:=hp
 rename_i z60 z61 z62 z63 z64 z65 z66
 have:=ubR ⟨z60.toNat,z61.toNat,z62.toNat,z63.toNat,z64.toNat,(bn z65),z66⟩
 rw [←hc0,←hc1,←hc2,←hc3,←hc4,←hc5]at this
 exact this
@[go_sem] def kbR (c:Ch):D:= .tup [.int .u64 ((ki c).2.1:Int), .int .i64 (ki c).2.2]
@[go_sem] abbrev ueM:FuncId:=255
@[go_sem] def ycJ:Tab:=[(260,uX),(211,yx)]
theorem ubv:za Tryz.prog ycJ:=(za.cons gaV (za.cons wv za.nil))
theorem bcd (c:Ch):ja Tryz.prog 255 [.agg [.c (.int .u64 (c.id:Int)), .c (.int .u64 (c.loc:Int)), .c (.int .u64 (c.rem:Int)), .c (.int .u64 (c.res:Int)), .c (.int .u64 (c.most:Int)), .sl (hds c.holds), .c (.bool c.op)]] (kbR c):=by
 refine .of (kem ubv (Nat.le_of_ble_eq_true rfl) ?_)
 simp -implicitDefEqProofs only [cdA,go_sem,Go.Proofs.Tryz.f255,simprocAttr, -Int.reduceEq,List.cons.injEq,cdB]
 rw [ybV]
 refine⟨fun h=> ?_,fun h=> ?_⟩
 ·have h2:=h.2.2.2.2.2.2
  have h3:=h.2.1
  have e1:(ki c).1=held c.holds:=by rw [ki,if_pos h]
  have h1:(uR [c.loc,c.rem,held c.holds]).2=0:=xu.2 (by
   simp only [List.mem_cons,List.not_mem_nil,or_false,forall_eq_or_imp,forall_eq,List.sum_cons,List.sum_nil]
   unfold MM at*
   omega)
  rw [e1,h1,k9 h1,ki,if_pos h]
  simp only [List.sum_cons,List.sum_nil]
  exact⟨by omega,trivial⟩
 ·rw [ki,if_neg h];simp
def kag:List D→Option (Prop×D×Fr)
 |[.agg [.c (.int .u64 z68), .c (.int .u64 z69), .c (.int .u64 z70), .c (.int .u64 z71), .c (.int .u64 z72), .c (.sl z73), .c (.bool z74)]]=>some (z68=(z68.toNat:Int)∧z69=(z69.toNat:Int)∧z70=(z70.toNat:Int)∧z71=(z71.toNat:Int)∧z72=(z72.toNat:Int)∧z73=hds (bn z73),kbR (⟨z68.toNat,z69.toNat,z70.toNat,z71.toNat,z72.toNat,(bn z73),z74⟩:Ch),[])
 |_=>none
attribute [go_sem] kag
theorem jba:ga 255 kag:=by
 intro rs p r fr h hp
 unfold kag at h
 split at h<;>cases h
 obtain⟨hc0,hc1,hc2,hc3,hc4,hc5⟩:=hp
 rename_i z68 z69 z70 z71 z72 z73 z74
 have:=bcd ⟨z68.toNat,z69.toNat,z70.toNat,z71.toNat,z72.toNat,(bn z73),z74⟩
 rw [←hc0,←hc1,←hc2,←hc3,←hc4,←hc5]at this
 exact this
end Dm
namespace Dm
open Go Go.Proofs Go.IntWalk
abbrev wc8 (c:Ch):Nat:=(ki c).2.1
def kah (l:List Ch):Nat:=(l.map wc8).sum
theorem gbA (c:Ch):wc8 c≤MM:=by
 unfold wc8 ki
 split
 ·rename_i h;exact h.2.2.2.2.2.2.2.2.2
 ·exact Nat.zero_le _
theorem vaX {l:List Ch} {i:Nat} (h:i<l.length):kah (l.take (i+1))=kah (l.take i)+wc8 (l.getD i default):=by
 rw [take_succ h,kah,List.map_append,List.sum_append];simp [kah]
theorem zbW {l:List Ch} {i:Nat}:kah (l.take i)≤kah l:=by
 conv=>rhs;rw [←List.take_append_drop i l,kah,List.map_append,List.sum_append]
 exact Nat.le_add_right _ _
def zap (l:List Ch):List Nat:=l.flatMap fun c=>c.holds.map Hd.id
def kbY (l:List Ch):Prop:=l.length≤32∧(∀c∈l,waN c)∧Srt.Chn Ch.id ltN l∧(zap l).Nodup∧kah l≤MM
instance (l:List Ch):Decidable (Srt.Chn Ch.id ltN l):=by unfold Srt.Chn;infer_instance
instance (l:List Ch):Decidable (kbY l):=by unfold kbY;infer_instance
def xbY (l:List Ch):Int:=if kbY l then 0 else 1
def hm:Int→List Ch→List (Nat×Int)
 |_,[]=>[]
 |i,c::l=>c.holds.map (fun h=>(h.id,i))++hm (i+1) l
def wa6 (l:List Ch):List (Nat×Int)×Int:=if kbY l then(hm 0 l,0)else([],1)
@[go_sem] def xbg (c:Ch) (id:Nat):D:= .int .i64 (vai c.id id)
@[go_sem] abbrev bdQ:FuncId:=249
@[go_sem] def qb7:Tab:=[(225,gP)]
theorem qa1:za Tryz.prog qb7:=(za.cons wu za.nil)
theorem ubJ (c:Ch) (id:Nat):ja Tryz.prog 249 [.agg [.c (.int .u64 (c.id:Int)), .c (.int .u64 (c.loc:Int)), .c (.int .u64 (c.rem:Int)), .c (.int .u64 (c.res:Int)), .c (.int .u64 (c.most:Int)), .sl (hds c.holds), .c (.bool c.op)], .c (.int .u64 (id:Int))] (xbg c id):=by
 refine .of (zem qa1 (Nat.le_of_ble_eq_true rfl) ?_)
 simp -implicitDefEqProofs only [cdA,go_sem,Go.Proofs.Tryz.f249,simprocAttr, -Int.reduceEq,List.cons.injEq,cdB]
def vV:List D→Option (Prop×D×Fr)
 |[.agg [.c (.int .u64 z76), .c (.int .u64 z77), .c (.int .u64 z78), .c (.int .u64 z79), .c (.int .u64 z80), .c (.sl z81), .c (.bool z82)], .c (.int .u64 z83)]=>some (z76=(z76.toNat:Int)∧z77=(z77.toNat:Int)∧z78=(z78.toNat:Int)∧z79=(z79.toNat:Int)∧z80=(z80.toNat:Int)∧z81=hds (bn z81)∧z83=(z83.toNat:Int),xbg (⟨z76.toNat,z77.toNat,z78.toNat,z79.toNat,z80.toNat,(bn z81),z82⟩:Ch) z83.toNat,[])
 |_=>none
attribute [go_sem] vV
theorem xaU:ga 249 vV:=by
 intro rs p r fr h hp
 unfold vV at h
 split at h<;>cases h
 obtain⟨hc0,hc1,hc2,hc3,hc4,hc5,hc6⟩:=hp
 rename_i z76 z77 z78 z79 z80 z81 z82 z83
 have:=ubJ ⟨z76.toNat,z77.toNat,z78.toNat,z79.toNat,z80.toNat,(bn z81),z82⟩ z83.toNat
 rw [←hc0,←hc1,←hc2,←hc3,←hc4,←hc5,←hc6]at this
 exact this
@[go_sem] def zde (l:List Ch):D:= .bool (decide ((∀c∈l,c.holds.length≤20)∧l.length≤34))
@[go_sem] abbrev yfy:FuncId:=115
@[go_sem] def bev:Tab:=[]
theorem bbd:za Tryz.prog bev:=za.nil
theorem bdd (l:List Ch):ja Tryz.prog 115 [.sl (chs l)] (zde l):=by
 refine .of (zeb bbd (Nat.le_of_ble_eq_true rfl) ?_)
 simp -implicitDefEqProofs only [cdA,go_sem,Go.Proofs.Tryz.f115,simprocAttr, -Int.reduceEq,List.cons.injEq,cdB]
 refine fun hl=>SWp.loop (ι:={i:Nat // i≤l.length∧∀j,j<i→(l.getD j default).holds.length≤20}) (fun i=>⟨[(0, .sl (chs l)),(5, .sl (chs l)),(6, .int .i64 l.length),(7, .int .i64 i.1)],[],0⟩) (fun i=>l.length - i.1) ⟨0,by simp⟩ ?_ ?_
 ·simp [go_sem]
 ·rintro⟨i,hi,hall⟩
  refine ya bbd.toS zdh _ _ _ rfl ?_
  simp -implicitDefEqProofs only [cdA,go_sem,simprocAttr, -Int.reduceEq,List.cons.injEq,cdB]
  refine⟨fun h=>⟨by omega,fun _=>⟨fun h1=> ?_,fun h1=>⟨⟨i+1,by omega,fun j hj=> ?_⟩,by dsimp only;omega,i64_in _ (by omega)⟩⟩⟩,fun h=> ?_⟩
  ·rw [eq_comm,decide_eq_false_iff_not]
   intro h2
   have:=h2.1 _ (va.2 ⟨i,by omega,rfl⟩)
   omega
  ·by_cases hji:j=i
   ·subst hji;omega
   ·exact hall j (by omega)
  ·intro _
   have:(∀c∈l,c.holds.length≤20):=fun c hc=>by obtain⟨j,hj,rfl⟩:=va.1 hc;exact hall j (by omega)
   rw [decide_eq_decide]
   exact⟨fun h=>⟨this,by omega⟩,fun h=>by omega⟩
def vbk:List D→Option (Prop×D×Fr)
 |[.c (.sl z84)]=>some (z84=chs (yb z84),zde (yb z84),[])
 |_=>none
attribute [go_sem] vbk
theorem xbU:ga 115 vbk:=by
 intro rs p r fr h hp
 unfold vbk at h
 split at h<;>cases h
 have hc0:=hp
 rename_i z84
 have:=bdd (yb z84)
 rw [←hc0]at this
 exact this
theorem kaK {l:List Ch} {i:Nat} (h:i<l.length):zap (l.take (i+1))=zap (l.take i)++(l.getD i default).holds.map Hd.id:=by
 rw [take_succ h,zap,List.flatMap_append];simp [zap]
theorem kbG {l:List Ch} {i:Nat} (h:(zap l).Nodup):(zap (l.take i)).Nodup:=by
 rw [←List.take_append_drop i l,zap,List.flatMap_append]at h
 exact(List.nodup_append.1 h).1
theorem bbK {c:Ch} (h:waN c):(c.holds.map Hd.id).Nodup:=by
 have h1:=(Srt.kai (lt:=ltN) Srt.zH).1 h.2.2.2.2.2.1
 unfold Srt.Up at h1
 rw [List.Nodup,List.pairwise_map]
 exact h1.imp fun hlt he=>by
  simp only [Hd.key,ltN]at hlt
  omega
def xaY (l:List Ch) (h:Nat):Int:=match l.findIdx? (fun c=>c.holds.any fun x=>decide (x.id=h))with
 |some i=>i
 |none=> -1
theorem xbX {l:List Ch} {h:Nat}:0≤xaY l h↔h∈zap l:=by
 unfold xaY zap
 rw [List.mem_flatMap]
 cases hf:l.findIdx? (fun c=>c.holds.any fun x=>decide (x.id=h))with
 |none=>
  rw [List.findIdx?_eq_none_iff]at hf
  refine⟨fun h=>absurd h (by decide),fun⟨c,hc,hm⟩=> ?_⟩
  obtain⟨x,hx,rfl⟩:=List.mem_map.1 hm
  have:=List.any_eq_false.1 (hf c hc) x hx
  simp at this
 |some i=>
  refine⟨fun _=> ?_,fun _=>Int.natCast_nonneg _⟩
  obtain⟨hi,h2,_⟩:=List.findIdx?_eq_some_iff_getElem.1 hf
  obtain⟨x,hx,h3⟩:=List.any_eq_true.1 h2
  exact⟨_,List.getElem_mem hi,List.mem_map.2 ⟨x,hx,by simpa using h3⟩⟩
theorem wbG:∀{l:List Ch} {s:Int},(hm s l).map (·.1)=zap l
 |[],_=>rfl
 |c::l,s=>by
  have e:zap (c::l)=c.holds.map Hd.id++zap l:=by simp [zap]
  rw [hm,List.map_append,wbG,List.map_map,e];rfl
theorem jcz {l:List Ch} {i:Nat} (h:i<l.length):hm 0 (l.take (i+1))=hm 0 (l.take i)++(l.getD i default).holds.map fun x=>(x.id,(i:Int)):=by
 have key:∀(l:List Ch) (s:Int) (c:Ch),hm s (l++[c])=hm s l++c.holds.map fun x=>(x.id,s+l.length):=by
  intro l
  induction l with
  |nil=>intro s c;simp [hm]
  |cons d l ih=>
   intro s c
   rw [List.cons_append,hm,ih,hm,List.append_assoc]
   simp only [List.length_cons]
   rw [show s+((l.length+1:Nat):Int)=s+1+l.length by omega]
 rw [take_succ h,key]
 simp only [Int.zero_add,List.length_take]
 rw [show min i l.length=i by omega]
@[go_sem] def vav (l:List Ch) (h:Nat):D:= .int .i64 (xaY l h)
@[go_sem] abbrev ucZ:FuncId:=228
@[go_sem] def gbq:Tab:=[]
theorem jC:za Tryz.prog gbq:=za.nil
theorem ga2 (l:List Ch) (h:Nat):ja Tryz.prog 228 [.sl (chs l), .c (.int .u64 (h:Int))] (vav l h):=by
 refine .of (xek jC (Nat.le_of_ble_eq_true rfl) ?_)
 simp -implicitDefEqProofs only [cdA,go_sem,Go.Proofs.Tryz.f228,simprocAttr, -Int.reduceEq,List.cons.injEq,cdB]
 refine fun hl=>SWp.loop (ι:={i:Nat // i≤l.length∧∀j,j<i→∀x∈(l.getD j default).holds,x.id≠h}) (fun i=>⟨[(1, .int .u64 h),(9, .sl (chs l)),(10, .int .i64 l.length),(11, .int .i64 i.1)],[],0⟩) (fun i=>l.length - i.1) ⟨0,by simp⟩ ?_ ?_
 ·simp [go_sem]
 ·rintro⟨i,hi,hall⟩
  refine ya jC.toS vcC _ _ _ rfl ?_
  simp -implicitDefEqProofs only [cdA,go_sem,simprocAttr, -Int.reduceEq,List.cons.injEq,cdB]
  refine⟨fun h1=>⟨by omega,fun _=> ?_⟩,fun h1=> ?_⟩
  ·have hi':i<l.length:=by omega
   generalize hc:l.getD i default=c at*
   refine SWp.loop (ι:={k:Nat // k≤c.holds.length∧∀j,j<k→(c.holds.getD j default).id≠h}) (fun k=>⟨[(1, .int .u64 h),(5, .int .i64 i),(9, .sl (chs l)),(10, .int .i64 l.length),(11, .int .i64 i),(17, .sl (hds c.holds)),(18, .int .i64 c.holds.length),(19, .int .i64 k.1)],[],1⟩) (fun k=>c.holds.length - k.1) ⟨0,by simp⟩ ?_ ?_
   ·simp [go_sem]
   ·rintro⟨k,hk,hin⟩
    refine ya jC.toS vcC _ _ _ rfl ?_
    simp -implicitDefEqProofs only [cdA,go_sem,simprocAttr, -Int.reduceEq,List.cons.injEq,cdB]
    refine⟨fun h2=>⟨by omega,fun h3=> ?_,fun h3=>⟨⟨k+1,by omega,fun j hj=> ?_⟩,by dsimp only;omega,i64_in _ (by omega)⟩⟩,fun h2=>⟨⟨i+1,hi',fun j hj x hx=> ?_⟩,by dsimp only;omega,i64_in _ (by omega)⟩⟩
    ·have hf:(l.findIdx? fun c=>c.holds.any fun x=>decide (x.id=h))=some i:=by
      refine List.findIdx?_eq_some_iff_getElem.2 ⟨hi', ?_,fun j hj=> ?_⟩
      ·rw [←xe hi',hc]
       exact List.any_eq_true.2 ⟨_,va.2 ⟨k,by omega,rfl⟩,decide_eq_true (by omega)⟩
      ·rw [Bool.not_eq_true,List.any_eq_false]
       intro x hx
       have:=hall j hj x (by rw [xe (by omega)];exact hx)
       simpa using this
     rw [xaY,hf]
    ·by_cases hji:j=k
     ·subst hji;omega
     ·exact hin j (by omega)
    ·by_cases hji:j=i
     ·subst hji
      rw [hc]at hx
      obtain⟨q,hq,rfl⟩:=va.1 hx
      exact hin q (by omega)
     ·exact hall j (by omega) x hx
  ·rw [xaY,List.findIdx?_eq_none_iff.2 fun c hc=> ?_]
   obtain⟨j,hj,rfl⟩:=va.1 hc
   rw [List.any_eq_false]
   intro x hx
   simpa using hall j (by omega) x hx
def xE:List D→Option (Prop×D×Fr)
 |[.c (.sl z85), .c (.int .u64 z86)]=>some (z85=chs (yb z85)∧z86=(z86.toNat:Int),vav (yb z85) z86.toNat,[])
 |_=>none
attribute [go_sem] xE
theorem zaq:ga 228 xE:=by
 intro rs p r fr h hp
 unfold xE at h
 split at h<;>cases h
 obtain⟨hc0,hc1⟩:=hp
 rename_i z85 z86
 have:=ga2 (yb z85) z86.toNat
 rw [←hc0,←hc1]at this
 exact this
def gc5 (l:List Ch):Nat×Bool:=if kah l≤MM then(kah l,true)else(0,false)
@[go_sem] def ubh (l:List Ch):D:= .tup [.int .u64 ((gc5 l).1:Int), .bool (gc5 l).2]
@[go_sem] abbrev jdR:FuncId:=229
@[go_sem] def xca:Tab:=[(255,kag),(211,yx)]
theorem zal:za Tryz.prog xca:=(za.cons jba (za.cons wv za.nil))
theorem xbN (l:List Ch):ja Tryz.prog 229 [.sl (chs l)] (ubh l):=by
 refine .of (qek zal (Nat.le_of_ble_eq_true rfl) ?_)
 simp -implicitDefEqProofs only [cdA,go_sem,Go.Proofs.Tryz.f229,simprocAttr, -Int.reduceEq,List.cons.injEq,cdB]
 refine fun hl=>SWp.loop (ι:={i:Nat // i≤l.length∧kah (l.take i)≤MM}) (fun i=>⟨[(4, .int .u64 (kah (l.take i.1):Nat)),(11, .sl (chs l)),(12, .int .i64 l.length),(13, .int .i64 i.1)],[],0⟩) (fun i=>l.length - i.1) ⟨0,by simp [kah]⟩ ?_ ?_
 ·simp [go_sem,kah]
 ·rintro⟨i,hi,hs⟩
  refine ya zal.toS xdk _ _ _ rfl ?_
  simp -implicitDefEqProofs only [cdA,go_sem,simprocAttr, -Int.reduceEq,List.cons.injEq,cdB]
  have hA:=gbA (l.getD i default)
  refine⟨fun h=> ?_,fun h=> ?_⟩
  ·have hi':i<l.length:=by omega
   have h1:=vaX hi'
   refine⟨by omega,fun h2=> ?_,fun h2=> ?_⟩
   ·have h3:=k9 h2
    have h4:=(xu.1 h2).2
    simp only [List.sum_cons,List.sum_nil,Nat.add_zero]at h3 h4
    exact⟨⟨i+1,hi',by rw [h1];exact h4⟩,by dsimp only;omega,by rw [h3];dsimp only;rw [h1],i64_in _ (by omega)⟩
   ·have:¬kah l≤MM:=fun h3=>h2 (xu.2 (by
     have:=zbW (l:=l) (i:=i+1)
     simp only [List.mem_cons,List.not_mem_nil,or_false,forall_eq_or_imp,forall_eq,List.sum_cons,List.sum_nil]
     unfold MM wc8 at*
     omega))
    rw [gc5,if_neg this];exact⟨rfl,rfl⟩
  ·have hi':i=l.length:=by omega
   subst hi'
   rw [List.take_length]at hs⊢
   rw [gc5,if_pos hs];exact⟨rfl,rfl⟩
def zW:List D→Option (Prop×D×Fr)
 |[.c (.sl z87)]=>some (z87=chs (yb z87),ubh (yb z87),[])
 |_=>none
attribute [go_sem] zW
theorem vaU:ga 229 zW:=by
 intro rs p r fr h hp
 unfold zW at h
 split at h<;>cases h
 have hc0:=hp
 rename_i z87
 have:=xbN (yb z87)
 rw [←hc0]at this
 exact this
@[go_sem] def xav (l:List Ch):D:= .int .i64 (xbY l)
@[go_sem] abbrev jcZ:FuncId:=167
@[go_sem] def jbq:Tab:=[(227,jA),(228,xE),(229,zW)]
theorem jl:za Tryz.prog jbq:=(za.cons vX (za.cons zaq (za.cons vaU za.nil)))
theorem ka2 (l:List Ch):ja Tryz.prog 167 [.sl (chs l)] (xav l):=by
 refine .of (qef jl (Nat.le_of_ble_eq_true rfl) ?_)
 simp -implicitDefEqProofs only [cdA,go_sem,Go.Proofs.Tryz.f167,simprocAttr, -Int.reduceEq,List.cons.injEq,cdB]
 have hbad:¬kbY l→1=xbY l:=fun h=>by rw [xbY,if_neg h]
 refine fun hl=>⟨fun h1=>hbad fun h=> ?_,fun h1 _=> ?_⟩
 ·have:=h.1;omega
 refine SWp.loop (ι:={i:Nat // i≤l.length∧(∀c∈l.take i,waN c)∧(∀j,j<i→0<j→(l.getD (j - 1) default).id<(l.getD j default).id)∧(zap (l.take i)).Nodup}) (fun i=>⟨[(0, .sl (chs l)),(12, .sl (chs l)),(13, .int .i64 l.length),(14, .int .i64 i.1)],[],0⟩) (fun i=>l.length - i.1) ⟨0,by simp [zap]⟩ ?_ ?_
 ·simp [go_sem]
 ·rintro⟨i,hi,hall,ho,hn⟩
  refine ya jl.toS qcC _ _ _ rfl ?_
  simp -implicitDefEqProofs only [cdA,go_sem,simprocAttr, -Int.reduceEq,List.cons.injEq,cdB]
  refine⟨fun h=>⟨by omega, ?_⟩,fun h=> ?_⟩
  ·refine xb.run qcN jl qa (by kernel_rfl) (by kernel_rfl) ?_
   simp -implicitDefEqProofs only [cdA,go_sem,simprocAttr, -Int.reduceEq,List.cons.injEq,cdB]
   have hi':i<l.length:=by omega
   have hmem:l.getD i default∈l:=va.2 ⟨i,hi',rfl⟩
   have hsub:∀{a b:List Nat},(a++b).Nodup↔a.Nodup∧b.Nodup∧∀x∈b,x∉a:=fun{a b}=>by
    rw [List.nodup_append]
    exact and_congr_right fun _=>and_congr_right fun _=>⟨fun h x hb ha=>h x ha x hb rfl,fun h x ha y hb e=>h y hb (e▸ha)⟩
   have hks:=kaK hi'
   have htk:∀c,c∈l.take (i+1)↔c∈l.take i∨c=l.getD i default:=fun c=>by rw [take_succ hi'];simp
   refine⟨fun h2=> ?_,fun h2=>hbad fun h=>h2 (by rw [jaJ,if_pos (h.2.1 _ hmem)])⟩
   have hc0:waN (l.getD i default):=by
    unfold jaJ at h2;split at h2
    ·assumption
    ·cases h2
   have hcn:=bbK hc0
   generalize hc:l.getD i default=c at*
   refine⟨fun h3=>⟨?_,fun h4=>hbad fun h=> ?_,fun h4 _=> ?_⟩,fun h3 _=> ?_⟩
   ·rw [i64_in _ (by omega)];omega
   ·rw [i64_in _ (by omega),show((i:Int) - 1).toNat=i - 1 by omega]at h4
    have:=h.2.2.1 i hi' (by omega)
    rw [hc]at this
    simp only [ltN]at this
    omega
   rotate_right 1
   all_goals
    have hord:0<i→(l.getD (i - 1) default).id<c.id:=fun h0=>by
     first
     |(exfalso;omega)
     |(rw [i64_in _ (by omega),show((i:Int) - 1).toNat=i - 1 by omega]at h4;omega)
    refine SWp.loop (ι:={k:Nat // k≤c.holds.length∧∀j,j<k→(c.holds.getD j default).id∉zap (l.take i)}) (fun k=>⟨[(0, .sl (chs l)),(3, .int .i64 i),(12, .sl (chs l)),(13, .int .i64 l.length),(14, .int .i64 i),(38, .sl (hds c.holds)),(39, .int .i64 c.holds.length),(40, .int .i64 k.1)],[],1⟩) (fun k=>c.holds.length - k.1) ⟨0,by simp⟩ ?_ ?_
    ·simp [go_sem]
    ·rintro⟨k,hk,hin⟩
     refine ya jl.toS qcC _ _ _ rfl ?_
     simp -implicitDefEqProofs only [cdA,go_sem,simprocAttr, -Int.reduceEq,List.cons.injEq,cdB]
     refine⟨fun h5=>⟨by omega, ?_⟩,fun h5=> ?_⟩
     ·refine xb.run jch jl qa (by kernel_rfl) (by kernel_rfl) ?_
      simp -implicitDefEqProofs only [cdA,go_sem,simprocAttr, -Int.reduceEq,List.cons.injEq,cdB]
      rw [xbX]
      refine⟨by omega,fun h6=>hbad fun h=> ?_,fun h6=>⟨⟨k+1,by omega,fun j hj=> ?_⟩,by dsimp only;omega,i64_in _ (by omega)⟩⟩
      ·have:=kbG (i:=i+1) h.2.2.2.1
       rw [hks,hsub]at this
       exact this.2.2 _ (List.mem_map.2 ⟨_,va.2 ⟨k,by omega,rfl⟩,rfl⟩) h6
      ·by_cases hji:j=k
       ·subst hji;exact h6
       ·exact hin j (by omega)
     ·refine⟨⟨i+1,hi',fun d hd=>((htk d).1 hd).elim (hall d) (fun e=>e▸hc0),fun j hj h0=> ?_, ?_⟩,by dsimp only;omega,i64_in _ (by omega)⟩
      ·by_cases hji:j=i
       ·subst hji;rw [hc];exact hord h0
       ·exact ho j (by omega) h0
      ·rw [hks,hsub]
       refine⟨hn,hcn,fun x hx=> ?_⟩
       obtain⟨y,hy,rfl⟩:=List.mem_map.1 hx
       obtain⟨j,hj,rfl⟩:=va.1 hy
       exact hin j (by omega)
  ·have hi':i=l.length:=by omega
   subst hi'
   rw [List.take_length]at hall hn
   refine⟨fun h2=> ?_,fun h2=>hbad fun h=> ?_⟩
   ·have h3:kah l≤MM:=by
     unfold gc5 at h2;split at h2
     ·assumption
     ·cases h2
    rw [xbY,if_pos ⟨by omega,hall,fun j hj h0=>ho j hj h0,hn,h3⟩]
   ·rw [gc5,if_pos h.2.2.2.2]at h2;cases h2
def gD:List D→Option (Prop×D×Fr)
 |[.c (.sl z88)]=>some (z88=chs (yb z88),xav (yb z88),[])
 |_=>none
attribute [go_sem] gD
theorem uap:ga 167 gD:=by
 intro rs p r fr h hp
 unfold gD at h
 split at h<;>cases h
 have hc0:=hp
 rename_i z88
 have:=ka2 (yb z88)
 rw [←hc0]at this
 exact this
@[go_sem] def bbJ (l:List Ch):D:= .tup [.c (.map [.int .u64] (kvF .u64 .i64 (wa6 l).1)), .int .i64 (wa6 l).2]
@[go_sem] abbrev veL:FuncId:=219
@[go_sem] def qcB:Tab:=[(248,vaD),(198,gu),(249,vV)]
theorem zM:za Tryz.prog qcB:=(za.cons xbx (za.cons gw (za.cons xaU za.nil)))
theorem jb7 (l:List Ch):ja Tryz.prog 219 [.sl (chs l)] (bbJ l):=by
 refine .of (jej zM (Nat.le_of_ble_eq_true rfl) ?_)
 simp -implicitDefEqProofs only [cdA,go_sem,Go.Proofs.Tryz.f219,simprocAttr, -Int.reduceEq,List.cons.injEq,cdB]
 have hbad:¬kbY l→kvF .u64 .i64 (wa6 l).1=[]∧1=(wa6 l).2:=fun h=>by rw [wa6,if_neg h];exact⟨rfl,rfl⟩
 refine fun hl=>⟨fun h1=>hbad fun h=> ?_,fun h1 _=> ?_⟩
 ·have:=h.1;omega
 refine SWp.loop (ι:={i:Nat // i≤l.length∧(∀c∈l.take i,waN c)∧(∀j,j<i→0<j→(l.getD (j - 1) default).id<(l.getD j default).id)∧(zap (l.take i)).Nodup∧kah (l.take i)≤MM}) (fun i=>⟨[(0, .sl (chs l)),(4, .mp 0),(5, .int .u64 (kah (l.take i.1):Nat)),(18, .sl (chs l)),(19, .int .i64 l.length),(20, .int .i64 i.1)],[(0, .map [.int .u64] (kvN .u64 .i64 (hm 0 (l.take i.1))))],1⟩) (fun i=>l.length - i.1) ⟨0,by simp [zap,kah]⟩ ?_ ?_
 ·simp [go_sem,kah];rfl
 ·rintro⟨i,hi,hall,ho,hn,hs⟩
  refine ya zM.toS kcC _ _ _ rfl ?_
  simp -implicitDefEqProofs only [cdA,go_sem,simprocAttr, -Int.reduceEq,List.cons.injEq,cdB]
  refine⟨fun h=>⟨by omega, ?_⟩,fun h=> ?_⟩
  ·refine xb.run qcO zM qa (by kernel_rfl) (by kernel_rfl) ?_
   simp -implicitDefEqProofs only [cdA,go_sem,simprocAttr, -Int.reduceEq,List.cons.injEq,cdB]
   have hi':i<l.length:=by omega
   have hmem:l.getD i default∈l:=va.2 ⟨i,hi',rfl⟩
   have hsub:∀{a b:List Nat},(a++b).Nodup↔a.Nodup∧b.Nodup∧∀x∈b,x∉a:=fun{a b}=>by
    rw [List.nodup_append]
    exact and_congr_right fun _=>and_congr_right fun _=>⟨fun h x hb ha=>h x ha x hb rfl,fun h x ha y hb e=>h y hb (e▸ha)⟩
   have hks:=kaK hi'
   have hts:=vaX hi'
   have hmsu:=jcz hi'
   have htle:=zbW (l:=l) (i:=i+1)
   have htk:∀c,c∈l.take (i+1)↔c∈l.take i∨c=l.getD i default:=fun c=>by rw [take_succ hi'];simp
   refine⟨fun h2=> ?_,fun h2=>hbad fun h=>h2 (by rw [ki,if_pos (h.2.1 _ hmem)])⟩
   have hc0:waN (l.getD i default):=ybV.1 h2
   have hcn:=bbK hc0
   have hA:=gbA (l.getD i default)
   change kah (l.take (i+1))=kah (l.take i)+(ki (l.getD i default)).2.1 at hts
   change (ki (l.getD i default)).2.1≤MM at hA
   have hadd:¬(uR [kah (l.take i),(ki (l.getD i default)).2.1]).2=0→¬kbY l:=fun h3 h=>h3 (xu.2 (by
    have:=h.2.2.2.2
    simp only [List.mem_cons,List.not_mem_nil,or_false,forall_eq_or_imp,forall_eq,List.sum_cons,List.sum_nil]
    unfold MM at*
    omega))
   generalize hc:l.getD i default=c at*
   refine⟨fun h3=>⟨?_,fun h4=>hbad fun h=> ?_,fun h4=>⟨fun h5 _=> ?_,fun h5=>hbad (hadd h5)⟩⟩,fun h3=>⟨fun h5 _=> ?_,fun h5=>hbad (hadd h5)⟩⟩
   ·rw [i64_in _ (by omega)];omega
   ·rw [i64_in _ (by omega),show((i:Int) - 1).toNat=i - 1 by omega]at h4
    have:=h.2.2.1 i hi' (by omega)
    rw [hc]at this
    simp only [ltN]at this
    have:=yw (x:=((l.getD (i - 1) default).id:Int)) (y:=c.id)
    omega
   all_goals
    have hord:0<i→(l.getD (i - 1) default).id<c.id:=fun h0=>by
     first
     |(exfalso;omega)
     |(rw [i64_in _ (by omega),show((i:Int) - 1).toNat=i - 1 by omega]at h4
       have:=yw (x:=((l.getD (i - 1) default).id:Int)) (y:=c.id)
       omega)
    have hsum:=k9 h5
    have hsum2:=(xu.1 h5).2
    simp only [List.sum_cons,List.sum_nil,Nat.add_zero]at hsum hsum2
    rw [hsum]
    refine SWp.loop (ι:={k:Nat // k≤c.holds.length∧∀j,j<k→(c.holds.getD j default).id∉zap (l.take i)}) (fun k=>⟨[(0, .sl (chs l)),(4, .mp 0),(5, .int .u64 ((kah (l.take i)+(ki c).2.1:Nat):Int)),(6, .int .i64 i),(18, .sl (chs l)),(19, .int .i64 l.length),(20, .int .i64 i),(57, .sl (hds c.holds)),(58, .int .i64 c.holds.length),(59, .int .i64 k.1)],[(0, .map [.int .u64] (kvN .u64 .i64 (hm 0 (l.take i)++(c.holds.take k.1).map fun x=>(x.id,(i:Int)))))],3⟩) (fun k=>c.holds.length - k.1) ⟨0,by simp⟩ ?_ ?_
    ·simp [go_sem]
    ·rintro⟨k,hk,hin⟩
     refine ya zM.toS kcC _ _ _ rfl ?_
     simp -implicitDefEqProofs only [cdA,go_sem,simprocAttr, -Int.reduceEq,List.cons.injEq,cdB]
     have hkeys:∀m,m≤c.holds.length→(hm 0 (l.take i)++(c.holds.take m).map fun x=>(x.id,(i:Int))).map (·.1)=zap (l.take i)++(c.holds.take m).map Hd.id:=fun m hm=>by
      rw [List.map_append,wbG,List.map_map];rfl
     refine⟨fun h6=>⟨by omega,fun a ha=>hbad fun h=> ?_,fun ha=> ?_⟩,fun h6=> ?_⟩
     ·have hk':k<c.holds.length:=by omega
      have h7:¬nlk (c.holds.getD k default).id (hm 0 (l.take i)++(c.holds.take k).map fun x=>(x.id,(i:Int)))=none:=by rw [ha];simp
      rw [qaC,hkeys k hk,Classical.not_not,List.mem_append]at h7
      rcases h7 with h7|h7
      ·have:=kbG (i:=i+1) h.2.2.2.1
       rw [hks,hsub]at this
       exact this.2.2 _ (List.mem_map.2 ⟨_,va.2 ⟨k,hk',rfl⟩,rfl⟩) h7
      ·have h8:(c.holds.take (k+1)).map Hd.id=(c.holds.take k).map Hd.id++[(c.holds.getD k default).id]:=by rw [take_succ hk'];simp
       have h9:((c.holds.take (k+1)).map Hd.id).Nodup:=by
        rw [List.map_take];exact hcn.sublist (List.take_sublist _ _)
       rw [h8,hsub]at h9
       exact h9.2.2 _ (by simp) h7
     ·have hk':k<c.holds.length:=by omega
      have h7:=qaC.1 ha
      rw [kaC h7]
      rw [hkeys k hk,List.mem_append,not_or]at h7
      refine⟨⟨k+1,hk',fun j hj=> ?_⟩,by dsimp only;omega,i64_in _ (by omega), ?_⟩
      ·by_cases hji:j=k
       ·subst hji;exact h7.1
       ·exact hin j (by omega)
      ·dsimp only
       rw [take_succ hk',List.map_append,←List.append_assoc];rfl
     ·have hk':k=c.holds.length:=by omega
      subst hk'
      refine⟨⟨i+1,hi',fun d hd=>((htk d).1 hd).elim (hall d) (fun e=>e▸hc0),fun j hj h0=> ?_, ?_,by rw [hts];exact hsum2⟩,by dsimp only;omega,⟨by dsimp only;rw [hts];omega,i64_in _ (by omega)⟩, ?_⟩
      ·by_cases hji:j=i
       ·subst hji;rw [hc];exact hord h0
       ·exact ho j (by omega) h0
      ·rw [hks,hsub]
       refine⟨hn,hcn,fun x hx=> ?_⟩
       obtain⟨y,hy,rfl⟩:=List.mem_map.1 hx
       obtain⟨j,hj,rfl⟩:=va.1 hy
       exact hin j (by omega)
      ·dsimp only
       rw [List.take_length,hmsu]
  ·have hi':i=l.length:=by omega
   subst hi'
   rw [List.take_length]at hall hn hs⊢
   rw [wa6,if_pos ⟨by omega,hall,fun j hj h0=>ho j hj h0,hn,hs⟩]
   exact⟨⟨_,_,rfl,uaj, .refl _⟩,rfl⟩
def gaf:List D→Option (Prop×D×Fr)
 |[.c (.sl z89)]=>some (z89=chs (yb z89),bbJ (yb z89),[])
 |_=>none
attribute [go_sem] gaf
theorem wa9:ga 219 gaf:=by
 intro rs p r fr h hp
 unfold gaf at h
 split at h<;>cases h
 have hc0:=hp
 rename_i z89
 have:=jb7 (yb z89)
 rw [←hc0]at this
 exact this
@[go_sem] def wbf (l:List Ch):D:= .int .i64 (xbY l)
@[go_sem] abbrev gdQ:FuncId:=159
@[go_sem] def bb6:Tab:=[(219,gaf)]
theorem ya1:za Tryz.prog bb6:=(za.cons wa9 za.nil)
theorem xbJ (l:List Ch):ja Tryz.prog 159 [.sl (chs l)] (wbf l):=by
 refine .of (wee ya1 (Nat.le_of_ble_eq_true rfl) ?_)
 simp -implicitDefEqProofs only [cdA,go_sem,Go.Proofs.Tryz.f159,simprocAttr, -Int.reduceEq,List.cons.injEq,cdB]
 rw [wa6,xbY];split<;>rfl
def kV:List D→Option (Prop×D×Fr)
 |[.c (.sl z90)]=>some (z90=chs (yb z90),wbf (yb z90),[])
 |_=>none
attribute [go_sem] kV
theorem yaU:ga 159 kV:=by
 intro rs p r fr h hp
 unfold kV at h
 split at h<;>cases h
 have hc0:=hp
 rename_i z90
 have:=xbJ (yb z90)
 rw [←hc0]at this
 exact this
end Dm
namespace Dm
open Go Go.Proofs Go.IntWalk
structure Ky where
 k:Nat
 print:List UInt8
 reply:List UInt8
 till:Nat
deriving DecidableEq,Inhabited
@[go_sem] def Ky.enc (e:Ky):List C:=[.int .u64 (e.k:Int), .sl (u8s e.print), .sl (u8s e.reply), .int .u64 (e.till:Int)]
def Ky.dec:List C→Ky
 |[.int .u64 z2, .sl z3, .sl z4, .int .u64 z5]=>(⟨z2.toNat,(vf z3),(vf z4),z5.toNat⟩:Ky)
 |_=>default
def kys (l:List Ky):List (List C):=l.map Ky.enc
def je (l:List (List C)):List Ky:=l.map Ky.dec
@[simp,go_sem] theorem qcY (l:List Ky):(kys l).length=l.length:=by simp [kys]
@[go_sem] theorem uez (l:List Ky) (i:Nat):(kys l).getD i [.int .u64 0, .sl [], .sl [], .int .u64 0]=(l.getD i default).enc:=by
 simp only [kys,List.getD_eq_getElem?_getD,List.getElem?_map]
 cases l[i]? <;>rfl
@[go_sem] theorem qdO (l:List Ky):bf 4 (kys l)=True:=by
 simp [bf,kys,Ky.enc]
theorem Ky.jc (e:Ky):Ky.dec e.enc=e:=by
 simp [Ky.enc,Ky.dec,jr]
@[go_sem] theorem ub1 (l:List Ky):je (kys l)=l:=by
 simp only [je,kys,List.map_map]
 exact List.map_id'' (fun e=>Ky.jc e) l
@[go_sem] theorem wez (a b:List Ky):kys a++kys b=kys (a++b):=by simp [kys]
@[go_sem] theorem ydO (l:List Ky) (k:Nat):(kys l).drop k=kys (l.drop k):=by simp [kys]
@[go_sem] theorem xdO (l:List Ky) (k:Nat):(kys l).take k=kys (l.take k):=by simp [kys]
@[go_sem] theorem gez (z6:Int) (z7:List UInt8) (z8:List UInt8) (z9:Int) (hz6:0≤z6) (hz9:0≤z9):[[C.int .u64 z6,C.sl (u8s z7),C.sl (u8s z8),C.int .u64 z9]]=kys [⟨z6.toNat,z7,z8,z9.toNat⟩]:=by simp [kys,Ky.enc,Int.toNat_of_nonneg hz6,Int.toNat_of_nonneg hz9]
@[go_sem] theorem bez (l:List Ky) (i:Nat) (z6:Int) (z7:List UInt8) (z8:List UInt8) (z9:Int) (hz6:0≤z6) (hz9:0≤z9):(kys l).set i [C.int .u64 z6,C.sl (u8s z7),C.sl (u8s z8),C.int .u64 z9]=kys (l.set i ⟨z6.toNat,z7,z8,z9.toNat⟩):=by simp [kys,List.map_set,Ky.enc,Int.toNat_of_nonneg hz6,Int.toNat_of_nonneg hz9]
@[go_sem] theorem zdO (l:List Ky) (z6:Int) (z7:List UInt8) (z8:List UInt8) (z9:Int) (hz6:0≤z6) (hz9:0≤z9):[C.int .u64 z6,C.sl (u8s z7),C.sl (u8s z8),C.int .u64 z9]::kys l=kys (⟨z6.toNat,z7,z8,z9.toNat⟩::l):=by simp [kys,Ky.enc,Int.toNat_of_nonneg hz6,Int.toNat_of_nonneg hz9]
@[go_sem] theorem Ky.eta {e:Ky}:(⟨e.k,e.print,e.reply,e.till⟩:Ky)=e:=rfl
@[go_sem] def gaK (x:Ky) (k:Nat):D:= .int .i64 (vai x.k k)
@[go_sem] abbrev vdm:FuncId:=165
@[go_sem] def xbH:Tab:=[(225,gP)]
theorem uaK:za Tryz.prog xbH:=(za.cons wu za.nil)
theorem gbo (x:Ky) (k:Nat):ja Tryz.prog 165 [.agg [.c (.int .u64 (x.k:Int)), .sl (u8s x.print), .sl (u8s x.reply), .c (.int .u64 (x.till:Int))], .c (.int .u64 (k:Int))] (gaK x k):=by
 refine .of (yef uaK (Nat.le_of_ble_eq_true rfl) ?_)
 simp -implicitDefEqProofs only [cdA,go_sem,Go.Proofs.Tryz.f165,simprocAttr, -Int.reduceEq,List.cons.injEq,cdB]
def vM:List D→Option (Prop×D×Fr)
 |[.agg [.c (.int .u64 z11), .c (.sl z12), .c (.sl z13), .c (.int .u64 z14)], .c (.int .u64 z15)]=>some (z11=(z11.toNat:Int)∧z12=u8s (vf z12)∧z13=u8s (vf z13)∧z14=(z14.toNat:Int)∧z15=(z15.toNat:Int),gaK (⟨z11.toNat,(vf z12),(vf z13),z14.toNat⟩:Ky) z15.toNat,[])
 |_=>none
attribute [go_sem] vM
theorem jaE:ga 165 vM:=by
 intro rs p r fr h hp
 unfold vM at h
 split at h<;>cases h
 obtain⟨hc0,hc1,hc2,hc3,hc4⟩:=hp
 rename_i z11 z12 z13 z14 z15
 have:=gbo ⟨z11.toNat,(vf z12),(vf z13),z14.toNat⟩ z15.toNat
 rw [←hc0,←hc1,←hc2,←hc3,←hc4]at this
 exact this
@[go_sem] def zaL (x:Ky):D:= .bool (decide (x.print.length≤4096∧x.reply.length≤4096))
@[go_sem] abbrev wdm:FuncId:=164
@[go_sem] def qbH:Tab:=[]
theorem baK:za Tryz.prog qbH:=za.nil
theorem bbo (x:Ky):ja Tryz.prog 164 [.agg [.c (.int .u64 (x.k:Int)), .sl (u8s x.print), .sl (u8s x.reply), .c (.int .u64 (x.till:Int))]] (zaL x):=by
 refine .of (zef baK (Nat.le_of_ble_eq_true rfl) ?_)
 simp -implicitDefEqProofs only [cdA,go_sem,Go.Proofs.Tryz.f164,simprocAttr, -Int.reduceEq,List.cons.injEq,cdB]
 intro _ _
 rw [decide_eq_decide];omega
def wM:List D→Option (Prop×D×Fr)
 |[.agg [.c (.int .u64 z17), .c (.sl z18), .c (.sl z19), .c (.int .u64 z20)]]=>some (z17=(z17.toNat:Int)∧z18=u8s (vf z18)∧z19=u8s (vf z19)∧z20=(z20.toNat:Int),zaL (⟨z17.toNat,(vf z18),(vf z19),z20.toNat⟩:Ky),[])
 |_=>none
attribute [go_sem] wM
theorem kaE:ga 164 wM:=by
 intro rs p r fr h hp
 unfold wM at h
 split at h<;>cases h
 obtain⟨hc0,hc1,hc2,hc3⟩:=hp
 rename_i z17 z18 z19 z20
 have:=bbo ⟨z17.toNat,(vf z18),(vf z19),z20.toNat⟩
 rw [←hc0,←hc1,←hc2,←hc3]at this
 exact this
def xcE (l:List Ky):Prop:=l.length≤128∧(∀x∈l,x.print.length≤4096∧x.reply.length≤4096)∧Srt.Chn Ky.k ltN l
instance (l:List Ky):Decidable (Srt.Chn Ky.k ltN l):=by unfold Srt.Chn;infer_instance
instance (l:List Ky):Decidable (xcE l):=by unfold xcE;infer_instance
def kaH (l:List Ky):Int:=if xcE l then 0 else 1
@[go_sem] def waK (l:List Ky):D:= .int .i64 (kaH l)
@[go_sem] abbrev kdm:FuncId:=84
@[go_sem] def ybH:Tab:=[(165,vM),(164,wM)]
theorem bH:za Tryz.prog ybH:=(za.cons jaE (za.cons kaE za.nil))
theorem ubo (l:List Ky):ja Tryz.prog 84 [.sl (kys l)] (waK l):=by
 refine .of (jfp bH (Nat.le_of_ble_eq_true rfl) ?_)
 simp -implicitDefEqProofs only [cdA,go_sem,Go.Proofs.Tryz.f84,simprocAttr, -Int.reduceEq,List.cons.injEq,cdB]
 have hbad:¬xcE l→1=kaH l:=fun h=>by rw [kaH,if_neg h]
 refine fun _=>⟨fun h1=>hbad fun h=>by have:=h.1;omega,fun h1 _=> ?_⟩
 refine SWp.loop (ι:={i:Nat // i≤l.length∧∀j,j<i→((l.getD j default).print.length≤4096∧(l.getD j default).reply.length≤4096)∧(0<j→(l.getD (j - 1) default).k<(l.getD j default).k)}) (fun i=>⟨[(0, .sl (kys l)),(8, .sl (kys l)),(9, .int .i64 l.length),(10, .int .i64 i.1)],[],0⟩) (fun i=>l.length - i.1) ⟨0,by simp⟩ ?_ ?_
 ·simp [go_sem]
 ·rintro⟨i,hi,hall⟩
  refine ya bH.toS xfa _ _ _ rfl ?_
  simp -implicitDefEqProofs only [cdA,go_sem,simprocAttr, -Int.reduceEq,List.cons.injEq,cdB]
  refine⟨fun h2=>⟨h2, ?_⟩,fun h2=> ?_⟩
  ·refine xb.run kdy bH qa (by kernel_rfl) (by kernel_rfl) ?_
   simp -implicitDefEqProofs only [cdA,go_sem,simprocAttr, -Int.reduceEq,List.cons.injEq,cdB]
   have hi':i<l.length:=by omega
   have hnext:((l.getD i default).print.length≤4096∧(l.getD i default).reply.length≤4096)→(0<i→(l.getD (i - 1) default).k<(l.getD i default).k)→∃i_1:{i:Nat // i≤l.length∧∀j,j<i→((l.getD j default).print.length≤4096∧(l.getD j default).reply.length≤4096)∧(0<j→(l.getD (j - 1) default).k<(l.getD j default).k)},l.length - i_1.val<l.length - i∧IntKind.i64.wrap ((i:Int)+1)=i_1.val:=fun h3 h4=>⟨⟨i+1,hi',fun j hj=>by
    by_cases hji:j=i
    ·subst hji;exact⟨h3,h4⟩
    ·exact hall j (by omega)⟩,by dsimp only;omega,i64_in _ (by omega)⟩
   refine⟨fun h3=>⟨fun h4=> ?_,fun h4=>hnext h3 fun h=>absurd h (by omega)⟩,fun h3=>hbad fun h=>h3 (h.2.1 _ (va.2 ⟨i,hi',rfl⟩))⟩
   rw [i64_in _ (by omega),show((i:Int) - 1).toNat=i - 1 by omega]
   have hc:∀a b:Nat,0≤vai a b↔¬a<b:=fun a b=>by
    have:=yw (x:=a) (y:=b);omega
   rw [hc]
   exact⟨by omega,fun h5=>hbad fun h=>h5 (h.2.2 i hi' (by omega)),fun h5=>hnext h3 fun _=>by omega⟩
  ·have hi':i=l.length:=by omega
   subst hi'
   rw [kaH,if_pos ⟨by omega,fun x hx=>by obtain⟨j,hj,rfl⟩:=va.1 hx;exact(hall j hj).1,fun j hj h0=>(hall j hj).2 h0⟩]
def kM:List D→Option (Prop×D×Fr)
 |[.c (.sl z21)]=>some (z21=kys (je z21),waK (je z21),[])
 |_=>none
attribute [go_sem] kM
theorem qaE:ga 84 kM:=by
 intro rs p r fr h hp
 unfold kM at h
 split at h<;>cases h
 have hc0:=hp
 rename_i z21
 have:=ubo (je z21)
 rw [←hc0]at this
 exact this
end Dm
namespace Dm
open Go Go.Proofs Go.IntWalk
structure It where
 hash:Nat
 n:Nat
deriving DecidableEq,Inhabited
@[go_sem] def It.enc (e:It):List C:=[.int .u64 (e.hash:Int), .int .u64 (e.n:Int)]
def It.dec:List C→It
 |[.int .u64 z2, .int .u64 z3]=>(⟨z2.toNat,z3.toNat⟩:It)
 |_=>default
def its (l:List It):List (List C):=l.map It.enc
def zk (l:List (List C)):List It:=l.map It.dec
@[simp,go_sem] theorem gcX (l:List It):(its l).length=l.length:=by simp [its]
@[go_sem] theorem jex (l:List It) (i:Nat):(its l).getD i [.int .u64 0, .int .u64 0]=(l.getD i default).enc:=by
 simp only [its,List.getD_eq_getElem?_getD,List.getElem?_map]
 cases l[i]? <;>rfl
@[go_sem] theorem wdM (l:List It):bf 2 (its l)=True:=by
 simp [bf,its,It.enc]
theorem It.jc (e:It):It.dec e.enc=e:=by
 simp [It.enc,It.dec]
@[go_sem] theorem wb1 (l:List It):zk (its l)=l:=by
 simp only [zk,its,List.map_map]
 exact List.map_id'' (fun e=>It.jc e) l
@[go_sem] theorem qex (a b:List It):its a++its b=its (a++b):=by simp [its]
@[go_sem] theorem jdM (l:List It) (k:Nat):(its l).drop k=its (l.drop k):=by simp [its]
@[go_sem] theorem vdM (l:List It) (k:Nat):(its l).take k=its (l.take k):=by simp [its]
@[go_sem] theorem kex (z4:Int) (z5:Int) (hz4:0≤z4) (hz5:0≤z5):[[C.int .u64 z4,C.int .u64 z5]]=its [⟨z4.toNat,z5.toNat⟩]:=by simp [its,It.enc,Int.toNat_of_nonneg hz4,Int.toNat_of_nonneg hz5]
@[go_sem] theorem vex (l:List It) (i:Nat) (z4:Int) (z5:Int) (hz4:0≤z4) (hz5:0≤z5):(its l).set i [C.int .u64 z4,C.int .u64 z5]=its (l.set i ⟨z4.toNat,z5.toNat⟩):=by simp [its,List.map_set,It.enc,Int.toNat_of_nonneg hz4,Int.toNat_of_nonneg hz5]
@[go_sem] theorem qdM (l:List It) (z4:Int) (z5:Int) (hz4:0≤z4) (hz5:0≤z5):[C.int .u64 z4,C.int .u64 z5]::its l=its (⟨z4.toNat,z5.toNat⟩::l):=by simp [its,It.enc,Int.toNat_of_nonneg hz4,Int.toNat_of_nonneg hz5]
@[go_sem] theorem kdM (l:List It):bZ (its l)=True:=eq_true fun x hx c hc=>by
 obtain⟨e,_,rfl⟩:=List.mem_map.1 hx
 simp only [It.enc,List.mem_cons,List.not_mem_nil,or_false]at hc
 rcases hc with rfl|rfl<;>rfl
@[go_sem] theorem It.eta {e:It}:(⟨e.hash,e.n⟩:It)=e:=rfl
@[go_sem] theorem It.eqD {a b:It}:eqD Tryz.prog 250 [D.c (.int .u64 (a.hash:Int)),D.c (.int .u64 (a.n:Int))] [D.c (.int .u64 (b.hash:Int)),D.c (.int .u64 (b.n:Int))]=some (decide (a=b)):=by
 cases a;cases b
 simp only [Dm.eqD,kb2,vm,eqC,List.getElem?_cons_zero,List.getElem?_cons_succ,if_true,Option.some.injEq,It.mk.injEq]
 rw [Bool.eq_iff_iff]
 simp [Int.ofNat_inj]
def ycE (x:It):Prop:=x.n≠0∧x.n≤MM
instance (x:It):Decidable (ycE x):=by unfold ycE;infer_instance
def yaH (l:List It):Nat:=(l.map It.n).sum
def jah (l:List It):Nat×Int:=if l.length≠0∧l.length≤16∧∀x∈l,ycE x then(if yaH l≤MM then(yaH l,0)else(0,8))else(0,1)
theorem zao {l:List It} {i:Nat} (h:i<l.length):yaH (l.take (i+1))=yaH (l.take i)+(l.getD i default).n:=by
 rw [take_succ h,yaH,List.map_append,List.sum_append];simp [yaH]
theorem bcL {l:List It} {i:Nat}:yaH (l.take i)≤yaH l:=by
 conv=>rhs;rw [←List.take_append_drop i l,yaH,List.map_append,List.sum_append]
 exact Nat.le_add_right _ _
@[go_sem] def jcj (l:List It):D:= .tup [.int .u64 ((jah l).1:Int), .int .i64 (jah l).2]
@[go_sem] abbrev wfb:FuncId:=121
@[go_sem] def qdb:Tab:=[(122,yf),(198,gu)]
theorem qz:za Tryz.prog qdb:=(za.cons we (za.cons gw za.nil))
theorem ycs (l:List It):ja Tryz.prog 121 [.sl (its l)] (jcj l):=by
 refine .of (keb qz (Nat.le_of_ble_eq_true rfl) ?_)
 simp -implicitDefEqProofs only [cdA,go_sem,Go.Proofs.Tryz.f121,simprocAttr, -Int.reduceEq,List.cons.injEq,cdB]
 have hbad:¬(l.length≠0∧l.length≤16∧∀x∈l,ycE x)→0=((jah l).1:Int)∧1=(jah l).2:=fun h=>by rw [jah,if_neg h];exact⟨rfl,rfl⟩
 refine fun _=>⟨fun h1 _=>⟨fun h2=> ?_,fun h2=>hbad fun h=>by omega⟩,fun h1=>hbad fun h=>by omega⟩
 refine qei qz (Nat.le_of_ble_eq_true rfl) ?_
 simp -implicitDefEqProofs only [cdA,go_sem,Go.Proofs.Tryz.f205,simprocAttr, -Int.reduceEq,List.cons.injEq,cdB]
 refine vel qz (Nat.le_of_ble_eq_true rfl) ?_
 simp -implicitDefEqProofs only [cdA,go_sem,Go.Proofs.Tryz.f243,simprocAttr, -Int.reduceEq,List.cons.injEq,cdB]
 refine fun _=>SWp.loop (ι:={i:Nat // i≤l.length∧∀j,j<i→ycE (l.getD j default)}) (fun i=>⟨[(0, .sl (its l)),(1, .fn (.func 204) [] []),(7, .int .i64 l.length),(8, .int .i64 i.1)],[],0⟩) (fun i=>l.length - i.1) ⟨0,by simp⟩ ?_ ?_
 ·simp [go_sem]
 ·rintro⟨i,hi,hall⟩
  refine ya qz.toS bdk _ _ _ rfl ?_
  simp -implicitDefEqProofs only [cdA,go_sem,simprocAttr, -Int.reduceEq,List.cons.injEq,cdB]
  refine⟨fun h4=>⟨by omega, ?_⟩,fun h4=> ?_⟩
  ·skip
   refine xei qz (Nat.le_of_ble_eq_true rfl) ?_
   simp -implicitDefEqProofs only [cdA,go_sem,Go.Proofs.Tryz.f204,simprocAttr, -Int.reduceEq,List.cons.injEq,cdB]
   have hi':i<l.length:=by omega
   have hin:=va.2 ⟨i,hi',rfl⟩
   rw [gG]
   refine⟨fun h5=>⟨fun h6=>⟨⟨i+1,by omega,fun j hj=> ?_⟩,by dsimp only;omega,i64_in _ (by omega)⟩,fun h6=>hbad fun h=>h6 (h.2.2 _ hin).2⟩,fun h5=>hbad fun h=>(h.2.2 _ hin).1 (by omega)⟩
   by_cases hji:j=i
   ·subst hji;exact⟨by omega,h6⟩
   ·exact hall j (by omega)
  ·have hi':i=l.length:=by omega
   subst hi'
   have hok:∀x∈l,ycE x:=fun x hx=>by obtain⟨j,hj,rfl⟩:=va.1 hx;exact hall j hj
   have hsum:jah l=if yaH l≤MM then(yaH l,0)else(0,8):=by rw [jah,if_pos ⟨by omega,by omega,hok⟩]
   refine⟨fun h=>h.elim,fun _=>SWp.loop (ι:={i:Nat // i≤l.length∧yaH (l.take i)≤MM}) (fun i=>⟨[(2, .int .u64 (yaH (l.take i.1):Nat)),(20, .sl (its l)),(21, .int .i64 l.length),(22, .int .i64 i.1)],[],0⟩) (fun i=>l.length - i.1) ⟨0,by simp [yaH]⟩ ?_ ?_⟩
   ·simp [go_sem,yaH]
   ·rintro⟨i,hi,hs⟩
    refine ya qz.toS qdh _ _ _ rfl ?_
    simp -implicitDefEqProofs only [cdA,go_sem,simprocAttr, -Int.reduceEq,List.cons.injEq,cdB]
    unfold MM at*
    refine⟨fun h5=>⟨by omega,fun h6=> ?_,fun h6=> ?_⟩,fun h5=> ?_⟩
    ·have hi':i<l.length:=by omega
     have h7:=k9 h6
     have h8:=(xu.1 h6).2
     simp only [List.sum_cons,List.sum_nil,Nat.add_zero]at h7 h8
     refine⟨⟨i+1,hi',by rw [zao hi'];exact h8⟩,by dsimp only;omega, ?_,i64_in _ (by omega)⟩
     rw [h7];dsimp only;rw [zao hi']
    ·have hi':i<l.length:=by omega
     have hn:=(hok _ (va.2 ⟨i,hi',rfl⟩)).2
     unfold MM at hn
     have hle:=bcL (l:=l) (i:=i+1)
     rw [zao hi']at hle
     have h7:uR [yaH (l.take i),(l.getD i default).n]=(0,8):=by
      have hm:bO [yaH (l.take i),(l.getD i default).n]=0:=by rw [ueI,if_pos ⟨hs,hn⟩]
      have hns:¬[yaH (l.take i),(l.getD i default).n].sum≤4611686018427387904:=fun h=>h6 (xu.2 ⟨fun x hx=>by
       simp only [List.mem_cons,List.not_mem_nil,or_false]at hx
       rcases hx with rfl|rfl
       ·exact hs
       ·exact hn,h⟩)
      rw [uR,if_pos hm,if_neg hns]
     have h8:¬yaH l≤4611686018427387904:=fun h=>h6 (xu.2 ⟨fun x hx=>by
      simp only [List.mem_cons,List.not_mem_nil,or_false]at hx
      rcases hx with rfl|rfl
      ·exact hs
      ·exact hn,by simp only [List.sum_cons,List.sum_nil,Nat.add_zero];omega⟩)
     rw [h7,hsum,if_neg h8];exact⟨rfl,rfl⟩
    ·have hi':i=l.length:=by omega
     subst hi'
     rw [List.take_length]at hs⊢
     rw [hsum,if_pos hs];exact⟨rfl,rfl⟩
def uam:List D→Option (Prop×D×Fr)
 |[.c (.sl z6)]=>some (z6=its (zk z6),jcj (zk z6),[])
 |_=>none
attribute [go_sem] uam
theorem uay:ga 121 uam:=by
 intro rs p r fr h hp
 unfold uam at h
 split at h<;>cases h
 have hc0:=hp
 rename_i z6
 have:=ycs (zk z6)
 rw [←hc0]at this
 exact this
end Dm
namespace Dm
open Go Go.Proofs Go.IntWalk
def zw (m:Int):Int:=if 0<m∧m<11 then([0,71,17,79,3,2,2,0,6,4,32]:List Int).getD m.toNat 0 else 0
@[go_sem] def za7 (m:Int):D:= .tup [.int .i64 (zw m), .bool (decide (0<m∧m<11))]
@[go_sem] abbrev beM:FuncId:=202
@[go_sem] def jcK:Tab:=[]
theorem v7:za Tryz.prog jcK:=za.nil
theorem ycf (m:Int):ja Tryz.prog 202 [.c (.int .i64 m)] (za7 m):=by
 have hm:m≤0∨11≤m∨m=1∨m=2∨m=3∨m=4∨m=5∨m=6∨m=7∨m=8∨m=9∨m=10:=by omega
 unfold za7 zw
 refine .of ?_
 rcases hm with hm|hm|rfl|rfl|rfl|rfl|rfl|rfl|rfl|rfl|rfl|rfl
 ·skip
  refine bcq v7 (Nat.le_of_ble_eq_true rfl) ?_
  simp -implicitDefEqProofs only [cdA,go_sem,Go.Proofs.Tryz.f202,simprocAttr, -Int.reduceEq,List.cons.injEq,cdB]
  exact⟨fun h=>absurd hm h,fun _=>⟨by rw [if_neg (by omega)],(decide_eq_false (by omega)).symm⟩⟩
 ·skip
  refine bcq v7 (Nat.le_of_ble_eq_true rfl) ?_
  simp -implicitDefEqProofs only [cdA,go_sem,Go.Proofs.Tryz.f202,simprocAttr, -Int.reduceEq,List.cons.injEq,cdB]
  exact⟨fun _=>⟨fun _=>⟨by rw [if_neg (by omega)],(decide_eq_false (by omega)).symm⟩,fun h=>absurd hm h⟩,fun h=>by omega⟩
 all_goals
  refine bcq v7 (Nat.le_of_ble_eq_true rfl) ?_
  simp -implicitDefEqProofs only [cdA,go_sem,Go.Proofs.Tryz.f202,List.drop_succ_cons,List.drop_zero,List.map_cons,List.map_nil,List.getElem?_cons_zero,List.drop_nil,simprocAttr, -Int.reduceEq,List.cons.injEq,cdB]
  exact⟨⟨False.elim,rfl⟩,False.elim⟩
def wag:List D→Option (Prop×D×Fr)
 |[.c (.int .i64 z1)]=>some (True,za7 z1,[])
 |_=>none
attribute [go_sem] wag
theorem vba:∀rs p r fr,wag rs=some (p,r,fr)→p→gaH Tryz.prog 202 rs r fr:=by
 intro rs p r fr h hp
 unfold wag at h
 split at h<;>cases h
 rename_i z1
 exact ycf z1
structure Rq where
 id:Nat
 method:Int
 key:Nat
 t:Tk
 a:Nat
 n:Nat
 till:Nat
 items:List It
 l:List Cv
deriving DecidableEq,Inhabited
@[go_sem] def Rq.enc (e:Rq):List C:=[.int .u64 (e.id:Int), .int .i64 e.method, .int .u64 (e.key:Int), .int .u64 (e.t.root:Int), .sl (cvs e.t.l), .int .i64 e.t.tag, .int .u64 (e.a:Int), .int .u64 (e.n:Int), .int .u64 (e.till:Int), .sl (its e.items), .sl (cvs e.l)]
def Rq.dec:List C→Rq
 |[.int .u64 z3, .int .i64 z4, .int .u64 z5, .int .u64 z7, .sl z8, .int .i64 z9, .int .u64 z10, .int .u64 z11, .int .u64 z12, .sl z13, .sl z14]=>(⟨z3.toNat,z4,z5.toNat,(⟨z7.toNat,(uc z8),z9⟩:Tk),z10.toNat,z11.toNat,z12.toNat,(zk z13),(uc z14)⟩:Rq)
 |_=>default
def rqs (l:List Rq):List (List C):=l.map Rq.enc
def ue5 (l:List (List C)):List Rq:=l.map Rq.dec
@[simp,go_sem] theorem qc5 (l:List Rq):(rqs l).length=l.length:=by simp [rqs]
@[go_sem] theorem qeQ (l:List Rq) (i:Nat):(rqs l).getD i [.int .u64 0, .int .i64 0, .int .u64 0, .int .u64 0, .sl [], .int .i64 0, .int .u64 0, .int .u64 0, .int .u64 0, .sl [], .sl []]=(l.getD i default).enc:=by
 simp only [rqs,List.getD_eq_getElem?_getD,List.getElem?_map]
 cases l[i]? <;>rfl
@[go_sem] theorem vdY (l:List Rq):bf 11 (rqs l)=True:=by
 simp [bf,rqs,Rq.enc]
theorem Rq.jc (e:Rq):Rq.dec e.enc=e:=by
 simp [Rq.enc,Rq.dec,xS,wb1]
@[go_sem] theorem gdH (l:List Rq):ue5 (rqs l)=l:=by
 simp only [ue5,rqs,List.map_map]
 exact List.map_id'' (fun e=>Rq.jc e) l
@[go_sem] theorem xeQ (a b:List Rq):rqs a++rqs b=rqs (a++b):=by simp [rqs]
@[go_sem] theorem jdY (l:List Rq) (k:Nat):(rqs l).drop k=rqs (l.drop k):=by simp [rqs]
@[go_sem] theorem kdY (l:List Rq) (k:Nat):(rqs l).take k=rqs (l.take k):=by simp [rqs]
@[go_sem] theorem jeQ (z15:Int) (z16:Int) (z17:Int) (z18:Int) (z19:List Cv) (z20:Int) (z21:Int) (z22:Int) (z23:Int) (z24:List It) (z25:List Cv) (hz15:0≤z15) (hz17:0≤z17) (hz18:0≤z18) (hz21:0≤z21) (hz22:0≤z22) (hz23:0≤z23):[[C.int .u64 z15,C.int .i64 z16,C.int .u64 z17,C.int .u64 z18,C.sl (cvs z19),C.int .i64 z20,C.int .u64 z21,C.int .u64 z22,C.int .u64 z23,C.sl (its z24),C.sl (cvs z25)]]=rqs [⟨z15.toNat,z16,z17.toNat,⟨z18.toNat,z19,z20⟩,z21.toNat,z22.toNat,z23.toNat,z24,z25⟩]:=by simp [rqs,Rq.enc,Int.toNat_of_nonneg hz15,Int.toNat_of_nonneg hz17,Int.toNat_of_nonneg hz18,Int.toNat_of_nonneg hz21,Int.toNat_of_nonneg hz22,Int.toNat_of_nonneg hz23]
@[go_sem] theorem keQ (l:List Rq) (i:Nat) (z15:Int) (z16:Int) (z17:Int) (z18:Int) (z19:List Cv) (z20:Int) (z21:Int) (z22:Int) (z23:Int) (z24:List It) (z25:List Cv) (hz15:0≤z15) (hz17:0≤z17) (hz18:0≤z18) (hz21:0≤z21) (hz22:0≤z22) (hz23:0≤z23):(rqs l).set i [C.int .u64 z15,C.int .i64 z16,C.int .u64 z17,C.int .u64 z18,C.sl (cvs z19),C.int .i64 z20,C.int .u64 z21,C.int .u64 z22,C.int .u64 z23,C.sl (its z24),C.sl (cvs z25)]=rqs (l.set i ⟨z15.toNat,z16,z17.toNat,⟨z18.toNat,z19,z20⟩,z21.toNat,z22.toNat,z23.toNat,z24,z25⟩):=by simp [rqs,List.map_set,Rq.enc,Int.toNat_of_nonneg hz15,Int.toNat_of_nonneg hz17,Int.toNat_of_nonneg hz18,Int.toNat_of_nonneg hz21,Int.toNat_of_nonneg hz22,Int.toNat_of_nonneg hz23]
@[go_sem] theorem qdY (l:List Rq) (z15:Int) (z16:Int) (z17:Int) (z18:Int) (z19:List Cv) (z20:Int) (z21:Int) (z22:Int) (z23:Int) (z24:List It) (z25:List Cv) (hz15:0≤z15) (hz17:0≤z17) (hz18:0≤z18) (hz21:0≤z21) (hz22:0≤z22) (hz23:0≤z23):[C.int .u64 z15,C.int .i64 z16,C.int .u64 z17,C.int .u64 z18,C.sl (cvs z19),C.int .i64 z20,C.int .u64 z21,C.int .u64 z22,C.int .u64 z23,C.sl (its z24),C.sl (cvs z25)]::rqs l=rqs (⟨z15.toNat,z16,z17.toNat,⟨z18.toNat,z19,z20⟩,z21.toNat,z22.toNat,z23.toNat,z24,z25⟩::l):=by simp [rqs,Rq.enc,Int.toNat_of_nonneg hz15,Int.toNat_of_nonneg hz17,Int.toNat_of_nonneg hz18,Int.toNat_of_nonneg hz21,Int.toNat_of_nonneg hz22,Int.toNat_of_nonneg hz23]
@[go_sem] theorem Rq.eta {e:Rq}:(⟨e.id,e.method,e.key,e.t,e.a,e.n,e.till,e.items,e.l⟩:Rq)=e:=rfl
def gdU (l:List Cv):Bool:=l.any fun c=>decide (¬ko c=0)
@[go_sem] def jbT (l:List Cv):D:= .bool (gdU l)
@[go_sem] abbrev zeN:FuncId:=117
@[go_sem] def kcK:Tab:=[(58,xh)]
theorem xM:za Tryz.prog kcK:=(za.cons wh za.nil)
theorem xcf (l:List Cv):ja Tryz.prog 117 [.sl (cvs l), .fn (.func 203) [] []] (jbT l):=by
 refine .of (wc7 xM (Nat.le_of_ble_eq_true rfl) ?_)
 simp -implicitDefEqProofs only [cdA,go_sem,Go.Proofs.Tryz.f117,simprocAttr, -Int.reduceEq,List.cons.injEq,cdB]
 refine xc8 xM (Nat.le_of_ble_eq_true rfl) ?_
 simp -implicitDefEqProofs only [cdA,go_sem,Go.Proofs.Tryz.f199,simprocAttr, -Int.reduceEq,List.cons.injEq,cdB]
 refine fun _=>SWp.loop (ι:={i:Nat // i≤l.length∧∀j,j<i→ko (l.getD j default)=0}) (fun i=>⟨[(0, .sl (cvs l)),(1, .fn (.func 203) [] []),(7, .int .i64 l.length),(8, .int .i64 i.1)],[],0⟩) (fun i=>l.length - i.1) ⟨0,by simp⟩ ?_ ?_
 ·simp [go_sem]
 ·rintro⟨i,hi,hall⟩
  refine ya xM.toS jcC _ _ _ rfl ?_
  simp -implicitDefEqProofs only [cdA,go_sem,simprocAttr, -Int.reduceEq,List.cons.injEq,cdB]
  refine⟨fun h4=>⟨h4, ?_⟩,fun h4=> ?_⟩
  ·skip
   refine yei xM (Nat.le_of_ble_eq_true rfl) ?_
   simp -implicitDefEqProofs only [cdA,go_sem,Go.Proofs.Tryz.f203,simprocAttr, -Int.reduceEq,List.cons.injEq,cdB]
   have hi':i<l.length:=by omega
   refine⟨fun h5=>⟨⟨i+1,hi',fun j hj=> ?_⟩,by dsimp only;omega,i64_in _ (by omega)⟩,fun h5=> ?_⟩
   ·by_cases hji:j=i
    ·subst hji;exact h5
    ·exact hall j (by omega)
   ·exact(List.any_eq_true.2 ⟨_,va.2 ⟨i,hi',rfl⟩,decide_eq_true h5⟩).symm
  ·have hi':i=l.length:=by omega
   subst hi'
   rw [eq_comm,decide_eq_false (fun h=>h.elim),gdU,List.any_eq_false]
   intro c hc
   obtain⟨j,hj,rfl⟩:=va.1 hc
   rw [hall j hj];decide
def uag:List D→Option (Prop×D×Fr)
 |[.c (.sl z26), .fn (.func 203) [] []]=>some (z26=cvs (uc z26),jbT (uc z26),[])
 |_=>none
attribute [go_sem] uag
theorem wba:ga 117 uag:=by
 intro rs p r fr h hp
 unfold uag at h
 split at h<;>cases h
 have hc0:=hp
 rename_i z26
 have:=xcf (uc z26)
 rw [←hc0]at this
 exact this
end Dm
namespace Dm
open Go Go.Proofs Go.IntWalk
def y5:Code→Option Code
 | .loop c=>some (.loop c)
 | .seq a b=>match y5 a with
  |some c=>some c
  |none=>y5 b
 | .block _ c=>y5 c
 | .cond _ a b=>match y5 a with
  |some c=>some c
  |none=>y5 b
 |_=>none
noncomputable def kdt:Code:=(y5 (Tryz.f120.body.getD .skip)).getD .skip
structure Rw where
 bit:Int
 there:Bool
 is:Bool
deriving DecidableEq,Inhabited
@[go_sem] def Rw.enc (e:Rw):List C:=[.int .i64 e.bit, .bool e.there, .bool e.is]
def Rw.dec:List C→Rw
 |[.int .i64 z2, .bool z3, .bool z4]=>(⟨z2,z3,z4⟩:Rw)
 |_=>default
def rws (l:List Rw):List (List C):=l.map Rw.enc
def ge5 (l:List (List C)):List Rw:=l.map Rw.dec
@[simp,go_sem] theorem jc5 (l:List Rw):(rws l).length=l.length:=by simp [rws]
@[go_sem] theorem ueQ (l:List Rw) (i:Nat):(rws l).getD i [.int .i64 0, .bool false, .bool false]=(l.getD i default).enc:=by
 simp only [rws,List.getD_eq_getElem?_getD,List.getElem?_map]
 cases l[i]? <;>rfl
@[go_sem] theorem ydZ (l:List Rw):bf 3 (rws l)=True:=by
 simp [bf,rws,Rw.enc]
theorem Rw.jc (e:Rw):Rw.dec e.enc=e:=by
 simp [Rw.enc,Rw.dec]
@[go_sem] theorem bdH (l:List Rw):ge5 (rws l)=l:=by
 simp only [ge5,rws,List.map_map]
 exact List.map_id'' (fun e=>Rw.jc e) l
@[go_sem] theorem weQ (a b:List Rw):rws a++rws b=rws (a++b):=by simp [rws]
@[go_sem] theorem gdY (l:List Rw) (k:Nat):(rws l).drop k=rws (l.drop k):=by simp [rws]
@[go_sem] theorem zdZ (l:List Rw) (k:Nat):(rws l).take k=rws (l.take k):=by simp [rws]
@[go_sem] theorem geQ (z5:Int) (z6:Bool) (z7:Bool):[[C.int .i64 z5,C.bool z6,C.bool z7]]=rws [⟨z5,z6,z7⟩]:=by simp [rws,Rw.enc]
@[go_sem] theorem beQ (l:List Rw) (i:Nat) (z5:Int) (z6:Bool) (z7:Bool):(rws l).set i [C.int .i64 z5,C.bool z6,C.bool z7]=rws (l.set i ⟨z5,z6,z7⟩):=by simp [rws,List.map_set,Rw.enc]
@[go_sem] theorem udY (l:List Rw) (z5:Int) (z6:Bool) (z7:Bool):[C.int .i64 z5,C.bool z6,C.bool z7]::rws l=rws (⟨z5,z6,z7⟩::l):=by simp [rws,Rw.enc]
@[go_sem] theorem bdY (l:List Rw):bZ (rws l)=True:=eq_true fun x hx c hc=>by
 obtain⟨e,_,rfl⟩:=List.mem_map.1 hx
 simp only [Rw.enc,List.mem_cons,List.not_mem_nil,or_false]at hc
 rcases hc with rfl|rfl|rfl<;>rfl
@[go_sem] theorem Rw.eta {e:Rw}:(⟨e.bit,e.there,e.is⟩:Rw)=e:=rfl
abbrev xbT (r:Rq):Ob:= .box [.c (.int .u64 r.id), .c (.int .i64 r.method), .c (.int .u64 r.key), .c (.int .u64 r.t.root), .sl (cvs r.t.l), .c (.int .i64 r.t.tag), .c (.int .u64 r.a), .c (.int .u64 r.n), .c (.int .u64 r.till), .sl (its r.items), .sl (cvs r.l)]
def gq (what:Int) (b:Rw):Bool:=if kaY .i64 what b.bit=0 then !b.there else b.is
theorem vD {Q:Exit→St→Prop} {T:Tab} (hT:za Tryz.prog T) (r:Rq) {what:Int} {ok:Bool} {id nx:Nat} {E:List Rw} {rest:List (Nat×Ob)} (hE:E.length=6) (hid:0<id∧id<nx)
 (h0:Sub 0 ⟨[(1, .ref 0 0),(3, .int .i64 what),(4, .bool ok),(82, .vec id 6),(83, .int .i64 6),(84, .int .i64 0)],(id, .vec true 3 247 (rws E))::(0,xbT r)::rest,nx⟩ ⟨[(1, .ref 0 0),(3, .int .i64 what),(4, .bool ok),(82, .vec id 6),(83, .int .i64 6),(84, .int .i64 0)],[(id, .vec true 3 247 (rws E)),(0,xbT r)],nx⟩)
 (hQ:Q (.exit 0) ⟨[(1, .ref 0 0),(3, .int .i64 what),(4, .bool (ok&&E.all (gq what))),(82, .vec id 6),(83, .int .i64 6),(84, .int .i64 6),(85, .bool false)],[(id, .vec true 3 247 (rws E)),(0,xbT r)],nx⟩):SWp Tryz.prog 113 0 kdt Q ⟨[(1, .ref 0 0),(3, .int .i64 what),(4, .bool ok),(82, .vec id 6),(83, .int .i64 6),(84, .int .i64 0)],(id, .vec true 3 247 (rws E))::(0,xbT r)::rest,nx⟩:=by
 change SWp _ _ _ (Code.loop _) _ _
 refine SWp.loop (ι:={i:Nat // i≤6}) (fun i=>⟨[(1, .ref 0 0),(3, .int .i64 what),(4, .bool (ok&&((E.take i.1).all (gq what)))),(82, .vec id 6),(83, .int .i64 6),(84, .int .i64 i.1)],[(id, .vec true 3 247 (rws E)),(0,xbT r)],nx⟩) (fun i=>6 - i.1) ⟨0,by simp⟩ ?_ ?_
 ·simp only [List.take_zero,List.all_nil,Bool.and_true];exact h0
 ·rintro⟨i,hi⟩
  have hne:¬(0:Nat)=id:=by omega
  have hne2:¬nx=id:=by omega
  have hne3:¬id=nx:=by omega
  have hne4:¬(0:Nat)=nx:=by omega
  have hp1:(0<nx)=True:=eq_true (by omega)
  have hp2:(id<nx)=True:=eq_true hid.2
  refine ya hT.toS xdh _ _ _ rfl ?_
  simp -implicitDefEqProofs only [cdA,go_sem,hne,hne2,hne3,hne4,hp1,hp2,if_false,simprocAttr, -Int.reduceEq,List.cons.injEq,cdB]
  refine⟨fun h1=> ?_,fun h1=> ?_⟩
  rotate_left 1
  ·have hi6:i=6:=by omega
   subst hi6
   rw [List.take_of_length_le (by omega)]
   exact hQ
  have htk:=take_succ (l:=E) (i:=i) (by omega)
  have hstep:∀b:Bool,b=(if(ok&&(E.take i).all (gq what))=true then gq what (E.getD i default)else false)→b=(ok&&(E.take (i+1)).all (gq what)):=fun b hb=>by
   rw [hb,htk,List.all_append]
   cases ok<;>cases (E.take i).all (gq what)<;>simp
  refine⟨h1,⟨hE.symm,by omega⟩,fun h2=>⟨fun h3=>⟨⟨i+1,by omega⟩,by dsimp only;omega,⟨hstep _ ?_,i64_in _ (by omega)⟩,Nat.le_succ _⟩,fun h3=>⟨⟨i+1,by omega⟩,by dsimp only;omega,⟨hstep _ ?_,i64_in _ (by omega)⟩,Nat.le_succ _⟩⟩,fun h2=>⟨fun h3=>⟨⟨i+1,by omega⟩,by dsimp only;omega,⟨hstep _ ?_,i64_in _ (by omega)⟩,Nat.le_succ _⟩,fun h3=>⟨⟨i+1,by omega⟩,by dsimp only;omega,⟨hstep _ ?_,i64_in _ (by omega)⟩,Nat.le_succ _⟩⟩⟩
  ·rw [if_pos h3,gq,if_pos h2]
  ·rw [if_neg (by rw [h3];decide)]
  ·rw [if_pos h3,gq,if_neg h2]
  ·rw [if_neg (by rw [h3];decide)]
def xay (r:Rq):List Rw:=[⟨1,decide (r.key≠0),true⟩,⟨2,decide (r.a≠0),true⟩,⟨4,decide (r.n≠0),decide (kaY .i64 (zw r.method) 64=0∨0<r.n∧r.n≤4611686018427387904)⟩,⟨8,decide (r.till≠0),true⟩,⟨16,decide (r.items≠[]),decide ((jah r.items).2=0)⟩,⟨32,decide (r.l≠[]),decide (r.l≠[]∧r.l.length≤16∧∀c∈r.l,ko c=0)⟩]
def gbg (r:Rq):Prop:=(0<r.method∧r.method<11)∧(xay r).all (gq (zw r.method))=true∧vaY r.t
instance (r:Rq):Decidable (gbg r):=by unfold gbg;infer_instance
def rqS (r:Rq):Int:=if gbg r then 0 else 1
theorem vdt {r:Rq} {E:List Rw} (h:E=xay r):∀b:Bool,b=(decide (0<r.method∧r.method<11)&&E.all (gq (zw r.method)))→(b=true→yac r.t=0→0=rqS r)∧(b=true→¬yac r.t=0→1=rqS r)∧(b=false→1=rqS r):=by
 subst h
 rintro b hb
 have htz:yac r.t=0↔vaY r.t:=by unfold yac;split<;>rename_i h<;>simp only [h]<;>decide
 refine⟨fun h1 h2=> ?_,fun h1 h2=> ?_,fun h1=> ?_⟩
 ·rw [h1,eq_comm,Bool.and_eq_true,decide_eq_true_iff]at hb
  rw [rqS,if_pos ⟨hb.1,hb.2,htz.1 h2⟩]
 ·rw [rqS,if_neg fun h=>h2 (htz.2 h.2.2)]
 ·rw [rqS,if_neg fun h=> ?_]
  rw [h1,eq_comm,Bool.and_eq_false_iff]at hb
  rcases hb with hb|hb
  ·exact of_decide_eq_false hb h.1
  ·rw [h.2.1]at hb;cases hb
theorem bT {r:Rq} {n4 i32:Bool} (h4:n4=decide (kaY .i64 (zw r.method) 64=0∨0<r.n∧r.n≤4611686018427387904)) (h32:i32=decide (r.l≠[]∧r.l.length≤16∧∀c∈r.l,ko c=0)):
 ((!(decide (0<r.method∧r.method<11)&&(gq (zw r.method) ⟨1, !decide ((r.key:Int)=0),true⟩&&(gq (zw r.method) ⟨2, !decide ((r.a:Int)=0),true⟩&&(gq (zw r.method) ⟨4, !decide ((r.n:Int)=0),n4⟩&&(gq (zw r.method) ⟨8, !decide ((r.till:Int)=0),true⟩&&(gq (zw r.method) ⟨16,decide (0<(r.items.length:Int)),decide ((jah r.items).snd=0)⟩&&gq (zw r.method) ⟨32,decide (0<(r.l.length:Int)),i32⟩)))))))=false→(yac r.t=0→0=rqS r)∧(¬yac r.t=0→1=rqS r))∧
 ((!(decide (0<r.method∧r.method<11)&&(gq (zw r.method) ⟨1, !decide ((r.key:Int)=0),true⟩&&(gq (zw r.method) ⟨2, !decide ((r.a:Int)=0),true⟩&&(gq (zw r.method) ⟨4, !decide ((r.n:Int)=0),n4⟩&&(gq (zw r.method) ⟨8, !decide ((r.till:Int)=0),true⟩&&(gq (zw r.method) ⟨16,decide (0<(r.items.length:Int)),decide ((jah r.items).snd=0)⟩&&gq (zw r.method) ⟨32,decide (0<(r.l.length:Int)),i32⟩)))))))=true→1=rqS r):=by
 have hz:∀a:Nat,(!decide ((a:Int)=0))=decide (a≠0):=fun a=>by
  rw [←decide_not];exact decide_eq_decide.2 ⟨fun h h'=>h (by rw [h'];rfl),fun h h'=>h (by omega)⟩
 have hl:∀{α:Type} (l:List α),decide (0<(l.length:Int))=decide (¬l.length=0):=fun l=>decide_eq_decide.2 (by omega)
 have he1:decide (¬r.items.length=0)=decide (r.items≠[]):=decide_eq_decide.2 (by rw [List.length_eq_zero_iff])
 have he2:decide (¬r.l.length=0)=decide (r.l≠[]):=decide_eq_decide.2 (by rw [List.length_eq_zero_iff])
 rw [hz,hz,hz,hz,hl,hl,he1,he2,h4,h32]
 have key:=vdt (E:=xay r) rfl _ rfl
 simp only [xay,List.all_cons,List.all_nil,Bool.and_true]at key
 obtain⟨k1,k2,k3⟩:=key
 refine⟨fun h=>⟨k1 ?_,k2 ?_⟩,fun h=>k3 ?_⟩
 ·rw [←Bool.not_not (decide _&&_),h];rfl
 ·rw [←Bool.not_not (decide _&&_),h];rfl
 ·rw [←Bool.not_not (decide _&&_),h];rfl
theorem rq4 {w:Int} {n:Nat} (hw:¬kaY .i64 w 64=0) (hn:0<(n:Int)):decide (bO [n]=0)=decide (kaY .i64 w 64=0∨0<n∧n≤4611686018427387904):=decide_eq_decide.2 ⟨fun h=> .inr ⟨by omega,gG.1 h⟩,fun h=>h.elim (fun h=>(hw h).elim) fun h=>gG.2 h.2⟩
theorem zeQ {w:Int} {n:Nat} (hw:¬kaY .i64 w 64=0) (hn:¬0<(n:Int)):false=decide (kaY .i64 w 64=0∨0<n∧n≤4611686018427387904):=(decide_eq_false fun h=>h.elim hw fun h=>hn (by omega)).symm
theorem yeQ {w:Int} {n:Nat} (hw:kaY .i64 w 64=0):true=decide (kaY .i64 w 64=0∨0<n∧n≤4611686018427387904):=(decide_eq_true (.inl hw)).symm
theorem beP {l:List Cv} (hl:0<(l.length:Int)) (h16:(l.length:Int)≤16):(!gdU l)=decide (l≠[]∧l.length≤16∧∀c∈l,ko c=0):=by
 have h0:l≠[]:=fun h=>by rw [h]at hl;exact absurd hl (by decide)
 rw [Bool.eq_iff_iff,Bool.not_eq_true',decide_eq_true_iff,gdU,List.any_eq_false]
 refine⟨fun h=>⟨h0,by omega,fun c hc=> ?_⟩,fun h c hc=> ?_⟩
 ·have:=h c hc
  rw [decide_eq_true_iff]at this
  exact Decidable.not_not.1 this
 ·rw [decide_eq_true_iff]
  exact fun h'=>h' (h.2.2 c hc)
theorem qcK {l:List Cv} (hl:¬0<(l.length:Int)):false=decide (l≠[]∧l.length≤16∧∀c∈l,ko c=0):=(decide_eq_false fun h=>hl (by have:=List.length_pos_iff.2 h.1;omega)).symm
theorem xcK {l:List Cv} (h16:¬(l.length:Int)≤16):false=decide (l≠[]∧l.length≤16∧∀c∈l,ko c=0):=(decide_eq_false fun h=>h16 (by omega)).symm
@[go_sem] def jaS (r:Rq):D:= .int .i64 (rqS r)
@[go_sem] abbrev zdp:FuncId:=120
@[go_sem] def qbT:Tab:=[(202,wag),(121,uam),(58,xh),(53,zB),(122,yf),(117,uag)]
theorem qf:za Tryz.prog qbT:=(za.cons vba (za.cons uay (za.cons wh (za.cons vK (za.cons we (za.cons wba za.nil))))))
theorem wbw (r:Rq):ja Tryz.prog 120 [.agg [.c (.int .u64 (r.id:Int)), .c (.int .i64 r.method), .c (.int .u64 (r.key:Int)), .c (.int .u64 (r.t.root:Int)), .sl (cvs r.t.l), .c (.int .i64 r.t.tag), .c (.int .u64 (r.a:Int)), .c (.int .u64 (r.n:Int)), .c (.int .u64 (r.till:Int)), .sl (its r.items), .sl (cvs r.l)]] (jaS r):=by
 refine .of (jeb qf (Nat.le_of_ble_eq_true rfl) ?_)
 simp -implicitDefEqProofs only [cdA,go_sem,Go.Proofs.Tryz.f120,simprocAttr, -Int.reduceEq,List.cons.injEq,cdB]
 refine xb.run bcM qf qa (by kernel_rfl) (by kernel_rfl) ?_
 simp -implicitDefEqProofs only [cdA,go_sem,simprocAttr, -Int.reduceEq,List.cons.injEq,cdB]
 refine⟨fun hw=>⟨fun hn=>⟨fun hl=>⟨fun h16=> ?_,fun h16=> ?_⟩,fun hl=> ?_⟩,fun hn=>⟨fun hl=>⟨fun h16=> ?_,fun h16=> ?_⟩,fun hl=> ?_⟩⟩,fun hw=>⟨fun hl=>⟨fun h16=> ?_,fun h16=> ?_⟩,fun hl=> ?_⟩⟩
 ·refine vD qf r rfl ⟨by decide,by decide⟩ (by simp [go_sem]) ?_
  simp -implicitDefEqProofs only [cdA,go_sem,simprocAttr, -Int.reduceEq,List.cons.injEq,cdB]
  exact bT (rq4 hw hn) (beP hl h16)
 ·refine vD qf r rfl ⟨by decide,by decide⟩ (by simp [go_sem]) ?_
  simp -implicitDefEqProofs only [cdA,go_sem,simprocAttr, -Int.reduceEq,List.cons.injEq,cdB]
  exact bT (rq4 hw hn) (xcK h16)
 ·refine vD qf r rfl ⟨by decide,by decide⟩ (by simp [go_sem]) ?_
  simp -implicitDefEqProofs only [cdA,go_sem,simprocAttr, -Int.reduceEq,List.cons.injEq,cdB]
  exact bT (rq4 hw hn) (qcK hl)
 ·refine vD qf r rfl ⟨by decide,by decide⟩ (by simp [go_sem]) ?_
  simp -implicitDefEqProofs only [cdA,go_sem,simprocAttr, -Int.reduceEq,List.cons.injEq,cdB]
  exact bT (zeQ hw hn) (beP hl h16)
 ·refine vD qf r rfl ⟨by decide,by decide⟩ (by simp [go_sem]) ?_
  simp -implicitDefEqProofs only [cdA,go_sem,simprocAttr, -Int.reduceEq,List.cons.injEq,cdB]
  exact bT (zeQ hw hn) (xcK h16)
 ·refine vD qf r rfl ⟨by decide,by decide⟩ (by simp [go_sem]) ?_
  simp -implicitDefEqProofs only [cdA,go_sem,simprocAttr, -Int.reduceEq,List.cons.injEq,cdB]
  exact bT (zeQ hw hn) (qcK hl)
 ·refine vD qf r rfl ⟨by decide,by decide⟩ (by simp [go_sem]) ?_
  simp -implicitDefEqProofs only [cdA,go_sem,simprocAttr, -Int.reduceEq,List.cons.injEq,cdB]
  exact bT (yeQ hw) (beP hl h16)
 ·refine vD qf r rfl ⟨by decide,by decide⟩ (by simp [go_sem]) ?_
  simp -implicitDefEqProofs only [cdA,go_sem,simprocAttr, -Int.reduceEq,List.cons.injEq,cdB]
  exact bT (yeQ hw) (xcK h16)
 ·refine vD qf r rfl ⟨by decide,by decide⟩ (by simp [go_sem]) ?_
  simp -implicitDefEqProofs only [cdA,go_sem,simprocAttr, -Int.reduceEq,List.cons.injEq,cdB]
  exact bT (yeQ hw) (qcK hl)
def xO:List D→Option (Prop×D×Fr)
 |[.agg [.c (.int .u64 z9), .c (.int .i64 z10), .c (.int .u64 z11), .c (.int .u64 z13), .c (.sl z14), .c (.int .i64 z15), .c (.int .u64 z16), .c (.int .u64 z17), .c (.int .u64 z18), .c (.sl z19), .c (.sl z20)]]=>some (z9=(z9.toNat:Int)∧z11=(z11.toNat:Int)∧z13=(z13.toNat:Int)∧z14=cvs (uc z14)∧z16=(z16.toNat:Int)∧z17=(z17.toNat:Int)∧z18=(z18.toNat:Int)∧z19=its (zk z19)∧z20=cvs (uc z20),jaS (⟨z9.toNat,z10,z11.toNat,(⟨z13.toNat,(uc z14),z15⟩:Tk),z16.toNat,z17.toNat,z18.toNat,(zk z19),(uc z20)⟩:Rq),[])
 |_=>none
attribute [go_sem] xO
theorem zaG:ga 120 xO:=by
 intro rs p r fr h hp
 unfold xO at h
 split at h<;>cases h
 obtain⟨hc0,hc1,hc2,hc3,hc4,hc5,hc6,hc7,hc8⟩:=hp
 rename_i z9 z10 z11 z13 z14 z15 z16 z17 z18 z19 z20
 have:=wbw ⟨z9.toNat,z10,z11.toNat,⟨z13.toNat,(uc z14),z15⟩,z16.toNat,z17.toNat,z18.toNat,(zk z19),(uc z20)⟩
 rw [←hc0,←hc1,←hc2,←hc3,←hc4,←hc5,←hc6,←hc7,←hc8]at this
 exact this
end Dm
