import Derived.Test.YtpiadnkkmfkmmaaGreatP4
import Derived.Ground.SlsfProg
set_option linter.unusedSimpArgs false
set_option linter.unusedVariables false
set_option linter.unusedSectionVars false
set_option linter.defProp false
set_option maxRecDepth 20000
set_option maxHeartbeats 4000000
noncomputable section
namespace Dm
open Go Go.Proofs Go.IntWalk
structure Py where
 id:Nat
 hash:Nat
 chan:Nat
 n:Nat
 state:Int
deriving DecidableEq,Inhabited
@[go_sem] def Py.enc (e:Py):List C:=[.int .u64 (e.id:Int), .int .u64 (e.hash:Int), .int .u64 (e.chan:Int), .int .u64 (e.n:Int), .int .i64 e.state]
@[go_sem] def Py.dec:List C→Py
 |[.int .u64 z41, .int .u64 z42, .int .u64 z43, .int .u64 z44, .int .i64 z45]=>(⟨z41.toNat,z42.toNat,z43.toNat,z44.toNat,z45⟩:Py)
 |_=>default
def pys (l:List Py):List (List C):=l.map Py.enc
def dpys (l:List (List C)):List Py:=l.map Py.dec
abbrev kPy:=kAg Py.enc Py.dec
abbrev kPys:=kSl pys dpys
@[simp,go_sem] theorem pys_length (l:List Py):(pys l).length=l.length:=by simp [pys]
@[go_sem] theorem pys_get (l:List Py) (i:Nat):(pys l).getD i [.int .u64 0, .int .u64 0, .int .u64 0, .int .u64 0, .int .i64 0]=(l.getD i default).enc:=by
 simp only [pys,List.getD_eq_getElem?_getD,List.getElem?_map]
 cases l[i]? <;>rfl
@[go_sem] theorem pys_wide (l:List Py):Wide 5 (pys l)=True:=by
 simp [Wide,pys,Py.enc]
theorem Py.dec_enc (e:Py):Py.dec e.enc=e:=by
 simp [Py.enc,Py.dec]
@[go_sem] theorem dpys_pys (l:List Py):dpys (pys l)=l:=by
 simp only [dpys,pys,List.map_map]
 exact List.map_id'' (fun e=>Py.dec_enc e) l
@[go_sem] theorem pys_app (a b:List Py):pys a++pys b=pys (a++b):=by simp [pys]
@[go_sem] theorem pys_drop (l:List Py) (k:Nat):(pys l).drop k=pys (l.drop k):=by simp [pys]
@[go_sem] theorem pys_take (l:List Py) (k:Nat):(pys l).take k=pys (l.take k):=by simp [pys]
@[go_sem] theorem pys_one (z46:Int) (z47:Int) (z48:Int) (z49:Int) (z50:Int) (hz46:0≤z46) (hz47:0≤z47) (hz48:0≤z48) (hz49:0≤z49):[[C.int .u64 z46,C.int .u64 z47,C.int .u64 z48,C.int .u64 z49,C.int .i64 z50]]=pys [⟨z46.toNat,z47.toNat,z48.toNat,z49.toNat,z50⟩]:=by simp [pys,Py.enc,Int.toNat_of_nonneg hz46,Int.toNat_of_nonneg hz47,Int.toNat_of_nonneg hz48,Int.toNat_of_nonneg hz49]
@[go_sem] theorem pys_set (l:List Py) (i:Nat) (z46:Int) (z47:Int) (z48:Int) (z49:Int) (z50:Int) (hz46:0≤z46) (hz47:0≤z47) (hz48:0≤z48) (hz49:0≤z49):(pys l).set i [C.int .u64 z46,C.int .u64 z47,C.int .u64 z48,C.int .u64 z49,C.int .i64 z50]=pys (l.set i ⟨z46.toNat,z47.toNat,z48.toNat,z49.toNat,z50⟩):=by simp [pys,List.map_set,Py.enc,Int.toNat_of_nonneg hz46,Int.toNat_of_nonneg hz47,Int.toNat_of_nonneg hz48,Int.toNat_of_nonneg hz49]
@[go_sem] theorem pys_cons (l:List Py) (z46:Int) (z47:Int) (z48:Int) (z49:Int) (z50:Int) (hz46:0≤z46) (hz47:0≤z47) (hz48:0≤z48) (hz49:0≤z49):[C.int .u64 z46,C.int .u64 z47,C.int .u64 z48,C.int .u64 z49,C.int .i64 z50]::pys l=pys (⟨z46.toNat,z47.toNat,z48.toNat,z49.toNat,z50⟩::l):=by simp [pys,Py.enc,Int.toNat_of_nonneg hz46,Int.toNat_of_nonneg hz47,Int.toNat_of_nonneg hz48,Int.toNat_of_nonneg hz49]
@[go_sem] theorem pys_flat (l:List Py):flatE (pys l)=True:=eq_true fun x hx c hc=>by
 obtain⟨e,_,rfl⟩:=List.mem_map.1 hx
 simp only [Py.enc,List.mem_cons,List.not_mem_nil,or_false]at hc
 rcases hc with rfl|rfl|rfl|rfl|rfl<;>rfl
@[go_sem] theorem Py.eta {e:Py}:(⟨e.id,e.hash,e.chan,e.n,e.state⟩:Py)=e:=rfl
@[go_sem] theorem Py.eqD {a b:Py}:eqD Tryz.prog 81 [D.c (.int .u64 (a.id:Int)),D.c (.int .u64 (a.hash:Int)),D.c (.int .u64 (a.chan:Int)),D.c (.int .u64 (a.n:Int)),D.c (.int .i64 a.state)] [D.c (.int .u64 (b.id:Int)),D.c (.int .u64 (b.hash:Int)),D.c (.int .u64 (b.chan:Int)),D.c (.int .u64 (b.n:Int)),D.c (.int .i64 b.state)]=some (decide (a=b)):=by
 cases a;cases b
 simp only [Dm.eqD,eqOf_81,eqCells,eqC,List.getElem?_cons_zero,List.getElem?_cons_succ,if_true,Option.some.injEq,Py.mk.injEq]
 rw [Bool.eq_iff_iff]
 simp [Int.ofNat_inj]
def okPy1 (x:Py):Prop:=(x.n≠0∧x.n≤MM)∧1≤x.state∧x.state≤3
instance (x:Py):Decidable (okPy1 x):=by unfold okPy1;infer_instance
def okPy (l:List Py):Prop:=l.length≤256∧(∀x∈l,okPy1 x)∧Srt.Chn Py.id ltN l
instance (l:List Py):Decidable (Srt.Chn Py.id ltN l):=by unfold Srt.Chn;infer_instance
instance (l:List Py):Decidable (okPy l):=by unfold okPy;infer_instance
def chkP (l:List Py):Int:=if okPy l then 0 else 1
attribute [go_sem] Tryz.f191
@[go_sem] def c_porder:Ct Tryz.prog:=⟨191,arg kPy fun x=>arg kU64 fun id=>pu (.int .i64 (cmpS x.id id)),arg_ok fun x=>arg_ok fun id=>ret_ok fun _=>by
 exact run [c_cmp] Tryz.f191 lv191 fun hT=>vc0⟩
attribute [go_sem] Tryz.f108
@[go_sem] def c_pmay:Ct Tryz.prog:=⟨108,arg kPy fun p=>pu (.bool (decide (okPy1 p))),arg_ok fun p=>ret_ok fun _=>by
 refine run [c_moncheck] Tryz.f108 lv108 fun hT=>vc ?_
 have hm:monS [p.n]=0↔p.n≤MM:=mon1_0
 rw [hm]
 have ho:okPy1 p↔(p.n≠0∧p.n≤MM)∧1≤p.state∧p.state≤3:= .rfl
 rw [show decide (okPy1 p)=decide ((p.n≠0∧p.n≤MM)∧1≤p.state∧p.state≤3)from decide_eq_decide.2 ho]
 refine⟨fun h=>⟨fun h2=>⟨fun h3=> ?_,fun h3=> ?_⟩,fun h2=> ?_⟩,fun h=> ?_⟩
 ·rw [decide_eq_decide];exact⟨fun h4=>⟨⟨by omega,h2⟩,h3,h4⟩,fun h4=>h4.2.2⟩
 ·exact(decide_eq_false fun h4=>h3 h4.2.1).symm
 ·exact(decide_eq_false fun h4=>h2 h4.1.2).symm
 ·exact(decide_eq_false fun h4=>h4.1.1 (by omega)).symm⟩
attribute [go_sem] Tryz.f171
@[go_sem] def c_pcheck:Ct Tryz.prog:=⟨171,arg kPys fun l=>pu (.int .i64 (chkP l)),arg_ok fun l=>ret_ok fun _=>by
 refine run [c_pmay,c_porder] Tryz.f171 lv171 fun hT=>vc ?_
 have hbad:¬okPy l→1=chkP l:=fun h=>by rw [chkP,if_neg h]
 refine fun _=>⟨fun h=>hbad fun ho=> ?_,fun h _=> ?_⟩
 ·have:=ho.1;omega
 refine SWp.loop (ι:={i:Nat // i≤l.length∧(∀j,j<i→okPy1 (l.getD j default)∧(0<j→(l.getD (j - 1) default).id<(l.getD j default).id))}) (fun i=>⟨[(0, .sl (pys l)),(8, .sl (pys l)),(9, .int .i64 l.length),(10, .int .i64 i.1)],[],0⟩) (fun i=>l.length - i.1) ⟨0,by simp⟩ ?_ ?_
 ·simp [go_sem]
 ·rintro⟨i,hi,hall⟩
  refine aw hT lv171 (vc ?_)
  refine⟨fun h1=>⟨by omega, ?_⟩,fun h1=> ?_⟩
  ·refine dr us171_6 hT (vc ?_)
   have hi':i<l.length:=by omega
   have hm:okPy l→okPy1 (l.getD i default):=fun h=>h.2.1 _ (mem_getD.2 ⟨i,hi',rfl⟩)
   refine⟨fun h2=> ?_,fun h2=>hbad fun h=>h2 (hm h)⟩
   have hnext:(0<i→(l.getD (i - 1) default).id<(l.getD i default).id)→∃i_1:{i:Nat // i≤l.length∧(∀j,j<i→okPy1 (l.getD j default)∧(0<j→(l.getD (j - 1) default).id<(l.getD j default).id))},l.length - i_1.val<l.length - i∧IntKind.i64.wrap ((i:Int)+1)=i_1.val:=fun ho=>by
    refine⟨⟨i+1,hi',fun j hj=> ?_⟩,by dsimp only;omega,i64_in _ (by omega)⟩
    by_cases hji:j=i
    ·subst hji;exact⟨h2,ho⟩
    ·exact hall j (by omega)
   refine⟨fun h3=> ?_,fun h3=>hnext fun h=>absurd h (by omega)⟩
   rw [i64_in _ (by omega),show((i:Int) - 1).toNat=i - 1 by omega]
   have hc:∀a b:Nat,0≤cmpS a b↔¬a<b:=fun a b=>by
    have:=cmpS_neg (x:=a) (y:=b);omega
   rw [hc]
   exact⟨by omega,fun h4=>hbad fun h=>h4 (h.2.2 i hi' (by omega)),fun h4=>hnext fun _=>by omega⟩
  ·have hi':i=l.length:=by omega
   subst hi'
   rw [chkP,if_pos]
   exact⟨by omega,fun x hx=>by obtain⟨j,hj,rfl⟩:=mem_getD.1 hx;exact(hall j hj).1,fun j hj h0=>(hall j hj).2 h0⟩⟩
def findP (l:List Py) (id:Nat):Int×Int:=if okPy l then((Srt.pos Py.id ltN l id:Nat),if Srt.thr Py.id ltN l id=true then 0 else 5)else(0,1)
attribute [go_sem] Tryz.f107 Tryz.f190
@[go_sem] def c_pfind:Ct Tryz.prog:=⟨107,arg kPys fun l=>arg kU64 fun id=>pu (.tup [.int .i64 (findP l id).1, .int .i64 (findP l id).2]),arg_ok fun l=>arg_ok fun id=>ret_ok fun _=>by
 refine run [c_pcheck,c_porder] Tryz.f107 lv107 fun hT=>vc ?_
 have hcz:chkP l=0↔okPy l:=by unfold chkP;split<;>simp_all
 refine⟨fun hok0=> ?_,fun hno0=>by
  have hno:¬okPy l:=fun h=>hno0 (hcz.2 h)
  rw [findP,chkP,if_neg hno,if_neg hno];exact⟨rfl,rfl⟩⟩
 have hok:=hcz.1 hok0
 have hu:Srt.Up Py.id ltN l:=(Srt.chn_up (lt:=ltN) Srt.totNat).1 hok.2.2
 have hl32:=hok.1
 refine cl hT Tryz.f190 lv190 (vc ?_)
 refine fun _=>SWp.loop (ι:={x:Nat×Nat // x.1≤x.2∧x.2≤l.length∧(∀k,k<x.1→(l.getD k default).id<id)∧∀k,x.2≤k→k<l.length→¬(l.getD k default).id<id}) (fun x=>⟨[(0, .sl (pys l)),(1, .int .u64 id),(2, .fn (.func 191) [] []),(8, .int .i64 l.length),(9, .int .i64 x.1.1),(10, .int .i64 x.1.2)],[],0⟩) (fun x=>x.1.2 - x.1.1) ⟨(0,l.length),by simp,by simp,fun k hk=>absurd hk (by simp),fun k h1 h2=>absurd h1 (by simpa using h2)⟩ ?_ ?_
 ·simp [go_sem]
 ·rintro⟨⟨i,j⟩,hij,hj,hlo,hup⟩
  dsimp only at hij hj hlo hup
  refine aw hT lv190 (vc ?_)
  rw [mid_eq hij hj ‹_›]
  refine⟨fun h4=> ?_,fun h4=> ?_⟩
  ·have hm:(i+j) / 2<l.length:=by omega
   rw [cmpS_neg,Int.toNat_natCast]
   refine⟨by omega,fun h5=>⟨⟨((i+j) / 2+1,j),by dsimp only;omega,hj,fun k hk=> ?_,hup⟩,by dsimp only;omega,i64_in _ (by omega),rfl⟩,fun h5=>⟨⟨(i,(i+j) / 2),by dsimp only;omega,by dsimp only;omega,hlo,fun k hk1 hk2=> ?_⟩,by dsimp only;omega,rfl,rfl⟩⟩
   ·dsimp only at hk
    by_cases hkm:k=(i+j) / 2
    ·rw [hkm];omega
    ·have:=Srt.up_get.1 hu k _ (by omega) hm
     simp only [ltN]at this;omega
   ·dsimp only at hk1
    by_cases hkm:k=(i+j) / 2
    ·rw [hkm];omega
    ·have:=Srt.up_get.1 hu ((i+j) / 2) k (by omega) hk2
     simp only [ltN]at this;omega
  ·have hp:Srt.pos Py.id ltN l id=i:=Srt.pos_eq (by omega) hlo (fun h=>hup i (by omega) h)
   rw [findP,if_pos hok,Srt.thr,hp,cmpS_0]
   refine⟨fun h5=>⟨by omega,fun h6=> ?_,fun h6=> ?_⟩,fun h5=> ?_⟩
   ·rw [if_pos (decide_eq_true ⟨by omega,by omega⟩)];exact⟨rfl,rfl⟩
   ·rw [if_neg (by rw [decide_eq_true_iff];omega)];exact⟨rfl,rfl⟩
   ·rw [if_neg (by rw [decide_eq_true_iff];omega)];exact⟨rfl,rfl⟩⟩
open Go Go.Proofs Go.IntWalk
@[go_sem] def pins_T2:Tab:=[ovk 192]
theorem pins_T2_ok:TabOk Tryz.prog pins_T2:= .cons (ov_ok 192) .nil
@[go_sem] def pins_T3:Tab:=[fg 12]
theorem pins_T3_ok:TabOk Tryz.prog pins_T3:= .cons (fg_ok 12) .nil
theorem pins_wide (l:List Py):Wide 5 (pys l):=of_eq_true (pys_wide l)
theorem pins_ok (l:List Py) (x:Py) (i:Nat) (hi:i≤l.length) (hl:l.length≤1000000):
 ACall Tryz.prog 113 [.vec 0 l.length, .int .i64 i, .vec 1 1] [(1, .vec true 5 81 (pys [x])),(0, .vec true 5 81 (pys l))] 2 fun d os _=>Grown 5 81 (pys (Srt.ins l i x)) d os:=by
 have hil:(Srt.ins l i x).length=l.length+1:=Srt.ins_len
 have hq:∀j os,lk j os=some (.vec true 5 81 (pys (Srt.ins l i x)))→Grown 5 81 (pys (Srt.ins l i x)) (.vec j (l.length+1)) os:=fun j os h=>⟨j,by rw [pys_length,hil],h⟩
 by_cases hin:i=l.length
 ·refine ac113 pins_T3_ok (Nat.le_of_ble_eq_true rfl) ?_
  have e4:((1:Int)=0)=False:=eq_false (by decide)
  subst hin
  simp -implicitDefEqProofs only [cdA,go_sem,Go.Proofs.Tryz.f113,e4,decide_true,reduceIte,reduceCtorEq,Nat.reduceEqDiff,Nat.reduceAdd,Nat.reduceLeDiff,Nat.reduceSub,Nat.reduceMul,Nat.reduceLT,Nat.reduceShiftRight,Nat.reduceMod,Int.reduceLE,Int.reduceLT,Int.reduceToNat,List.cons.injEq,cdB]
  refine⟨Int.le_refl _,fun h=>h.elim,fun _=>⟨by omega,hq _ _ ?_⟩⟩
  rw [lk_cons,if_neg (by decide),lk_hd]
  simp [Srt.ins]
 ·have hlt:i<l.length:=by omega
  refine ACall.opn 0 rfl (by rw [pys_length];omega) fun c hc hcm=> ?_
  refine ACall.sld ?_
  rw [pys_length]at hc
  refine ac113 pins_T2_ok (Nat.le_of_ble_eq_true rfl) ?_
  have e1:IntKind.i64.wrap ((l.length:Int)+1)=((l.length+1:Nat):Int):=by rw [i64_in _ (by omega)];omega
  have e2:IntKind.i64.wrap ((i:Int)+1)=((i+1:Nat):Int):=by rw [i64_in _ (by omega)];omega
  have e3:((i:Int)=(l.length:Int))=False:=eq_false (by omega)
  have e4:((1:Int)=0)=False:=eq_false (by decide)
  have e5:IntKind.i64.wrap ((l.length:Int)+1 - (i:Int))=((l.length+1 - i:Nat):Int):=by rw [i64_in _ (by omega)];omega
  have e6:((l.length:Int)+1).toNat=l.length+1:=by omega
  have e7:((i:Int)+1).toNat=i+1:=by omega
  have e8:i+(l.length+1 - i)=l.length+1:=by omega
  simp -implicitDefEqProofs only [cdA,go_sem,Go.Proofs.Tryz.f113,e3,e4,e1,e2,e5,e6,e7,e8,decide_false,reduceIte,reduceCtorEq,Nat.reduceEqDiff,Nat.reduceAdd,Nat.reduceLeDiff,Nat.reduceSub,Nat.reduceMul,Nat.reduceLT,Nat.reduceShiftRight,Nat.reduceMod,Int.reduceLE,Int.reduceLT,Int.reduceToNat,List.cons.injEq,cdB]
  refine⟨by omega,fun _=>⟨fun h1=>⟨by omega,by omega,fun c1 h2 h3=>⟨by omega, ?_⟩⟩,fun h1=>⟨by omega,by omega, ?_, ?_⟩⟩⟩
  ·refine ADraw.run us113_11 pins_T2_ok follows_mixed (by kernel_rfl) (by kernel_rfl) ?_
   simp -implicitDefEqProofs only [cdA,go_sem,e1,e2,e5,e6,e7,e8,reduceIte,reduceCtorEq,Nat.reduceEqDiff,Nat.reduceAdd,Nat.reduceLeDiff,Nat.reduceSub,Nat.reduceMul,Nat.reduceLT,Nat.reduceShiftRight,Nat.reduceMod,Int.reduceLE,Int.reduceLT,Int.reduceToNat,List.cons.injEq,cdB]
   refine⟨by omega,by omega,fun y hy=>fit_wide (pins_wide l) y (List.mem_of_mem_take (List.mem_of_mem_drop hy)), ?_⟩
   have:=ins_new (sz:=5) (c:=c) (c1:=c1) (i:=i) (E:=pys l) (x:=x.enc) (z:=[C.int .u64 0,C.int .u64 0,C.int .u64 0,C.int .u64 0,C.int .i64 0]) (by rw [pys_length];exact hlt) (by rw [pys_length];exact hc) (by rw [pys_length];exact h2)
   rw [pys_length]at this
   refine hq _ _ ?_
   rw [lk_hd]
   congr 2
   rw [show pys (List.take (l.length+1 - i) [x])=List.take (l.length+1 - i) [x.enc] by simp [pys],this]
   simp [pys,Srt.ins]
  ·exact⟨_,25,4,_,rfl,rfl,rfl,rfl,by kernel_rfl,elOf_25⟩
  ·refine ADraw.run us113_15 pins_T2_ok follows_mixed (by kernel_rfl) (by kernel_rfl) ?_
   simp -implicitDefEqProofs only [cdA,go_sem,e1,e2,e5,e6,e7,e8,reduceIte,reduceCtorEq,Nat.reduceEqDiff,Nat.reduceAdd,Nat.reduceLeDiff,Nat.reduceSub,Nat.reduceMul,Nat.reduceLT,Nat.reduceShiftRight,Nat.reduceMod,Int.reduceLE,Int.reduceLT,Int.reduceToNat,List.cons.injEq,cdB]
   refine⟨by omega,by omega,fun y hy=>fit_wide (pins_wide l) y (List.mem_of_mem_take (List.mem_of_mem_drop hy)),by omega, ?_⟩
   have:=ins_old (sz:=5) (c:=c) (i:=i) (E:=pys l) (x:=x.enc) (by rw [pys_length];exact hlt) (by rw [pys_length];omega)
   rw [pys_length]at this
   refine hq _ _ ?_
   rw [lk_hd]
   congr 2
   rw [show pys (List.take (l.length+1 - i) [x])=List.take (l.length+1 - i) [x.enc] by simp [pys],this]
   simp [pys,Srt.ins]
attribute [go_sem] Tryz.f109
@[go_sem] def c_pclone:Ct Tryz.prog:=⟨109,arg kPys fun l=>ret (l.length≤1000000) (.vec 0 l.length) ([(5,81,true,pys l)]),arg_ok fun l=>retF_ok fun hl=>by
 refine runF [] Tryz.f109 lv109 fun hT=>vc ?_
 refine fun b hb=>⟨fun h=> ?_,fun h=> ?_⟩
 ·exact⟨[none],by simp [go_sem,hb h],by cases l<;>simp_all [go_sem,pys]⟩
 ·exact⟨by omega,[some 0],by simp [go_sem]⟩⟩
theorem del_old {c z i:Nat} {E Z:List (List C)} (hi:i<E.length) (hc:E.length≤c):
 (fit c z ((fit c z ((fit c z E).take i++(E.drop (i+1)++(fit c z E).drop (i+(E.drop (i+1)).length)))).take (i+(E.drop (i+1)).length)++Z)).take (i+(E.drop (i+1)).length)=E.eraseIdx i:=by
 have hD:(E.drop (i+1)).length=E.length - (i+1):=List.length_drop
 have hF:(fit c z E).length=c:=fit_length _ _ _
 have h1:((fit c z E).take i++(E.drop (i+1)++(fit c z E).drop (i+(E.drop (i+1)).length))).length=c:=by
  simp only [List.length_append,List.length_take,List.length_drop,hF];omega
 rw [fit_take (by rw [List.length_append,List.length_take,fit_length];omega) (by omega),List.take_append_of_le_length (by rw [List.length_take,fit_length];omega),List.take_take,Nat.min_self,
  fit_take (by omega) (by omega),←List.append_assoc,fit_take (by omega) (by omega),List.take_append_of_le_length (by rw [List.length_append,List.length_take];omega),List.eraseIdx_eq_take_drop_succ]
 rw [List.take_of_length_le (by rw [List.length_append,List.length_take];omega)]
theorem pys_erase (l:List Py) (i:Nat):(pys l).eraseIdx i=pys (l.eraseIdx i):=by
 simp [pys,List.eraseIdx_eq_take_drop_succ]
def idle (l:List Py):Option Nat:=l.findIdx? fun p=>decide (p.state≠1)
def startP (l:List Py) (p:Py):List Py×Int:=
 if¬okPy l∨¬okPy1 p∨p.state≠1 then([],1)else if Srt.thr Py.id ltN l p.id=true then([],6)else if l.length=256 then(match idle l with
  |none=>([],7)
  |some k=>(Srt.ins (l.eraseIdx k) (if k<Srt.pos Py.id ltN l p.id then Srt.pos Py.id ltN l p.id - 1 else Srt.pos Py.id ltN l p.id) p,0))
 else(Srt.ins l (Srt.pos Py.id ltN l p.id) p,0)
attribute [go_sem] Tryz.f42 Tryz.f110 Tryz.f111 Tryz.f112
@[go_sem] def c_pstart:Ct Tryz.prog:=⟨42,arg kPys fun l=>arg kPy fun p=>pu (.tup [.sl (pys (startP l p).1), .int .i64 (startP l p).2]),arg_ok fun l=>arg_ok fun p=>ret_ok fun _=>by
 refine run [c_pfind,c_pmay,c_pclone,fgC 13] Tryz.f42 lv42 fun hT=>vc ?_
 have hbad:(¬okPy l∨¬okPy1 p∨p.state≠1)→pys (startP l p).1=[]∧1=(startP l p).2:=fun h=>by rw [startP,if_pos h];exact⟨rfl,rfl⟩
 by_cases hok:okPy l
 rotate_left 1
 ·have e:findP l p.id=(0,1):=by rw [findP,if_neg hok]
  rw [e]
  exact⟨fun h=>absurd rfl h,fun _=>hbad (.inl hok)⟩
 have e:findP l p.id=(((Srt.pos Py.id ltN l p.id:Nat):Int),if Srt.thr Py.id ltN l p.id=true then 0 else 5):=by rw [findP,if_pos hok]
 have h256:=hok.1
 rw [e]
 refine⟨fun _=>⟨fun h1=>⟨fun h2=> ?_,fun h2=>hbad (.inr (.inr h2))⟩,fun h1=>hbad (.inr (.inl h1))⟩,fun h=>by dsimp only at h;split at h<;>cases h⟩
 have hA:¬(¬okPy l∨¬okPy1 p∨p.state≠1):=by rintro(h|h|h)<;>first|exact h hok|exact h h1|exact h h2
 by_cases ht:Srt.thr Py.id ltN l p.id=true
 ·rw [if_pos ht]
  exact⟨fun _=>by rw [startP,if_neg hA,if_pos ht];exact⟨rfl,rfl⟩,fun h=>absurd rfl h⟩
 rw [if_neg ht]
 refine⟨fun h=>absurd h (by dsimp only;decide),fun _=>⟨by omega,fun _=>⟨fun h3=> ?_,fun h3=> ?_⟩⟩⟩
 ·skip
  refine cl hT Tryz.f110 lv110 (vc ?_)
  refine fun _=>SWp.loop (ι:={i:Nat // i≤l.length∧∀j,j<i→(l.getD j default).state=1}) (fun i=>⟨[(0, .vec 1 l.length),(1, .fn (.func 111) [] []),(7, .int .i64 l.length),(8, .int .i64 i.1)],
   [(1, .vec true 5 81 (pys l)),(0, .box [.c (.int .u64 p.id), .c (.int .u64 p.hash), .c (.int .u64 p.chan), .c (.int .u64 p.n), .c (.int .i64 p.state)])],2⟩) (fun i=>l.length - i.1) ⟨0,by simp⟩ ?_ ?_
  ·simp [go_sem]
  ·rintro⟨i,hi,hall⟩
   refine aw hT lv110 (vc ?_)
   refine⟨fun h4=>⟨by omega,by omega, ?_⟩,fun h4=> ?_⟩
   ·skip
    refine cl hT Tryz.f111 lv111 (vc ?_)
    refine⟨fun h5=>⟨⟨i+1,by omega,fun j hj=> ?_⟩,by dsimp only;omega,i64_in _ (by omega)⟩,fun h5=>⟨fun h6=>by omega,fun _=> ?_⟩⟩
    ·by_cases hji:j=i
     ·subst hji;exact h5
     ·exact hall j (by omega)
    ·have hi':i<l.length:=by omega
     have hidle:idle l=some i:=by
      refine List.findIdx?_eq_some_iff_getElem.2 ⟨hi', ?_,fun j hj=> ?_⟩
      ·rw [←getD_lt hi'];exact decide_eq_true h5
      ·rw [←getD_lt (by omega)];simpa using hall j hj
     rw [i64_in _ (by omega)]
     refine ACall.opn 1 rfl (by rw [pys_length];omega) fun c hc hcm=> ?_
     refine ACall.sld ?_
     rw [pys_length]at hc
     refine cl hT Tryz.f112 lv112 (vc ?_)
     refine fun _=>⟨⟨by omega,by omega,by omega⟩,fun h=>absurd h (by omega),fun _ _=> ?_⟩
     refine dr us112_5 hT (vc ?_)
     have eF:List.take l.length (fit c 5 (pys l))=pys l:=by rw [fit_take (by rw [pys_length];exact Nat.le_refl _) hc,List.take_of_length_le (by rw [pys_length];exact Nat.le_refl _)]
     have e2:((i:Int)+1).toNat=i+1:=by omega
     rw [eF,e2]
     have hD:((pys l).drop (i+1)).length=l.length - (i+1):=by rw [List.length_drop,pys_length]
     have e3:((i:Int)+(((pys l).drop (i+1)).length:Int)).toNat=i+((pys l).drop (i+1)).length:=by omega
     simp only [e3]
     have hE:∀Z:List (List C),(fit c 5 ((fit c 5 ((fit c 5 (pys l)).take i++((pys l).drop (i+1)++(fit c 5 (pys l)).drop (i+((pys l).drop (i+1)).length)))).take (i+((pys l).drop (i+1)).length)++Z)).take (i+((pys l).drop (i+1)).length)=pys (l.eraseIdx i):=fun Z=>by
      rw [del_old (by rw [pys_length];exact hi') (by rw [pys_length];exact hc),pys_erase]
     rw [hE,hD]
     have hl1:i+(l.length - (i+1))=(l.eraseIdx i).length:=by rw [List.length_eraseIdx_of_lt hi'];omega
     rw [hl1]
     have hl2:(l.eraseIdx i).length=l.length - 1:=List.length_eraseIdx_of_lt hi'
     have hpl:Srt.pos Py.id ltN l p.id≤l.length:=Srt.pos_le
     refine⟨by omega,⟨by omega,by omega⟩,⟨fun x hx=> ?_,by omega⟩,fun _=>⟨⟨by omega,by omega,by omega⟩,fun h7=> ?_,fun h7=> ?_⟩⟩
     ·exact(of_eq_true (pys_wide l)) x (List.mem_of_mem_drop hx)
     ·rw [i64_in _ (by omega),show((Srt.pos Py.id ltN l p.id:Nat):Int) - 1=((Srt.pos Py.id ltN l p.id - 1:Nat):Int) by omega]
      refine ACall.grow (mid:=[.int .i64 _]) (pins_ok (l.eraseIdx i) p (Srt.pos Py.id ltN l p.id - 1) (by omega) (by omega)) rfl rfl (by decide) (by simp [Srt.ins_len]) (fun d hd g g' w v hv=> ?_) ?_
      ·simp at hd;subst hd
       cases hv with
       |c _ _ h=>cases h;exact .c _ _ (.int _ _)
      ·refine vc ?_
       rw [startP,if_neg hA,if_neg ht,if_pos (by omega),hidle]
       dsimp only
       rw [if_pos (by omega)]
       exact⟨⟨rfl,_,_,_,rfl⟩,rfl⟩
     ·refine ACall.grow (mid:=[.int .i64 _]) (pins_ok (l.eraseIdx i) p (Srt.pos Py.id ltN l p.id) (by omega) (by omega)) rfl rfl (by decide) (by simp [Srt.ins_len]) (fun d hd g g' w v hv=> ?_) ?_
      ·simp at hd;subst hd
       cases hv with
       |c _ _ h=>cases h;exact .c _ _ (.int _ _)
      ·refine vc ?_
       rw [startP,if_neg hA,if_neg ht,if_pos (by omega),hidle]
       dsimp only
       rw [if_neg (by omega)]
       exact⟨⟨rfl,_,_,_,rfl⟩,rfl⟩
   ·have:idle l=none:=by
     refine List.findIdx?_eq_none_iff.2 fun x hx=> ?_
     obtain⟨j,hj,rfl⟩:=mem_getD.1 hx
     simpa using hall j (by omega)
    rw [startP,if_neg hA,if_neg ht,if_pos (by omega),this]
    exact⟨rfl,rfl⟩
 ·have hpos:Srt.pos Py.id ltN l p.id≤l.length:=Srt.pos_le
  refine ACall.grow (mid:=[.int .i64 _]) (pins_ok l p (Srt.pos Py.id ltN l p.id) hpos (by omega)) rfl rfl (by decide) (by simp [Srt.ins_len]) (fun d hd g g' w v hv=> ?_) ?_
  ·simp at hd;subst hd
   cases hv with
   |c _ _ h=>cases h;exact .c _ _ (.int _ _)
  ·refine vc ?_
   rw [startP,if_neg hA,if_neg ht,if_neg (by omega)]
   exact⟨⟨rfl,_,_,_,rfl⟩,rfl⟩⟩
open Go Go.Proofs Go.IntWalk
def pendL (l:List Py) (id:Nat) (paid:Bool):List Py×Int:=
 if okPy l then(if Srt.thr Py.id ltN l id=true then(if(l.getD (Srt.pos Py.id ltN l id) default).state=1 then(l.set (Srt.pos Py.id ltN l id) {l.getD (Srt.pos Py.id ltN l id) default with state:=if paid=true then 2 else 3},0)else([],10))else([],5))else([],1)
attribute [go_sem] Tryz.f54
@[go_sem] def c_pend:Ct Tryz.prog:=⟨54,arg kPys fun l=>arg kU64 fun id=>arg kBool fun paid=>pu (.tup [.sl (pys (pendL l id paid).1), .int .i64 (pendL l id paid).2]),arg_ok fun l=>arg_ok fun id=>arg_ok fun paid=>ret_ok fun _=>by
 refine run [c_pfind,c_pclone] Tryz.f54 lv54 fun hT=>vc ?_
 by_cases hok:okPy l
 rotate_left 1
 ·have ef:findP l id=(0,1):=by rw [findP,if_neg hok]
  rw [ef,pendL,if_neg hok]
  exact⟨fun h=>absurd (show(1:Int)=0 from h) (by decide),fun _=>⟨rfl,rfl⟩⟩
 by_cases ht:Srt.thr Py.id ltN l id=true
 rotate_left 1
 ·have ef:findP l id=(((Srt.pos Py.id ltN l id:Nat):Int),5):=by rw [findP,if_pos hok,if_neg ht]
  rw [ef,pendL,if_pos hok,if_neg ht]
  exact⟨fun h=>absurd (show(5:Int)=0 from h) (by decide),fun _=>⟨rfl,rfl⟩⟩
 have ef:findP l id=(((Srt.pos Py.id ltN l id:Nat):Int),0):=by rw [findP,if_pos hok,if_pos ht]
 have hp:Srt.pos Py.id ltN l id<l.length:=by
  have ht:=ht
  unfold Srt.thr at ht
  exact(of_decide_eq_true ht).1
 rw [ef,pendL,if_pos hok,if_pos ht]
 generalize Srt.pos Py.id ltN l id=r at hp
 dsimp only
 have h256:=hok.1
 have hg:∀x:Py,(l.set r x).getD r default=x:=fun x=>by rw [Srt.set_getD hp,if_pos rfl]
 simp only [Int.toNat_natCast,hg,List.set_set]
 refine⟨fun _=>⟨⟨by omega,by omega⟩,fun hs=>⟨by omega,⟨by omega,by omega⟩,hp,fun hp1=>⟨⟨by omega,by omega⟩,hp, ?_⟩,fun hp1=> ?_⟩,fun hs=> ?_⟩,fun h=>absurd trivial h⟩
 ·rw [if_pos hs,if_pos hp1];exact⟨⟨by rw [List.length_set],_,_,_,rfl⟩,rfl⟩
 ·rw [if_pos hs,if_neg (by rw [hp1];decide)];exact⟨⟨by rw [List.length_set],_,_,_,rfl⟩,rfl⟩
 ·rw [if_neg hs];exact⟨rfl,rfl⟩⟩
open Go Go.Proofs Go.IntWalk
def hlC (c:Ch):List K3:=c.holds.map fun h=>(c.id,h.id,h.n)
def hlL (cs:List Ch):List K3:=cs.flatMap hlC
def pend (l:List Py):List Py:=l.filter fun p=>decide (p.state=1)
def agrL (l:List Py) (cs:List Ch):Bool×Int:=if okPy l∧cs.length≤32∧(cs.map Ch.id).Nodup then(decide ((∀p∈pend l,(p.chan,p.id,p.n)∈hlL cs)∧(hlL cs).length=(pend l).length),0)else(false,1)
theorem hl_len:∀{cs:List Ch} {n:Nat},(∀c∈cs,c.holds.length≤1000000)→cs.length≤n→(hlL cs).length≤n*1000000
 |[],n,_,_=>by simp [hlL]
 |c::cs,n,h,hn=>by
  have h1:hlL (c::cs)=hlC c++hlL cs:=rfl
  rw [h1,List.length_append]
  have h2:(hlC c).length≤1000000:=by unfold hlC;rw [List.length_map];exact h c (.head _)
  have h3:=hl_len (cs:=cs) (n:=cs.length) (fun d hd=>h d (.tail _ hd)) (Nat.le_refl _)
  simp only [List.length_cons]at hn
  omega
attribute [go_sem] Tryz.f89
@[go_sem] def c_pagree:Ct Tryz.prog:=⟨89,arg kPys fun l=>arg kChs fun cs=>ret (∀c∈cs,c.holds.length≤1000000) (.tup [.bool (agrL l cs).1, .int .i64 (agrL l cs).2]) [],arg_ok fun l=>arg_ok fun cs=>ret_ok fun hs=>by
 refine run [c_pcheck] Tryz.f89 lv89 fun hT=>vc ?_
 have hbad:¬(okPy l∧cs.length≤32∧(cs.map Ch.id).Nodup)→false=(agrL l cs).1∧1=(agrL l cs).2:=fun h=>by rw [agrL,if_neg h];exact⟨rfl,rfl⟩
 have hcz:chkP l=0↔okPy l:=by unfold chkP;split<;>rename_i h<;>simp only [h]<;>decide
 refine⟨fun h0 hl=>⟨fun h=>hbad fun ho=> ?_,fun hle _=> ?_⟩,fun h0=>hbad fun h=>h0 (hcz.2 h.1)⟩
 ·have:=ho.2.1;omega
 have hok:=hcz.1 h0
 refine SWp.loop (ι:={x:Nat×List (K3×Int)×List (Nat×Int) // x.1≤cs.length∧((cs.take x.1).map Ch.id).Nodup∧(∀k,(alk k x.2.1).getD 0=(List.count k (hlL (cs.take x.1)):Nat))∧(∀k,(nlk k x.2.2).getD 0=(List.count k ((cs.take x.1).map Ch.id):Nat))})
  (fun x=>⟨[(0, .sl (pys l)),(6, .mp 0),(7, .mp 1),(8, .int .i64 (hlL (cs.take x.1.1)).length),(25, .sl (chs cs)),(26, .int .i64 cs.length),(27, .int .i64 x.1.1)],[(1, .map [.int .u64] (kvN .u64 .i64 x.1.2.2)),(0, .map [.int .u64, .int .u64, .int .u64] (kv3 x.1.2.1))],2⟩) (fun x=>cs.length - x.1.1)
  ⟨(0,[],[]),by simp,by simp,fun k=>by simp [alk,hlL],fun k=>by simp [nlk]⟩ ?_ ?_
 ·simp [go_sem,kvN,kv3,hlL]
 ·rintro⟨⟨i,m,ids⟩,hi,hnd,hm,hids⟩
  dsimp only at hi hnd hm hids
  refine aw hT lv89 ?_
  simp -implicitDefEqProofs only [cdA,go_sem,okL_z,simprocAttr, -Int.reduceEq,List.cons.injEq,cdB]
  have hlen:(hlL (cs.take i)).length≤i*1000000:=hl_len (fun c hc=>hs c (List.mem_of_mem_take hc)) (by rw [List.length_take];omega)
  refine⟨fun h1=>⟨by omega, ?_⟩,fun h1 _=> ?_⟩
  ·have hi':i<cs.length:=by omega
   have hcm:cs.getD i default∈cs:=mem_getD.2 ⟨i,hi',rfl⟩
   have htk:cs.take (i+1)=cs.take i++[cs.getD i default]:=take_succ hi'
   generalize cs.getD i default=c at*
   have hcl:=hs c hcm
   have hcle:List.count c.id ((cs.take i).map Ch.id)≤32:=Nat.le_trans List.count_le_length (by simp;omega)
   rw [hids,i64_in _ (by omega),nlk_nset,if_pos rfl]
   generalize hids':nset c.id ((List.count c.id ((cs.take i).map Ch.id):Nat)+1:Int) ids=ids'
   have hid2:∀k,(nlk k ids').getD 0=(List.count k ((cs.take (i+1)).map Ch.id):Nat):=fun k=>by
    rw [←hids',nlk_nset,htk,List.map_append,List.count_append]
    split
    ·rename_i h;subst h;simp
    ·rename_i h
     rw [hids];simp [List.count_cons,Ne.symm h]
   refine⟨fun h2=>hbad fun ho=> ?_,fun h2 _=> ?_⟩
   ·have h3:(cs.take (i+1)).map Ch.id<+:cs.map Ch.id:=(List.take_prefix _ _).map _
    have h4:=h3.sublist.nodup ho.2.2
    rw [htk,List.map_append,List.nodup_append]at h4
    have h5:0<List.count c.id ((cs.take i).map Ch.id):=by
     simp only [Option.getD_some]at h2;omega
    exact h4.2.2 _ (List.count_pos_iff.1 h5) c.id (by simp) rfl
   ·have hnd':((cs.take (i+1)).map Ch.id).Nodup:=by
     rw [htk,List.map_append,List.nodup_append]
     refine⟨hnd,by simp,fun x hx y hy=> ?_⟩
     simp at hy
     rintro rfl
     subst hy
     have:=List.count_pos_iff.2 hx
     simp only [Option.getD_some]at h2;omega
    refine SWp.loop (ι:={x:Nat×List (K3×Int) // x.1≤c.holds.length∧∀k,(alk k x.2).getD 0=(List.count k (hlL (cs.take i)++(hlC c).take x.1):Nat)})
     (fun x=>⟨[(0, .sl (pys l)),(6, .mp 0),(7, .mp 1),(8, .int .i64 ((hlL (cs.take i)).length+x.1.1:Nat)),(10, .ref 2 0),(25, .sl (chs cs)),(26, .int .i64 cs.length),(27, .int .i64 i),(42, .c (.sl (hds c.holds))),(43, .int .i64 c.holds.length),(44, .int .i64 x.1.1)],
      [(2, .box [.c (.int .u64 c.id), .c (.int .u64 c.loc), .c (.int .u64 c.rem), .c (.int .u64 c.res), .c (.int .u64 c.most), .c (.sl (hds c.holds)), .c (.bool c.op)]),(1, .map [.int .u64] (kvN .u64 .i64 ids')),(0, .map [.int .u64, .int .u64, .int .u64] (kv3 x.1.2))],3⟩) (fun x=>c.holds.length - x.1.1)
     ⟨(0,m),by simp,fun k=>by simp [hm]⟩ ?_ ?_
    ·simp [go_sem]
    ·rintro⟨⟨k,m⟩,hk,hm⟩
     dsimp only at hk hm
     refine aw hT lv89 ?_
     simp -implicitDefEqProofs only [cdA,go_sem,okL_z,simprocAttr, -Int.reduceEq,List.cons.injEq,cdB]
     refine⟨fun h3=>⟨by omega, ?_⟩,fun h3=> ?_⟩
     ·refine ADraw.runC us89_13 [0,0,2,0,14,31,63,63,159,511] hT follows_mixed (by kernel_rfl) (by kernel_rfl) (by kernel_rfl) ?_
      simp -implicitDefEqProofs only [cdA,go_sem,okL_z,simprocAttr, -Int.reduceEq,List.cons.injEq,cdB]
      have hk':k<c.holds.length:=by omega
      have hcl':(hlC c).length=c.holds.length:=by unfold hlC;rw [List.length_map]
      have hct:List.count (c.id,(c.holds.getD k default).id,(c.holds.getD k default).n) (hlL (cs.take i)++(hlC c).take k)≤i*1000000+1000000:=
       Nat.le_trans List.count_le_length (by rw [List.length_append,List.length_take];omega)
      have hstep:(hlC c).take (k+1)=(hlC c).take k++[(c.id,(c.holds.getD k default).id,(c.holds.getD k default).n)]:=by
       rw [take_succ (by rw [hcl'];exact hk')]
       congr 2
       unfold hlC
       rw [getD_lt (by rw [List.length_map];exact hk'),getD_lt hk',List.getElem_map]
      refine⟨⟨(k+1,_),hk',fun q=> ?_⟩,by dsimp only;omega,⟨by rw [i64_in _ (by omega)];dsimp only;omega,i64_in _ (by omega)⟩,rfl⟩
      dsimp only
      rw [hm,i64_in _ (by omega),alk_aset,hstep,←List.append_assoc]
      generalize hlL (cs.take i)++(hlC c).take k=A at*
      generalize (c.id,(c.holds.getD k default).id,(c.holds.getD k default).n)=t at*
      rw [List.count_append,List.count_singleton]
      split
      ·rename_i h;subst h
       rw [if_pos (by simp),Option.getD_some];omega
      ·rename_i h
       rw [hm,if_neg (by simpa using Ne.symm h)];omega
     ·have hk':k=c.holds.length:=by omega
      subst hk'
      have hcl':(hlC c).length=c.holds.length:=by unfold hlC;rw [List.length_map]
      have hl1:hlL (cs.take (i+1))=hlL (cs.take i)++hlC c:=by rw [htk];simp [hlL]
      refine⟨⟨(i+1,m,ids'),hi',hnd',fun q=> ?_,hid2⟩,by dsimp only;omega,⟨by dsimp only;rw [hl1,List.length_append,hcl'];omega,i64_in _ (by omega)⟩,rfl,rfl⟩
      dsimp only
      rw [hm,hl1,←hcl',List.take_length]
  ·have hi':i=cs.length:=by omega
   subst hi'
   rw [List.take_length]at hnd hm hids hlen⊢
   have hA:okPy l∧cs.length≤32∧(cs.map Ch.id).Nodup:=⟨hok,by omega,hnd⟩
   have hl256:=hok.1
   have hpl:∀j,(pend (l.take j)).length≤256:=fun j=>Nat.le_trans (List.length_filter_le _ _) (by rw [List.length_take];omega)
   refine SWp.loop (ι:={j:Nat // j≤l.length∧∀p∈pend (l.take j),(p.chan,p.id,p.n)∈hlL cs}) (fun j=>⟨[(6, .mp 0),(8, .int .i64 ((hlL cs).length - (pend (l.take j.1)).length:Int)),(61, .sl (pys l)),(62, .int .i64 l.length),(63, .int .i64 j.1)],[(1, .map [.int .u64] (kvN .u64 .i64 ids)),(0, .map [.int .u64, .int .u64, .int .u64] (kv3 m))],2⟩) (fun j=>l.length - j.1) ⟨0,by simp [pend]⟩ ?_ ?_
   ·simp [go_sem,pend]
   ·rintro⟨j,hj,hin⟩
    have hpj:=hpl j
    refine aw hT lv89 ?_
    simp -implicitDefEqProofs only [cdA,go_sem,okL_z,simprocAttr, -Int.reduceEq,List.cons.injEq,cdB]
    refine⟨fun h1=>⟨by omega,fun h2=> ?_,fun h2=> ?_⟩,fun h1=> ?_⟩
    ·have hj':j<l.length:=by omega
     have hst:pend (l.take (j+1))=pend (l.take j)++[l.getD j default]:=by
      unfold pend
      rw [take_succ hj',List.filter_append]
      simp only [List.filter_cons,decide_eq_true h2,if_true,List.filter_nil]
     rw [hm]
     refine⟨fun h3=> ?_,fun h3=> ?_⟩
     ·rw [agrL,if_pos hA]
      refine⟨(decide_eq_false fun h4=> ?_).symm,rfl⟩
      have h5:=h4.1 (l.getD j default) (List.mem_filter.2 ⟨mem_getD.2 ⟨j,hj',rfl⟩,decide_eq_true h2⟩)
      have:=List.count_pos_iff.2 h5
      omega
     ·refine⟨⟨j+1,hj',fun p hp=> ?_⟩,by dsimp only;omega, ?_,i64_in _ (by omega)⟩
      ·rw [hst]at hp
       rcases List.mem_append.1 hp with hp|hp
       ·exact hin p hp
       ·rw [List.mem_singleton]at hp
        rw [hp]
        exact List.count_pos_iff.1 (by omega)
      ·rw [i64_in _ (by omega)]
       dsimp only
       rw [hst,List.length_append,List.length_singleton];omega
    ·have hj':j<l.length:=by omega
     have hst:pend (l.take (j+1))=pend (l.take j):=by
      unfold pend
      rw [take_succ hj',List.filter_append]
      simp only [List.filter_cons,decide_eq_false h2,List.filter_nil,List.append_nil,Bool.false_eq_true,if_false]
     exact⟨⟨j+1,hj',fun p hp=>hin p (by rwa [hst]at hp)⟩,by dsimp only;omega,by dsimp only;rw [hst],i64_in _ (by omega)⟩
    ·have hj':j=l.length:=by omega
     subst hj'
     rw [List.take_length]at hin hpj⊢
     rw [agrL,if_pos hA]
     refine⟨?_,rfl⟩
     rw [decide_eq_decide]
     exact⟨fun h=>⟨hin,by omega⟩,fun h=>by omega⟩⟩
open Go Go.Proofs Go.IntWalk
structure Iv where
 hash:Nat
 n:Nat
 till:Nat
 state:Int
deriving DecidableEq,Inhabited
@[go_sem] def Iv.enc (e:Iv):List C:=[.int .u64 (e.hash:Int), .int .u64 (e.n:Int), .int .u64 (e.till:Int), .int .i64 e.state]
@[go_sem] def Iv.dec:List C→Iv
 |[.int .u64 z32, .int .u64 z33, .int .u64 z34, .int .i64 z35]=>(⟨z32.toNat,z33.toNat,z34.toNat,z35⟩:Iv)
 |_=>default
def ivs (l:List Iv):List (List C):=l.map Iv.enc
def divs (l:List (List C)):List Iv:=l.map Iv.dec
abbrev kIv:=kAg Iv.enc Iv.dec
abbrev kIvs:=kSl ivs divs
@[simp,go_sem] theorem ivs_length (l:List Iv):(ivs l).length=l.length:=by simp [ivs]
@[go_sem] theorem ivs_get (l:List Iv) (i:Nat):(ivs l).getD i [.int .u64 0, .int .u64 0, .int .u64 0, .int .i64 0]=(l.getD i default).enc:=by
 simp only [ivs,List.getD_eq_getElem?_getD,List.getElem?_map]
 cases l[i]? <;>rfl
@[go_sem] theorem ivs_wide (l:List Iv):Wide 4 (ivs l)=True:=by
 simp [Wide,ivs,Iv.enc]
theorem Iv.dec_enc (e:Iv):Iv.dec e.enc=e:=by
 simp [Iv.enc,Iv.dec]
@[go_sem] theorem divs_ivs (l:List Iv):divs (ivs l)=l:=by
 simp only [divs,ivs,List.map_map]
 exact List.map_id'' (fun e=>Iv.dec_enc e) l
@[go_sem] theorem ivs_app (a b:List Iv):ivs a++ivs b=ivs (a++b):=by simp [ivs]
@[go_sem] theorem ivs_drop (l:List Iv) (k:Nat):(ivs l).drop k=ivs (l.drop k):=by simp [ivs]
@[go_sem] theorem ivs_take (l:List Iv) (k:Nat):(ivs l).take k=ivs (l.take k):=by simp [ivs]
@[go_sem] theorem ivs_one (z36:Int) (z37:Int) (z38:Int) (z39:Int) (hz36:0≤z36) (hz37:0≤z37) (hz38:0≤z38):[[C.int .u64 z36,C.int .u64 z37,C.int .u64 z38,C.int .i64 z39]]=ivs [⟨z36.toNat,z37.toNat,z38.toNat,z39⟩]:=by simp [ivs,Iv.enc,Int.toNat_of_nonneg hz36,Int.toNat_of_nonneg hz37,Int.toNat_of_nonneg hz38]
@[go_sem] theorem ivs_set (l:List Iv) (i:Nat) (z36:Int) (z37:Int) (z38:Int) (z39:Int) (hz36:0≤z36) (hz37:0≤z37) (hz38:0≤z38):(ivs l).set i [C.int .u64 z36,C.int .u64 z37,C.int .u64 z38,C.int .i64 z39]=ivs (l.set i ⟨z36.toNat,z37.toNat,z38.toNat,z39⟩):=by simp [ivs,List.map_set,Iv.enc,Int.toNat_of_nonneg hz36,Int.toNat_of_nonneg hz37,Int.toNat_of_nonneg hz38]
@[go_sem] theorem ivs_cons (l:List Iv) (z36:Int) (z37:Int) (z38:Int) (z39:Int) (hz36:0≤z36) (hz37:0≤z37) (hz38:0≤z38):[C.int .u64 z36,C.int .u64 z37,C.int .u64 z38,C.int .i64 z39]::ivs l=ivs (⟨z36.toNat,z37.toNat,z38.toNat,z39⟩::l):=by simp [ivs,Iv.enc,Int.toNat_of_nonneg hz36,Int.toNat_of_nonneg hz37,Int.toNat_of_nonneg hz38]
@[go_sem] theorem ivs_flat (l:List Iv):flatE (ivs l)=True:=eq_true fun x hx c hc=>by
 obtain⟨e,_,rfl⟩:=List.mem_map.1 hx
 simp only [Iv.enc,List.mem_cons,List.not_mem_nil,or_false]at hc
 rcases hc with rfl|rfl|rfl|rfl<;>rfl
@[go_sem] theorem Iv.eta {e:Iv}:(⟨e.hash,e.n,e.till,e.state⟩:Iv)=e:=rfl
@[go_sem] theorem Iv.eqD {a b:Iv}:eqD Tryz.prog 51 [D.c (.int .u64 (a.hash:Int)),D.c (.int .u64 (a.n:Int)),D.c (.int .u64 (a.till:Int)),D.c (.int .i64 a.state)] [D.c (.int .u64 (b.hash:Int)),D.c (.int .u64 (b.n:Int)),D.c (.int .u64 (b.till:Int)),D.c (.int .i64 b.state)]=some (decide (a=b)):=by
 cases a;cases b
 simp only [Dm.eqD,eqOf_51,eqCells,eqC,List.getElem?_cons_zero,List.getElem?_cons_succ,if_true,Option.some.injEq,Iv.mk.injEq]
 rw [Bool.eq_iff_iff]
 simp [Int.ofNat_inj]
def okIv1 (x:Iv):Prop:=(x.n≠0∧x.n≤MM)∧1≤x.state∧x.state≤3
instance (x:Iv):Decidable (okIv1 x):=by unfold okIv1;infer_instance
def okIv (l:List Iv):Prop:=l.length≤256∧(∀x∈l,okIv1 x)∧Srt.Chn Iv.hash ltN l
instance (l:List Iv):Decidable (Srt.Chn Iv.hash ltN l):=by unfold Srt.Chn;infer_instance
instance (l:List Iv):Decidable (okIv l):=by unfold okIv;infer_instance
def chkI (l:List Iv):Int:=if okIv l then 0 else 1
attribute [go_sem] Tryz.f168
@[go_sem] def c_iorder:Ct Tryz.prog:=⟨168,arg kIv fun x=>arg kU64 fun id=>pu (.int .i64 (cmpS x.hash id)),arg_ok fun x=>arg_ok fun id=>ret_ok fun _=>by
 exact run [c_cmp] Tryz.f168 lv168 fun hT=>vc0⟩
attribute [go_sem] Tryz.f139
@[go_sem] def c_ibill:Ct Tryz.prog:=⟨139,arg kU64 fun n=>pu (.bool (decide (n≠0∧n≤MM))),arg_ok fun n=>ret_ok fun _=>by
 refine run [c_moncheck] Tryz.f139 lv139 fun hT=>vc ?_
 have hm:monS [n]=0↔n≤MM:=mon1_0
 refine⟨fun h=> ?_,fun h=> ?_⟩
 ·rw [decide_eq_decide,hm];exact⟨fun h2=>⟨by omega,h2⟩,fun h2=>h2.2⟩
 ·exact(decide_eq_false fun h2=>h2.1 (by omega)).symm⟩
attribute [go_sem] Tryz.f87
@[go_sem] def c_icheck:Ct Tryz.prog:=⟨87,arg kIvs fun l=>pu (.int .i64 (chkI l)),arg_ok fun l=>ret_ok fun _=>by
 refine run [c_ibill,c_iorder] Tryz.f87 lv87 fun hT=>vc ?_
 have hbad:¬okIv l→1=chkI l:=fun h=>by rw [chkI,if_neg h]
 refine fun _=>⟨fun h=>hbad fun ho=> ?_,fun h _=> ?_⟩
 ·have:=ho.1;omega
 refine SWp.loop (ι:={i:Nat // i≤l.length∧(∀j,j<i→okIv1 (l.getD j default)∧(0<j→(l.getD (j - 1) default).hash<(l.getD j default).hash))}) (fun i=>⟨[(0, .sl (ivs l)),(8, .sl (ivs l)),(9, .int .i64 l.length),(10, .int .i64 i.1)],[],0⟩) (fun i=>l.length - i.1) ⟨0,by simp⟩ ?_ ?_
 ·simp [go_sem]
 ·rintro⟨i,hi,hall⟩
  refine aw hT lv87 (vc ?_)
  refine⟨fun h1=>⟨by omega, ?_⟩,fun h1=> ?_⟩
  ·refine dr us87_6 hT (vc ?_)
   have hi':i<l.length:=by omega
   have hnext:(0<i→(l.getD (i - 1) default).hash<(l.getD i default).hash)→
    (¬(l.getD i default).n=0∧(l.getD i default).n≤MM→(¬(l.getD i default).state<1→(3<(l.getD i default).state→1=chkI l)∧(¬3<(l.getD i default).state→
     ∃i_1:{i:Nat // i≤l.length∧(∀j,j<i→okIv1 (l.getD j default)∧(0<j→(l.getD (j - 1) default).hash<(l.getD j default).hash))},l.length - i_1.val<l.length - i∧IntKind.i64.wrap ((i:Int)+1)=i_1.val))∧((l.getD i default).state<1→1=chkI l))∧
    (¬(¬(l.getD i default).n=0∧(l.getD i default).n≤MM)→1=chkI l):=fun ho=>by
    have hm:okIv l→okIv1 (l.getD i default):=fun h=>h.2.1 _ (mem_getD.2 ⟨i,hi',rfl⟩)
    refine⟨fun h2=>⟨fun h3=>⟨fun h4=>hbad fun h=> ?_,fun h4=>⟨⟨i+1,hi',fun j hj=> ?_⟩,by dsimp only;omega,i64_in _ (by omega)⟩⟩,fun h3=>hbad fun h=> ?_⟩,fun h2=>hbad fun h=>h2 (hm h).1⟩
    ·have:=(hm h).2.2;omega
    ·by_cases hji:j=i
     ·subst hji;exact⟨⟨h2,by omega,by omega⟩,ho⟩
     ·exact hall j (by omega)
    ·have:=(hm h).2.1;omega
   refine⟨fun h2=> ?_,fun h2=>hnext fun h=>absurd h (by omega)⟩
   rw [i64_in _ (by omega),show((i:Int) - 1).toNat=i - 1 by omega]
   have hc:∀a b:Nat,0≤cmpS a b↔¬a<b:=fun a b=>by
    have:=cmpS_neg (x:=a) (y:=b);omega
   rw [hc]
   exact⟨by omega,fun h3=>hnext fun _=>by omega,fun h3=>hbad fun h=>h3 (h.2.2 i hi' (by omega))⟩
  ·have hi':i=l.length:=by omega
   subst hi'
   rw [chkI,if_pos]
   exact⟨by omega,fun x hx=>by obtain⟨j,hj,rfl⟩:=mem_getD.1 hx;exact(hall j hj).1,fun j hj h0=>(hall j hj).2 h0⟩⟩
open Go Go.Proofs Go.IntWalk
structure Ev where
 seq:Nat
 kind:Int
 a:Nat
 n:Nat
deriving DecidableEq,Inhabited
@[go_sem] def Ev.enc (e:Ev):List C:=[.int .u64 (e.seq:Int), .int .i64 e.kind, .int .u64 (e.a:Int), .int .u64 (e.n:Int)]
@[go_sem] def Ev.dec:List C→Ev
 |[.int .u64 z52, .int .i64 z53, .int .u64 z54, .int .u64 z55]=>(⟨z52.toNat,z53,z54.toNat,z55.toNat⟩:Ev)
 |_=>default
def evs (l:List Ev):List (List C):=l.map Ev.enc
def devs (l:List (List C)):List Ev:=l.map Ev.dec
abbrev kEvs:=kSl evs devs
@[simp,go_sem] theorem evs_length (l:List Ev):(evs l).length=l.length:=by simp [evs]
@[go_sem] theorem evs_get (l:List Ev) (i:Nat):(evs l).getD i [.int .u64 0, .int .i64 0, .int .u64 0, .int .u64 0]=(l.getD i default).enc:=by
 simp only [evs,List.getD_eq_getElem?_getD,List.getElem?_map]
 cases l[i]? <;>rfl
@[go_sem] theorem evs_wide (l:List Ev):Wide 4 (evs l)=True:=by
 simp [Wide,evs,Ev.enc]
theorem Ev.dec_enc (e:Ev):Ev.dec e.enc=e:=by
 simp [Ev.enc,Ev.dec]
@[go_sem] theorem devs_evs (l:List Ev):devs (evs l)=l:=by
 simp only [devs,evs,List.map_map]
 exact List.map_id'' (fun e=>Ev.dec_enc e) l
@[go_sem] theorem evs_app (a b:List Ev):evs a++evs b=evs (a++b):=by simp [evs]
@[go_sem] theorem evs_drop (l:List Ev) (k:Nat):(evs l).drop k=evs (l.drop k):=by simp [evs]
@[go_sem] theorem evs_take (l:List Ev) (k:Nat):(evs l).take k=evs (l.take k):=by simp [evs]
@[go_sem] theorem evs_one (z56:Int) (z57:Int) (z58:Int) (z59:Int) (hz56:0≤z56) (hz58:0≤z58) (hz59:0≤z59):[[C.int .u64 z56,C.int .i64 z57,C.int .u64 z58,C.int .u64 z59]]=evs [⟨z56.toNat,z57,z58.toNat,z59.toNat⟩]:=by simp [evs,Ev.enc,Int.toNat_of_nonneg hz56,Int.toNat_of_nonneg hz58,Int.toNat_of_nonneg hz59]
@[go_sem] theorem evs_set (l:List Ev) (i:Nat) (z56:Int) (z57:Int) (z58:Int) (z59:Int) (hz56:0≤z56) (hz58:0≤z58) (hz59:0≤z59):(evs l).set i [C.int .u64 z56,C.int .i64 z57,C.int .u64 z58,C.int .u64 z59]=evs (l.set i ⟨z56.toNat,z57,z58.toNat,z59.toNat⟩):=by simp [evs,List.map_set,Ev.enc,Int.toNat_of_nonneg hz56,Int.toNat_of_nonneg hz58,Int.toNat_of_nonneg hz59]
@[go_sem] theorem evs_cons (l:List Ev) (z56:Int) (z57:Int) (z58:Int) (z59:Int) (hz56:0≤z56) (hz58:0≤z58) (hz59:0≤z59):[C.int .u64 z56,C.int .i64 z57,C.int .u64 z58,C.int .u64 z59]::evs l=evs (⟨z56.toNat,z57,z58.toNat,z59.toNat⟩::l):=by simp [evs,Ev.enc,Int.toNat_of_nonneg hz56,Int.toNat_of_nonneg hz58,Int.toNat_of_nonneg hz59]
@[go_sem] theorem evs_flat (l:List Ev):flatE (evs l)=True:=eq_true fun x hx c hc=>by
 obtain⟨e,_,rfl⟩:=List.mem_map.1 hx
 simp only [Ev.enc,List.mem_cons,List.not_mem_nil,or_false]at hc
 rcases hc with rfl|rfl|rfl|rfl<;>rfl
@[go_sem] theorem Ev.eta {e:Ev}:(⟨e.seq,e.kind,e.a,e.n⟩:Ev)=e:=rfl
@[go_sem] theorem Ev.eqD {a b:Ev}:eqD Tryz.prog 62 [D.c (.int .u64 (a.seq:Int)),D.c (.int .i64 a.kind),D.c (.int .u64 (a.a:Int)),D.c (.int .u64 (a.n:Int))] [D.c (.int .u64 (b.seq:Int)),D.c (.int .i64 b.kind),D.c (.int .u64 (b.a:Int)),D.c (.int .u64 (b.n:Int))]=some (decide (a=b)):=by
 cases a;cases b
 simp only [Dm.eqD,eqOf_62,eqCells,eqC,List.getElem?_cons_zero,List.getElem?_cons_succ,if_true,Option.some.injEq,Ev.mk.injEq]
 rw [Bool.eq_iff_iff]
 simp [Int.ofNat_inj]
structure Fd where
 next:Nat
 l:List Ev
deriving DecidableEq,Inhabited
@[go_sem] def Fd.enc (e:Fd):List C:=[.int .u64 (e.next:Int), .sl (evs e.l)]
@[go_sem] def Fd.dec:List C→Fd
 |[.int .u64 z61, .sl z62]=>(⟨z61.toNat,(devs z62)⟩:Fd)
 |_=>default
def fds (l:List Fd):List (List C):=l.map Fd.enc
def dfds (l:List (List C)):List Fd:=l.map Fd.dec
abbrev kFd:=kAg Fd.enc Fd.dec
@[simp,go_sem] theorem fds_length (l:List Fd):(fds l).length=l.length:=by simp [fds]
@[go_sem] theorem fds_get (l:List Fd) (i:Nat):(fds l).getD i [.int .u64 0, .sl []]=(l.getD i default).enc:=by
 simp only [fds,List.getD_eq_getElem?_getD,List.getElem?_map]
 cases l[i]? <;>rfl
@[go_sem] theorem fds_wide (l:List Fd):Wide 2 (fds l)=True:=by
 simp [Wide,fds,Fd.enc]
theorem Fd.dec_enc (e:Fd):Fd.dec e.enc=e:=by
 simp [Fd.enc,Fd.dec,devs_evs]
@[go_sem] theorem dfds_fds (l:List Fd):dfds (fds l)=l:=by
 simp only [dfds,fds,List.map_map]
 exact List.map_id'' (fun e=>Fd.dec_enc e) l
@[go_sem] theorem fds_app (a b:List Fd):fds a++fds b=fds (a++b):=by simp [fds]
@[go_sem] theorem fds_drop (l:List Fd) (k:Nat):(fds l).drop k=fds (l.drop k):=by simp [fds]
@[go_sem] theorem fds_take (l:List Fd) (k:Nat):(fds l).take k=fds (l.take k):=by simp [fds]
@[go_sem] theorem fds_one (z63:Int) (z64:List Ev) (hz63:0≤z63):[[C.int .u64 z63,C.sl (evs z64)]]=fds [⟨z63.toNat,z64⟩]:=by simp [fds,Fd.enc,Int.toNat_of_nonneg hz63]
@[go_sem] theorem fds_set (l:List Fd) (i:Nat) (z63:Int) (z64:List Ev) (hz63:0≤z63):(fds l).set i [C.int .u64 z63,C.sl (evs z64)]=fds (l.set i ⟨z63.toNat,z64⟩):=by simp [fds,List.map_set,Fd.enc,Int.toNat_of_nonneg hz63]
@[go_sem] theorem fds_cons (l:List Fd) (z63:Int) (z64:List Ev) (hz63:0≤z63):[C.int .u64 z63,C.sl (evs z64)]::fds l=fds (⟨z63.toNat,z64⟩::l):=by simp [fds,Fd.enc,Int.toNat_of_nonneg hz63]
@[go_sem] theorem Fd.eta {e:Fd}:(⟨e.next,e.l⟩:Fd)=e:=rfl
def kindS (k:Int):Bool:=decide (0≤k∧k<16)
attribute [go_sem] Tryz.f170
@[go_sem] def c_fkind:Ct Tryz.prog:=⟨170,arg kI64 fun k=>pu (.bool (kindS k)),arg_ok fun k=>ret_ok fun _=>by
 refine run [] Tryz.f170 lv170 fun hT=>vc ?_
 have e:kindS k=decide (0≤k∧k<16):=rfl
 rw [e]
 exact⟨fun h=>by rw [decide_eq_decide];exact⟨fun h2=>⟨h,h2⟩,fun h2=>h2.2⟩,fun h=>(decide_eq_false fun h2=>h h2.1).symm⟩⟩
attribute [go_sem] Tryz.f101
@[go_sem] def c_fnew:Ct Tryz.prog:=⟨101,pu (.agg [.int .u64 1, .sl (evs [])]),ret_ok fun _=>by
 refine run [] Tryz.f101 lv101 fun hT=>vc ?_
 rfl⟩
theorem rev_take {n k:Nat} (h:k<n):(List.finRange n).reverse.take k++[⟨n - 1 - k,by omega⟩]=(List.finRange n).reverse.take (k+1):=by
 have hl:k<(List.finRange n).reverse.length:=by simpa using h
 rw [List.take_add_one,List.getElem?_eq_getElem hl]
 simp
theorem back_iter (l:List Ev) (hl:l.length≤1000000):IterOk Tryz.prog 224 [.rp [.sl (evs l)]] (m:=l.length) (fun x=>[.int .i64 x.1, .agg ((l.getD x.1 default).enc.map .c)]) (List.finRange l.length).reverse:=by
 refine IterOk.of (n:=19) (fn:=Tryz.f224) (by kernel_rfl) rfl rfl rfl (Nat.le_of_ble_eq_true rfl) rfl ?_
 intro y I J Jx hY
 refine SY.seq (SY.region .nil hY rfl ?_)
 simp -implicitDefEqProofs only [cdA,go_sem,aopsY,yargs,St.nums,numsL,List.contains_cons,List.contains_nil,Nat.reduceBEq,Bool.or_self,simprocAttr, -Int.reduceEq,List.cons.injEq,cdB]
 refine fun _=>SY.block (SY.loop l.length (fun k=>⟨[(0, .fn (.yield y) [] []),(1, .rp [.sl (evs l)]),(3, .int .i64 ((l.length:Int) - 1 - k))],[],0⟩) (fun k=>((List.finRange l.length).reverse.take k,true)) 0 ?_ (Nat.zero_le _) ?_)
 ·intro a w h
  rw [i64_in _ (by omega)]at h
  have h:=h.sub (s':=⟨[(0, .fn (.yield y) [] []),(1, .rp [.sl (evs l)]),(3, .int .i64 ((l.length:Int) - 1 - (0:Nat)))],[],0⟩) ⟨rfl,rfl,by simp [go_sem]⟩
  simpa using h
 ·intro k hk
  refine SY.seq (SY.seq (SY.region .nil hY rfl ?_))
  simp -implicitDefEqProofs only [cdA,go_sem,aopsY,yargs,St.nums,numsL,List.contains_cons,List.contains_nil,Nat.reduceBEq,Bool.or_self,simprocAttr, -Int.reduceEq,List.cons.injEq,cdB]
  refine SY.cond rfl (fun hc=>SY.skip ?_) (fun hc=>SY.exit ?_)
  ·have hk':k<l.length:=by simp at hc;omega
   refine SY.seq (SY.block (SY.seq (SY.region .nil hY rfl ?_)))
   simp -implicitDefEqProofs only [cdA,go_sem,aopsY,yargs,St.nums,numsL,List.contains_cons,List.contains_nil,Nat.reduceBEq,Bool.or_self,simprocAttr, -Int.reduceEq,List.cons.injEq,cdB]
   refine⟨by omega,by simp;omega,⟨l.length - 1 - k,by omega⟩, ?_, ?_, ?_⟩
   ·have e1:((l.length:Int) - 1 - k).toNat=l.length - 1 - k:=by omega
    have e2:((l.length:Int) - 1 - k)=((l.length - 1 - k:Nat):Int):=by omega
    rw [e1,e2];exact⟨rfl,rfl⟩
   ·refine SY.cond (b:=false) rfl (fun h=>by cases h) (fun _=>SY.skip (SY.region .nil hY rfl ?_))
    simp -implicitDefEqProofs only [cdA,go_sem,aopsY,yargs,simprocAttr, -Int.reduceEq,List.cons.injEq,cdB]
    rw [i64_in _ (by omega)]
    exact⟨hk',by rw [rev_take hk'],by omega⟩
   ·refine SY.cond (b:=true) rfl (fun _=>SY.ret ?_) (fun h=>by cases h)
    refine⟨.inr rfl, .inr ⟨rfl, ?_⟩⟩
    rw [rev_take hk']
    exact List.take_prefix _ _
  ·have hk':k=l.length:=by simp at hc;omega
   have:List.take l.length (List.finRange l.length).reverse=(List.finRange l.length).reverse:=List.take_of_length_le (by simp)
   simp [hk',this]
attribute [go_sem] Tryz.f169
@[go_sem] def c_fback:Ct Tryz.prog:=⟨169,arg kEvs fun l=>pu (.fn (.func 224) [] [.rp [.sl (evs l)]]),arg_ok fun l=>ret_ok fun _=>by
 refine run [] Tryz.f169 lv169 fun hT=>vc ?_
 exact⟨_,rfl,rfl⟩⟩
def okEv (n:Int):List Ev→Bool
 |[]=>true
 |e::r=>decide ((e.seq:Int)=n - (r.length+1))&&kindS e.kind&&okEv n r
def okFd (f:Fd):Prop:=1≤f.next∧f.next≤MM∧f.l.length=min (f.next - 1) 64∧okEv f.next f.l=true
instance (f:Fd):Decidable (okFd f):=by unfold okFd;infer_instance
def chkF (f:Fd):Int:=if okFd f then 0 else 1
theorem okEv_get (n:Int):∀(l:List Ev),okEv n l=true↔∀i:Nat,i<l.length→((l.getD i default).seq:Int)=n - (l.length - i:Int)∧kindS (l.getD i default).kind=true
 |[]=>by simp [okEv]
 |e::r=>by
  rw [okEv,Bool.and_eq_true,Bool.and_eq_true,okEv_get n r,decide_eq_true_eq]
  constructor
  ·rintro⟨⟨h1,h2⟩,h3⟩ i hi
   cases i with
   |zero=>simp [h1,h2]
   |succ i=>
    have:=h3 i (by simpa using hi)
    simp only [List.getD_cons_succ,List.length_cons]
    refine⟨?_,this.2⟩
    rw [this.1]
    omega
  ·intro h
   refine⟨?_,fun i hi=> ?_⟩
   ·have:=h 0 (by simp)
    simp at this
    exact⟨by rw [this.1],this.2⟩
   ·have:=h (i+1) (by simpa using hi)
    simp only [List.getD_cons_succ,List.length_cons]at this
    refine⟨?_,this.2⟩
    rw [this.1]
    omega
theorem check_bad {f:Fd} {pre:List (Fin f.l.length)} {x:Fin f.l.length} (h:pre++[x]<+:(List.finRange f.l.length).reverse)
 (hb:¬(((f.l.getD x.1 default).seq:Int)=f.next - (pre.length+1:Int)∧kindS (f.l.getD x.1 default).kind=true)):chkF f=1:=by
 unfold chkF
 rw [if_neg]
 rintro⟨_,_,_,h4⟩
 obtain⟨t,ht⟩:=h
 have h5:(List.finRange f.l.length).reverse[pre.length]? =some x:=by rw [←ht];simp
 have h6:=(okEv_get f.next f.l).1 h4 x.1 x.2
 have hlt:pre.length<f.l.length:=by
  have:=(List.getElem?_eq_some_iff.1 h5).1
  simpa using this
 have h7:x.1=f.l.length - 1 - pre.length:=by
  rw [List.getElem?_eq_getElem (by simpa using hlt)]at h5
  simp at h5
  rw [←h5]
 refine hb ⟨?_,h6.2⟩
 rw [h6.1,h7]
 omega
attribute [go_sem] setps asg rfp
@[go_sem] def c_fcheck:Ct Tryz.prog:=⟨88,arg kFd fun f=>ret (f.next≤18446744073709551615) (.int .i64 (chkF f)) [],arg_ok fun f=>ret_ok fun h=>by
 have hT:=tb_ok (P:=Tryz.prog) [c_fkind,c_fback]
 refine .of (acall_introM (n:=44) (fn:=Tryz.f88) (by kernel_rfl) rfl rfl rfl (Nat.le_of_ble_eq_true rfl) (rs:=[.cell 2 40]) rfl ?_)
 refine SWm.seq (SWm.awp hT.toS lv88 rfl ?_)
 refine vc ?_
 refine SWm.seq (SWm.awp hT.toS lv88 rfl ?_)
 refine vc ?_
 have hbad:¬okFd f→1=chkF f:=fun h=>by rw [chkF,if_neg h]
 refine⟨fun h1=>⟨fun h2 h3=>⟨fun h4=> ?_,fun h4=>hbad fun ho=>h4 ?_⟩,fun h2=>hbad fun ho=> ?_⟩,fun h1=>hbad fun ho=> ?_⟩
 rotate_left 1
 ·have:=ho.2.2.1
  rw [u64_in f.l.length (by omega),u64_in ((f.next:Int) - 1) (by omega)];omega
 ·have:=ho.2.1;unfold MM at this;omega
 ·have:=ho.1;omega
 ·refine SWm.seq (SWm.awp hT.toS lv88 rfl ?_)
  refine vc ?_
  refine SWm.seq (SWm.seq (SWm.awp hT.toS lv88 rfl ?_))
  refine vc ?_
  have hle:(f.l.length:Int)≤64∧(f.l.length:Int)≤f.next - 1:=by
   rw [u64_in f.l.length (by omega),u64_in ((f.next:Int) - 1) (by omega)]at h4
   omega
  have hlen:f.l.length≤1000000:=by omega
  refine SWm.block (SWm.rangeFunc hT.toS lv88 (caps:=[.rp [.sl (evs f.l)]]) rfl (by simp [D.pure1]) (back_iter f.l hlen)
   (fun pre=>[(2, .box [.int .u64 ((f.next:Int) - pre.length)]),(1, .box [.int .i64 0]),(0, .box [.int .u64 f.next, .sl (evs f.l)])])
   (fun pre=>∀(j:Nat) (x:Fin f.l.length),pre[j]? =some x→((f.l.getD x.1 default).seq:Int)=f.next - (j+1)∧kindS (f.l.getD x.1 default).kind=true)
   (fun x=>rfl) (by decide) (Nat.zero_le _) rfl rfl rfl rfl ?_ ?_ ?_)
  ·simp [go_sem]
  ·intro pre x hok hpre
   refine vc ?_
   rw [u64_in ((f.next:Int) - _ - 1) (by omega)]
   refine⟨fun h5=>⟨fun h6=>⟨fun j y hj=> ?_,by omega⟩,fun h6 hp=> ?_⟩,fun h5 hp=> ?_⟩
   ·rw [List.getElem?_append]at hj
    split at hj
    ·exact hok j y hj
    ·rename_i hge
     have:j=pre.length:=by
      have:=(List.getElem?_eq_some_iff.1 hj).1
      simp at this
      omega
     subst this
     simp at hj
     subst hj
     exact⟨by omega,h6⟩
   ·exact(check_bad hp fun h=>by rw [h6]at h;cases h.2).symm
   ·exact(check_bad hp fun h=>h5 (by omega)).symm
  ·intro hok
   refine SWm.awp hT.toS lv88 rfl ?_
   refine vc ?_
   rw [u64_in f.l.length (by omega),u64_in ((f.next:Int) - 1) (by omega)]at h4
   have hE:okEv f.next f.l=true:=by
    rw [okEv_get]
    intro i hi
    have h5:(List.finRange f.l.length).reverse[f.l.length - 1 - i]? =some ⟨i,hi⟩:=by
     rw [List.getElem?_eq_getElem (by simp;omega)]
     simp
     try omega
    obtain⟨h6,h7⟩:=hok _ _ h5
    refine⟨?_,h7⟩
    rw [h6]
    omega
   rw [chkF,if_pos (show okFd f from⟨by omega,by unfold MM;omega,by omega,hE⟩)]⟩
theorem chkF_0 {f:Fd}:chkF f=0↔okFd f:=by unfold chkF;split<;>rename_i h<;>simp only [h]<;>decide
attribute [go_sem] Tryz.f199
@[go_sem] def c_evclone:Ct Tryz.prog:=⟨199,arg kEvs fun l=>ret (l.length≤1000000) (.vec 0 l.length) ([(4,62,true,evs l)]),arg_ok fun l=>retF_ok fun hl=>by
 refine runF [] Tryz.f199 lv199 fun hT=>vc ?_
 refine fun b hb=>⟨fun h=> ?_,fun h=> ?_⟩
 ·exact⟨[none],by simp [go_sem,hb h],by cases l<;>simp_all [go_sem,evs]⟩
 ·exact⟨by omega,[some 0],by simp [go_sem]⟩⟩
def addF (f:Fd) (k:Int) (a n:Nat):Fd×Nat×Int:=if okFd f∧kindS k=true then(if f.next=MM then((⟨0,[]⟩:Fd),0,7)else((⟨f.next+1,(f.l++[(⟨f.next,k,a,n⟩:Ev)]).drop (f.l.length+1 - 64)⟩:Fd),f.next,0))else((⟨0,[]⟩:Fd),0,1)
attribute [go_sem] Tryz.f120
@[go_sem] def c_fadd:Ct Tryz.prog:=⟨120,arg kFd fun f=>arg kI64 fun k=>arg kU64 fun a=>arg kU64 fun n=>ret (f.next≤18446744073709551615) (.tup [.agg [.int .u64 (addF f k a n).1.next, .sl (evs (addF f k a n).1.l)], .int .u64 (addF f k a n).2.1, .int .i64 (addF f k a n).2.2]) [],arg_ok fun f=>arg_ok fun k=>arg_ok fun a=>arg_ok fun n=>ret_ok fun h=>by
 refine run [c_fcheck,c_fkind,c_evclone] Tryz.f120 lv120 fun hT=>vc ?_
 have hbad:¬(okFd f∧kindS k=true)→(0=((addF f k a n).1.next:Int)∧evs (addF f k a n).1.l=[])∧0=((addF f k a n).2.1:Int)∧1=(addF f k a n).2.2:=fun h=>by
  rw [addF,if_neg h];exact⟨⟨rfl,rfl⟩,rfl,rfl⟩
 refine⟨h,fun h0=>⟨fun hk=>⟨fun hm=> ?_,fun hm=> ?_⟩,fun hk=>hbad fun ho=>by rw [hk]at ho;cases ho.2⟩,fun h0=>hbad fun ho=>h0 (chkF_0.2 ho.1)⟩
 ·rw [addF,if_pos ⟨chkF_0.1 h0,hk⟩,if_pos (by unfold MM;omega)];exact⟨⟨rfl,rfl⟩,rfl,rfl⟩
 ·have ho:=chkF_0.1 h0
  have h1:=ho.2.2.1
  have h2:=ho.2.1
  unfold MM at h2
  rw [addF,if_pos ⟨ho,hk⟩,if_neg (by unfold MM;omega)]
  have e:(max (IntKind.i64.wrap ((f.l.length:Int)+1 - 64)) 0).toNat=f.l.length+1 - 64:=by rw [i64_in _ (by omega)];omega
  rw [e,u64_in _ (by omega)]
  refine⟨by omega,by omega,fun _=>⟨⟨by omega,by rw [i64_in _ (by omega)];omega⟩,⟨by dsimp only;omega,rfl,_,_,_,rfl⟩,rfl,rfl⟩⟩⟩
open Go Go.Proofs Go.IntWalk
structure Wt where
 id:Nat
 w:Option Nat
deriving DecidableEq
instance:Inhabited Wt:=⟨⟨default,some 0⟩⟩
@[go_sem] def Wt.enc (e:Wt):List C:=[.int .u64 (e.id:Int), .flt .f64 e.w]
@[go_sem] def Wt.dec:List C→Wt
 |[.int .u64 z22, .flt .f64 z23]=>(⟨z22.toNat,z23⟩:Wt)
 |_=>default
def wts (l:List Wt):List (List C):=l.map Wt.enc
def dwts (l:List (List C)):List Wt:=l.map Wt.dec
abbrev kWt:=kAg Wt.enc Wt.dec
abbrev kWts:=kSl wts dwts
@[simp,go_sem] theorem wts_length (l:List Wt):(wts l).length=l.length:=by simp [wts]
@[go_sem] theorem wts_get (l:List Wt) (i:Nat):(wts l).getD i [.int .u64 0, .flt .f64 (some 0)]=(l.getD i default).enc:=by
 simp only [wts,List.getD_eq_getElem?_getD,List.getElem?_map]
 cases l[i]? <;>rfl
@[go_sem] theorem wts_wide (l:List Wt):Wide 2 (wts l)=True:=by
 simp [Wide,wts,Wt.enc]
theorem Wt.dec_enc (e:Wt):Wt.dec e.enc=e:=by
 simp [Wt.enc,Wt.dec]
@[go_sem] theorem dwts_wts (l:List Wt):dwts (wts l)=l:=by
 simp only [dwts,wts,List.map_map]
 exact List.map_id'' (fun e=>Wt.dec_enc e) l
@[go_sem] theorem wts_app (a b:List Wt):wts a++wts b=wts (a++b):=by simp [wts]
@[go_sem] theorem wts_drop (l:List Wt) (k:Nat):(wts l).drop k=wts (l.drop k):=by simp [wts]
@[go_sem] theorem wts_take (l:List Wt) (k:Nat):(wts l).take k=wts (l.take k):=by simp [wts]
@[go_sem] theorem wts_one (z24:Int) (z25:Option Nat) (hz24:0≤z24):[[C.int .u64 z24,C.flt .f64 z25]]=wts [⟨z24.toNat,z25⟩]:=by simp [wts,Wt.enc,Int.toNat_of_nonneg hz24]
@[go_sem] theorem wts_set (l:List Wt) (i:Nat) (z24:Int) (z25:Option Nat) (hz24:0≤z24):(wts l).set i [C.int .u64 z24,C.flt .f64 z25]=wts (l.set i ⟨z24.toNat,z25⟩):=by simp [wts,List.map_set,Wt.enc,Int.toNat_of_nonneg hz24]
@[go_sem] theorem wts_cons (l:List Wt) (z24:Int) (z25:Option Nat) (hz24:0≤z24):[C.int .u64 z24,C.flt .f64 z25]::wts l=wts (⟨z24.toNat,z25⟩::l):=by simp [wts,Wt.enc,Int.toNat_of_nonneg hz24]
@[go_sem] theorem wts_flat (l:List Wt):flatE (wts l)=True:=eq_true fun x hx c hc=>by
 obtain⟨e,_,rfl⟩:=List.mem_map.1 hx
 simp only [Wt.enc,List.mem_cons,List.not_mem_nil,or_false]at hc
 rcases hc with rfl|rfl<;>rfl
@[go_sem] theorem Wt.eta {e:Wt}:(⟨e.id,e.w⟩:Wt)=e:=rfl
structure Mk where
 id:Nat
 s:Option Nat
deriving DecidableEq
instance:Inhabited Mk:=⟨⟨default,some 0⟩⟩
@[go_sem] def Mk.enc (e:Mk):List C:=[.int .u64 (e.id:Int), .flt .f64 e.s]
@[go_sem] def Mk.dec:List C→Mk
 |[.int .u64 z27, .flt .f64 z28]=>(⟨z27.toNat,z28⟩:Mk)
 |_=>default
def mks (l:List Mk):List (List C):=l.map Mk.enc
def dmks (l:List (List C)):List Mk:=l.map Mk.dec
@[simp,go_sem] theorem mks_length (l:List Mk):(mks l).length=l.length:=by simp [mks]
@[go_sem] theorem mks_get (l:List Mk) (i:Nat):(mks l).getD i [.int .u64 0, .flt .f64 (some 0)]=(l.getD i default).enc:=by
 simp only [mks,List.getD_eq_getElem?_getD,List.getElem?_map]
 cases l[i]? <;>rfl
@[go_sem] theorem mks_wide (l:List Mk):Wide 2 (mks l)=True:=by
 simp [Wide,mks,Mk.enc]
theorem Mk.dec_enc (e:Mk):Mk.dec e.enc=e:=by
 simp [Mk.enc,Mk.dec]
@[go_sem] theorem dmks_mks (l:List Mk):dmks (mks l)=l:=by
 simp only [dmks,mks,List.map_map]
 exact List.map_id'' (fun e=>Mk.dec_enc e) l
@[go_sem] theorem mks_app (a b:List Mk):mks a++mks b=mks (a++b):=by simp [mks]
@[go_sem] theorem mks_drop (l:List Mk) (k:Nat):(mks l).drop k=mks (l.drop k):=by simp [mks]
@[go_sem] theorem mks_take (l:List Mk) (k:Nat):(mks l).take k=mks (l.take k):=by simp [mks]
@[go_sem] theorem mks_one (z29:Int) (z30:Option Nat) (hz29:0≤z29):[[C.int .u64 z29,C.flt .f64 z30]]=mks [⟨z29.toNat,z30⟩]:=by simp [mks,Mk.enc,Int.toNat_of_nonneg hz29]
@[go_sem] theorem mks_set (l:List Mk) (i:Nat) (z29:Int) (z30:Option Nat) (hz29:0≤z29):(mks l).set i [C.int .u64 z29,C.flt .f64 z30]=mks (l.set i ⟨z29.toNat,z30⟩):=by simp [mks,List.map_set,Mk.enc,Int.toNat_of_nonneg hz29]
@[go_sem] theorem mks_cons (l:List Mk) (z29:Int) (z30:Option Nat) (hz29:0≤z29):[C.int .u64 z29,C.flt .f64 z30]::mks l=mks (⟨z29.toNat,z30⟩::l):=by simp [mks,Mk.enc,Int.toNat_of_nonneg hz29]
@[go_sem] theorem mks_flat (l:List Mk):flatE (mks l)=True:=eq_true fun x hx c hc=>by
 obtain⟨e,_,rfl⟩:=List.mem_map.1 hx
 simp only [Mk.enc,List.mem_cons,List.not_mem_nil,or_false]at hc
 rcases hc with rfl|rfl<;>rfl
@[go_sem] theorem Mk.eta {e:Mk}:(⟨e.id,e.s⟩:Mk)=e:=rfl
abbrev F1:Option Nat:=some 4607182418800017408
def fless (a b:Option Nat):Bool:=decide (fkey a<fkey b)
attribute [go_sem] Tryz.f226
@[go_sem] def c_isnanf:Ct Tryz.prog:=⟨226,arg kF64 fun x=>pu (.bool (fnan x)),arg_ok fun x=>ret_ok fun _=>by
 refine run [] Tryz.f226 lv226 fun hT=>vc ?_
 rfl⟩
attribute [go_sem] Tryz.f175
@[go_sem] def c_cmpf:Ct Tryz.prog:=⟨175,arg kF64 fun x=>arg kF64 fun y=>pu (.int .i64 (cmpS (fkey x) (fkey y))),arg_ok fun x=>arg_ok fun y=>ret_ok fun _=>by
 refine run [c_isnanf] Tryz.f175 lv175 fun hT=>vc ?_
 have h1:=fkey_ge x
 have h2:=fkey_ge y
 rw [fnan_key,fnan_key,ford_lt,ford_gt]
 generalize fkey x=a at*
 generalize fkey y=b at*
 generalize kNan=k at*
 unfold cmpS
 simp only [decide_eq_true_eq,decide_eq_false_iff_not,Bool.and_eq_true,Bool.and_eq_false_iff,ne_eq,Classical.not_not]
 refine⟨fun h3=>⟨fun h4=> ?_,fun h4=> ?_⟩,fun h3=>⟨fun h4=> ?_,fun h4=>⟨fun h5=> ?_,fun h5=>⟨fun h6=> ?_,fun h6=> ?_⟩⟩⟩⟩
 all_goals (repeat' split)<;>first|rfl|(exfalso;omega)⟩
attribute [go_sem] Tryz.f151
@[go_sem] def c_rfless:Ct Tryz.prog:=⟨151,arg kF64 fun a=>arg kF64 fun b=>pu (.bool (fless a b)),arg_ok fun a=>arg_ok fun b=>ret_ok fun _=>by
 refine run [] Tryz.f151 lv151 fun hT=>vc ?_
 have h1:=fkey_ge a
 have h2:=fkey_ge b
 have hf:=fnan_key a
 unfold fnan at hf
 rw [hf,ford_lt,ford_eqk,fless]
 generalize fkey a=x at*
 generalize fkey b=y at*
 generalize kNan=k at*
 by_cases h3:x=k
 ·by_cases h4:y=k
  ·have:¬x<y:=by omega
   simp [h3,h4]
  ·have:x<y:=by omega
   have:k<y:=by omega
   simp [h3,h4,this]
 ·simp [h3]⟩
def fsame (a b:Option Nat):Bool:=decide (fkey a=fkey b)
attribute [go_sem] Tryz.f76
@[go_sem] def c_rfsame:Ct Tryz.prog:=⟨76,arg kF64 fun a=>arg kF64 fun b=>pu (.bool (fsame a b)),arg_ok fun a=>arg_ok fun b=>ret_ok fun _=>by
 refine run [c_rfless] Tryz.f76 lv76 fun hT=>vc ?_
 unfold fless fsame
 generalize fkey a=x at*
 generalize fkey b=y at*
 by_cases h3:x<y
 ·have:¬x=y:=by omega
  simp [h3,this]
 ·by_cases h4:y<x
  ·have:¬x=y:=by omega
   simp [h3,h4,this]
  ·have:x=y:=by omega
   simp [this]⟩
def weighS (l:List Wt) (id:Nat):Option Nat:=match l.find? fun x=>decide (x.id=id)with
 |some x=>x.w
 |none=>F1
attribute [go_sem] Tryz.f183 Tryz.f227 Tryz.f228
@[go_sem] def c_weigh:Ct Tryz.prog:=⟨183,arg kWts fun l=>arg kU64 fun id=>pu (.c (.flt .f64 (weighS l id))),arg_ok fun l=>arg_ok fun id=>ret_ok fun _=>by
 refine run [] Tryz.f183 lv183 fun hT=>vc ?_
 refine cl hT Tryz.f227 lv227 (vc ?_)
 refine fun hl=>SWp.loop (ι:={i:Nat // i≤l.length∧∀j,j<i→(l.getD j default).id≠id}) (fun i=>⟨[(0, .sl (wts l)),(1, .fn (.func 228) [] [.ref 0 0]),(7, .int .i64 l.length),(8, .int .i64 i.1)],[(0, .box [.int .u64 id])],1⟩) (fun i=>l.length - i.1) ⟨0,by simp⟩ ?_ ?_
 ·simp [go_sem]
 ·rintro⟨i,hi,hall⟩
  refine aw hT lv227 (vc ?_)
  have hno:(∀j,j<l.length→(l.getD j default).id≠id)→weighS l id=F1:=fun h=>by
   have:l.find? (fun x=>decide (x.id=id))=none:=by
    rw [List.find?_eq_none]
    intro x hx
    obtain⟨j,hj,rfl⟩:=mem_getD.1 hx
    simpa using h j hj
   rw [weighS,this]
  have hyes:i<l.length→(l.getD i default).id=id→weighS l id=(l.getD i default).w:=fun h h'=>by
   have:l.find? (fun x=>decide (x.id=id))=some (l.getD i default):=by
    rw [List.find?_eq_some_iff_getElem]
    refine⟨by simpa using h',i,h,(getD_lt h).symm,fun j hj=> ?_⟩
    have:=hall j hj
    rw [getD_lt (by omega)]at this
    simpa using this
   rw [weighS,this]
  refine⟨fun h=>⟨by omega, ?_⟩,fun h=> ?_⟩
  ·skip
   refine cl hT Tryz.f228 lv228 (vc ?_)
   refine⟨fun h1=>⟨fun h2=>by omega,fun _=>⟨by omega, ?_⟩⟩,fun h1=>⟨⟨i+1,by omega,fun j hj=> ?_⟩,by dsimp only;omega,i64_in _ (by omega)⟩⟩
   ·rw [hyes (by omega) (by omega)]
   ·by_cases hji:j=i
    ·subst hji;omega
    ·exact hall j (by omega)
  ·rw [hno fun j hj=>hall j (by omega)]⟩
def oneS (c:Ch) (w n:Option Nat):Option Nat×Int:=if okCh c then(far .mul w (far .quo (far .sub (fofi (roomC c).1) n) (fofi (sumsC c).2.1)),0)else(some 0,1)
theorem roomC_0 {c:Ch}:(roomC c).2=0↔okCh c:=by
 unfold roomC
 by_cases h:okCh c
 ·rw [if_pos h]
  simp only [h,iff_true]
  split<;>rfl
 ·rw [if_neg h]
  simp [h]
attribute [go_sem] Tryz.f182
@[go_sem] def c_one:Ct Tryz.prog:=⟨182,arg kCh fun c=>arg kF64 fun w=>arg kF64 fun n=>pu (.tup [.c (.flt .f64 (oneS c w n).1), .int .i64 (oneS c w n).2]),arg_ok fun c=>arg_ok fun w=>arg_ok fun n=>ret_ok fun _=>by
 refine run [c_croom,c_call] Tryz.f182 lv182 fun hT=>vc ?_
 have hr:=roomC_0 (c:=c)
 rw [hr,sumsC_0,oneS]
 by_cases h:okCh c
 ·have e:(sumsC c).2.2=0:=sumsC_0.2 h
  simp [h]
 ·have e:(roomC c).2=1:=by rw [roomC,if_neg h]
  simp [h,e]⟩
attribute [go_sem] Tryz.f184
@[go_sem] def c_misnan:Ct Tryz.prog:=⟨184,arg kF64 fun x=>pu (.bool (fnan x)),arg_ok fun x=>ret_ok fun _=>by
 refine run [] Tryz.f184 lv184 fun hT=>vc ?_
 rfl⟩
attribute [go_sem] Tryz.f185
@[go_sem] def c_mnan:Ct Tryz.prog:=⟨185,pu (.c (.flt .f64 none)),ret_ok fun _=>by
 refine run [ovC' 229] Tryz.f185 lv185 fun hT=>vc ?_
 exact⟨_,rfl,rfl,rfl,rfl,by kernel_rfl⟩⟩
def mkO (a b:Mk):Int:=orS [cmpS (fkey b.s) (fkey a.s),cmpS a.id b.id]
attribute [go_sem] Tryz.f187
theorem mkcmp_ok (a:Mk) (b:Mk):PureFn Tryz.prog 187 [.agg [.c (.int .u64 (a.id:Int)), .c (.flt .f64 a.s)], .agg [.c (.int .u64 (b.id:Int)), .c (.flt .f64 b.s)]] (.int .i64 (mkO a b)):=by
 refine run [c_cmpf,c_cmp,c_cmpor] Tryz.f187 lv187 fun hT=>vc ?_
 refine dr us187_1 hT (vc ?_)
 rfl
end Dm
namespace Go.Proofs
open Go.Shelf Go.RowKit Go.Lib Go.Sort
def Tryz.sortMk_ren:Go.Shelf.Ren:=⟨fun|6=>186|15=>231|14=>230|28=>248|29=>249|20=>240|21=>241|22=>242|23=>243|24=>244|25=>245|26=>246|27=>247|46=>254|47=>255|48=>256|49=>257|50=>258|57=>260|n=>n,fun|22=>189|24=>196|25=>200|3=>3|39=>223|0=>0|53=>248|55=>26|4=>4|46=>242|45=>241|50=>163|5=>5|9=>9|66=>253|70=>257|76=>260|77=>261|n=>n,fun|n=>n⟩
theorem Tryz.sortMk:Go.Proofs.SlLaysF0.n6 Tryz.prog Tryz.sortMk_ren:={
 mixed:=by kernel_rfl
 f6:=⟨Tryz.f186.name,by decide,Tryz.func186.trans (congrArg some (by kernel_rfl))⟩
 f14:=⟨Tryz.f230.name,by decide,Tryz.func230.trans (congrArg some (by kernel_rfl))⟩
 f15:=Tryz.func231.trans (congrArg some (by kernel_rfl))
 f20:=⟨Tryz.f240.name,by decide,Tryz.func240.trans (congrArg some (by kernel_rfl))⟩
 f21:=⟨Tryz.f241.name,by decide,Tryz.func241.trans (congrArg some (by kernel_rfl))⟩
 f22:=⟨Tryz.f242.name,by decide,Tryz.func242.trans (congrArg some (by kernel_rfl))⟩
 f23:=⟨Tryz.f243.name,by decide,Tryz.func243.trans (congrArg some (by kernel_rfl))⟩
 f24:=⟨Tryz.f244.name,by decide,Tryz.func244.trans (congrArg some (by kernel_rfl))⟩
 f25:=⟨Tryz.f245.name,by decide,Tryz.func245.trans (congrArg some (by kernel_rfl))⟩
 f26:=⟨Tryz.f246.name,by decide,Tryz.func246.trans (congrArg some (by kernel_rfl))⟩
 f27:=⟨Tryz.f247.name,by decide,Tryz.func247.trans (congrArg some (by kernel_rfl))⟩
 f28:=Tryz.func248.trans (congrArg some (by kernel_rfl))
 f29:=Tryz.func249.trans (congrArg some (by kernel_rfl))
 f46:=⟨Tryz.f254.name,by decide,Tryz.func254.trans (congrArg some (by kernel_rfl))⟩
 f47:=Tryz.func255.trans (congrArg some (by kernel_rfl))
 f48:=Tryz.func256.trans (congrArg some (by kernel_rfl))
 f49:=⟨Tryz.f257.name,by decide,Tryz.func257.trans (congrArg some (by kernel_rfl))⟩
 f50:=⟨Tryz.f258.name,by decide,Tryz.func258.trans (congrArg some (by kernel_rfl))⟩
 f57:=⟨Tryz.f260.name,by decide,Tryz.func260.trans (congrArg some (by kernel_rfl))⟩
 t0:=Tryz.underlying0
 a0:=Tryz.isAgg0
 z0:=Tryz.sizeOf0
 v0:=Tryz.zeroValue0
 t3:=Tryz.underlying3
 a3:=Tryz.isAgg3
 z3:=Tryz.sizeOf3
 v3:=Tryz.zeroValue3
 t4:=Tryz.underlying4
 a4:=Tryz.isAgg4
 z4:=Tryz.sizeOf4
 v4:=Tryz.zeroValue4
 t5:=Tryz.underlying5
 a5:=Tryz.isAgg5
 z5:=Tryz.sizeOf5
 v5:=Tryz.zeroValue5
 t9:=Tryz.underlying9
 a9:=Tryz.isAgg9
 z9:=Tryz.sizeOf9
 v9:=Tryz.zeroValue9
 t22:=Tryz.underlying189
 a22:=Tryz.isAgg189
 z22:=Tryz.sizeOf189
 v22:=Tryz.zeroValue189
 t25:=Tryz.underlying200
 a25:=Tryz.isAgg200
 z25:=Tryz.sizeOf200
 v25:=Tryz.zeroValue200
 t39:=Tryz.underlying223
 a39:=Tryz.isAgg223
 z39:=Tryz.sizeOf223
 v39:=Tryz.zeroValue223
 t45:=Tryz.underlying241
 a45:=Tryz.isAgg241
 z45:=Tryz.sizeOf241
 v45:=Tryz.zeroValue241
 t46:=Tryz.underlying242
 a46:=Tryz.isAgg242
 z46:=Tryz.sizeOf242
 v46:=Tryz.zeroValue242
 t50:=Tryz.underlying163
 a50:=Tryz.isAgg163
 z50:=Tryz.sizeOf163
 v50:=Tryz.zeroValue163
 t53:=Tryz.underlying248
 a53:=Tryz.isAgg248
 z53:=Tryz.sizeOf248
 v53:=Tryz.zeroValue248
 t55:=Tryz.underlying26
 a55:=Tryz.isAgg26
 z55:=Tryz.sizeOf26
 v55:=Tryz.zeroValue26
 t66:=Tryz.underlying253
 a66:=Tryz.isAgg253
 z66:=Tryz.sizeOf253
 v66:=Tryz.zeroValue253
 t70:=Tryz.underlying257
 a70:=Tryz.isAgg257
 z70:=Tryz.sizeOf257
 v70:=Tryz.zeroValue257
 t76:=Tryz.underlying260
 a76:=Tryz.isAgg260
 z76:=Tryz.sizeOf260
 v76:=Tryz.zeroValue260
 t77:=Tryz.underlying261
 a77:=Tryz.isAgg261
 z77:=Tryz.sizeOf261
 v77:=Tryz.zeroValue261}
end Go.Proofs
namespace Dm
open Go Go.Proofs Go.IntWalk
abbrev ltM (a b:Int×Nat):Prop:=b.1<a.1∨(a.1=b.1∧a.2<b.2)
instance:DecidableRel ltM:=fun a b=>by unfold ltM;infer_instance
theorem totM:Srt.Tot ltM:=⟨fun a=>by unfold ltM;omega,fun h h'=>by unfold ltM at*;omega,fun a b=>by
 unfold ltM
 have:a=b↔a.1=b.1∧a.2=b.2:=Prod.ext_iff
 rw [this];omega⟩
def Mk.key (m:Mk):Int×Nat:=(fkey m.s,m.id)
theorem mkO_neg {a b:Mk}:mkO a b<0↔ltM a.key b.key:=by
 unfold mkO orS ltM Mk.key cmpS
 by_cases h1:fkey b.s<fkey a.s
 ·simp [h1]
 ·by_cases h2:fkey a.s<fkey b.s
  ·simp [h1,h2];omega
  ·by_cases h3:(a.id:Int)<b.id
   ·simp [h1,h2,h3];omega
   ·by_cases h4:(b.id:Int)<a.id
    ·simp [h1,h2,h3,h4];omega
    ·simp [h1,h2,h3,h4];omega
def ordM (l:List Mk):List Mk:=l.foldl (Srt.put Mk.key ltM) []
def elig (n:Nat) (c:Ch):Bool:=c.op&&decide (max n 1≤(roomC c).1)
def mkOf (w:List Wt) (n:Nat) (c:Ch):Mk:=⟨c.id,(oneS c (weighS w c.id) (fofi n)).1⟩
def mksOf (l:List Ch) (w:List Wt) (n:Nat):List Mk:=(l.filter (elig n)).map (mkOf w n)
def ordL (l:List Ch) (w:List Wt) (n:Nat):List Nat×Int:=if okLd l then((ordM (mksOf l w n)).map Mk.id,0)else([],1)
theorem mksOf_succ {l:List Ch} {w:List Wt} {n i:Nat} (h:i<l.length):mksOf (l.take (i+1)) w n=mksOf (l.take i) w n++(if elig n (l.getD i default)=true then [mkOf w n (l.getD i default)]else []):=by
 rw [take_succ h,mksOf,List.filter_append,List.map_append]
 congr 1
 generalize l.getD i default=x
 by_cases h:elig n x=true<;>simp [h]
theorem mksOf_len {l:List Ch} {w:List Wt} {n:Nat}:(mksOf l w n).length≤l.length:=by
 rw [mksOf,List.length_map];exact List.length_filter_le _ _
theorem flo_canon {n:Nat} (h:fnan (flo .f64 n)=true):flo .f64 n=none:=by
 rw [fnan_key,decide_eq_true_iff,flo_key,dkey_nan (read_dbl n)]at h
 exact flo_nan h
theorem far_canon {op:BinOp} {a b:Option Nat} (h:fnan (far op a b)=true):far op a b=none:=by
 unfold far at*
 cases a with
 |none=>rfl
 |some x=>cases b with
  |none=>rfl
  |some y=>
   simp only at*
   have key:∀o:Option Nat,fnan (o.bind (flo .f64))=true→o.bind (flo .f64)=none:=fun o ho=>by
    cases o with
    |none=>rfl
    |some z=>exact flo_canon ho
   split at h<;>exact key _ h
theorem ordM_put {l:List Mk}:∀{m:List Mk},Srt.Up Mk.key ltM m→Srt.Up Mk.key ltM (l.foldl (Srt.put Mk.key ltM) m):=by
 induction l with
 |nil=>exact fun h=>h
 |cons x l ih=>exact fun h=>ih (Srt.put_up totM h)
theorem ordM_up {l:List Mk}:Srt.Up Mk.key ltM (ordM l):=ordM_put .nil
theorem ordM_mem {l:List Mk} (hd:(l.map Mk.id).Nodup) {x:Mk}:x∈ordM l↔x∈l:=by
 have key:∀(l m:List Mk),Srt.Up Mk.key ltM m→((m++l).map Mk.id).Nodup→∀x,x∈l.foldl (Srt.put Mk.key ltM) m↔x∈m∨x∈l:=by
  intro l
  induction l with
  |nil=>intro m _ _ x;simp
  |cons y l ih=>
   intro m hu hn x
   rw [List.foldl_cons,ih _ (Srt.put_up totM hu) ?_]
   ·rw [Srt.mem_put totM hu]
    simp only [List.mem_cons]
    constructor
    ·rintro((h|h)|h)
     ·exact .inr (.inl h)
     ·exact .inl h.1
     ·exact .inr (.inr h)
    ·rintro(h|h|h)
     ·refine .inl (.inr ⟨h,fun he=> ?_⟩)
      have:x.id=y.id:=congrArg Prod.snd he
      rw [List.map_append,List.nodup_append]at hn
      exact hn.2.2 _ (List.mem_map.2 ⟨x,h,rfl⟩) _ (by simp) this
     ·exact .inl (.inl h)
     ·exact .inr h
   ·have hp:(Srt.put Mk.key ltM m y).Perm (m++[y]):=by
     have ht:¬Srt.thr Mk.key ltM m y.key=true:=fun h=>by
      obtain⟨z,hz,he⟩:=(Srt.thr_iff totM hu).1 h
      have:z.id=y.id:=congrArg Prod.snd he
      rw [List.map_append,List.nodup_append]at hn
      exact hn.2.2 _ (List.mem_map.2 ⟨z,hz,rfl⟩) _ (by simp) this
     rw [Srt.put,if_neg ht]
     exact Srt.ins_perm.trans (List.perm_append_comm (l₁:=[y]))
    have:=(hp.append_right l).map Mk.id
    rw [List.append_assoc]at this
    exact this.nodup_iff.2 hn
 have:=key l [] .nil (by simpa using hd) x
 simpa [ordM]using this
theorem ordM_eq {l m:List Mk} (hd:(l.map Mk.id).Nodup) (hu:Srt.Up Mk.key ltM m) (hm:∀x,x∈m↔x∈l):m=ordM l:=
 Srt.ext totM hu ordM_up fun x=>by rw [hm,ordM_mem hd]
theorem mksOf_ids {l:List Ch} {w:List Wt} {n:Nat} (h:okLd l):((mksOf l w n).map Mk.id).Nodup:=by
 have h1:=(Srt.chn_up (lt:=ltN) Srt.totNat).1 h.2.2.1
 unfold Srt.Up at h1
 rw [mksOf,List.map_map,List.Nodup,List.pairwise_map]
 exact(h1.sublist List.filter_sublist).imp fun hlt he=>by
  change _<_ at hlt
  change Ch.id _=Ch.id _ at he
  omega
theorem sorted_ord {l:List Mk} {els:List (List C)} (hd:(l.map Mk.id).Nodup) (hp:els.Perm (mks l)) (hs:els.Pairwise fun x y=>¬mkO (Mk.dec y) (Mk.dec x)<0):els=mks (ordM l):=by
 have h1:mks (els.map Mk.dec)=els:=by
  simp only [mks,List.map_map]
  refine(List.map_congr_left fun x hx=> ?_).trans (List.map_id _)
  obtain⟨a,_,rfl⟩:=List.mem_map.1 (hp.mem_iff.1 hx)
  show(Mk.dec a.enc).enc=a.enc
  rw [Mk.dec_enc]
 have h2:(els.map Mk.dec).Perm l:=by
  have:=hp.map Mk.dec
  rwa [show(mks l).map Mk.dec=l from dmks_mks l]at this
 have h3:els.map Mk.dec=ordM l:=by
  refine ordM_eq hd ?_ fun x=>h2.mem_iff
  have hd2:((els.map Mk.dec).map Mk.id).Nodup:=((h2.map Mk.id).nodup_iff).2 hd
  unfold Srt.Up
  rw [List.Nodup,List.pairwise_map]at hd2
  have hs2:(els.map Mk.dec).Pairwise fun x y=>¬mkO y x<0:=by rw [List.pairwise_map];exact hs
  refine hd2.imp₂ ?_ hs2
  intro a b hne hno
  rw [mkO_neg]at hno
  unfold ltM Mk.key at*
  simp only at*
  omega
 rw [←h3,h1]
attribute [go_sem] Tryz.f106
@[go_sem] def c_order:Ct Tryz.prog:=⟨106,arg kChs fun l=>arg kWts fun w=>arg kU64 fun n=>pu (.tup [.sl (u64s (ordL l w n).1), .int .i64 (ordL l w n).2]),arg_ok fun l=>arg_ok fun w=>arg_ok fun n=>ret_ok fun _=>by
 refine run [c_lcheck,c_croom,c_one,c_weigh,c_misnan,c_mnan] Tryz.f106 lv106 fun hT=>vc ?_
 have hcz:chkL l=0↔okLd l:=by unfold chkL;split<;>simp_all
 rw [hcz]
 refine⟨fun hok hl=> ?_,fun hno=>by rw [ordL,chkL,if_neg hno,if_neg hno];exact⟨rfl,rfl⟩⟩
 have hl32:=hok.1
 refine SWp.nilvec 9 2 196 rfl (Nat.zero_le _) ?_
 refine SWp.loop (ι:={i:Nat // i≤l.length}) (fun i=>⟨[(1, .sl (wts w)),(2, .int .u64 n),(9, .vec 0 (mksOf (l.take i.1) w n).length),(23, .sl (chs l)),(24, .int .i64 l.length),(25, .int .i64 i.1)],[(0, .vec true 2 196 (mks (mksOf (l.take i.1) w n)))],1⟩) (fun i=>l.length - i.1) ⟨0,by omega⟩ ?_ ?_
 ·simp [go_sem,mksOf,mks]
 ·rintro⟨i,hi⟩
  refine aw hT lv106 (vc ?_)
  refine⟨fun h=>⟨by omega, ?_⟩,fun h=> ?_⟩
  ·have hi':i<l.length:=by omega
   have hc0:okCh (l.getD i default):=hok.2.1 _ (mem_getD.2 ⟨i,hi',rfl⟩)
   have hst:=mksOf_succ (w:=w) (n:=n) hi'
   have hr0:=roomC_0.2 hc0
   have hone:(oneS (l.getD i default) (weighS w (l.getD i default).id) (fofi n)).2=0:=by rw [oneS,if_pos hc0]
   have hlen:=mksOf_len (l:=l.take i) (w:=w) (n:=n)
   rw [List.length_take]at hlen
   generalize hc:l.getD i default=c at*
   have hskip:elig n c≠true→mksOf (l.take (i+1)) w n=mksOf (l.take i) w n:=fun he=>by rw [hst,if_neg he,List.append_nil]
   refine⟨fun _=>⟨fun hop=>⟨fun hr=> ?_,fun hr=> ?_⟩,fun hop=> ?_⟩,fun hr=>absurd hr0 hr⟩
   ·exact⟨⟨i+1,hi'⟩,by dsimp only;omega,by dsimp only;rw [hskip (by rw [elig];simp;intro _;omega)];exact⟨⟨rfl,i64_in _ (by omega)⟩,rfl⟩⟩
   ·refine dr us106_10 hT (vc ?_)
    have hwm:∀a b,wts [⟨a,b⟩]=mks [⟨a,b⟩]:=fun _ _=>rfl
    have hel:elig n c=true:=by
     simp at hop
     rw [elig,hop];simp;omega
    rw [if_pos hel]at hst
    have hfin:mks (mksOf (l.take i) w n)++wts [⟨c.id,(oneS c (weighS w c.id) (fofi n)).1⟩]=mks (mksOf (l.take (i+1)) w n):=by rw [hwm,mks_app,hst];rfl
    have hnext:∀s,s=(oneS c (weighS w c.id) (fofi n)).1→((mksOf (l.take i) w n).length+1)*16≤140737488355328∧∃i_1:{i:Nat // i≤l.length},l.length - i_1.val<l.length - i∧(D.vec 0 ((mksOf (l.take i) w n).length+1)=D.vec 0 (mksOf (l.take i_1.val) w n).length∧IntKind.i64.wrap ((i:Int)+1)=i_1.val)∧Ob.vec true 2 196 (mks (mksOf (l.take i) w n)++wts [⟨c.id,s⟩])=Ob.vec true 2 196 (mks (mksOf (l.take i_1.val) w n)):=fun s hs=>by
     refine⟨by omega,⟨i+1,hi'⟩,by dsimp only;omega,⟨by dsimp only;rw [hst];simp,i64_in _ (by omega)⟩, ?_⟩
     rw [hs,hfin]
    refine⟨fun _=>⟨fun hnan=>hnext _ ?_,fun _=>hnext _ rfl⟩,fun h=>absurd hone h⟩
    have e1:(oneS c (weighS w c.id) (fofi n)).1=far .mul (weighS w c.id) (far .quo (far .sub (fofi (roomC c).1) (fofi n)) (fofi (sumsC c).2.1)):=by rw [oneS,if_pos hc0]
    rw [e1]at hnan⊢
    exact(far_canon hnan).symm
   ·exact⟨⟨i+1,hi'⟩,by dsimp only;omega,by dsimp only;rw [hskip (by rw [elig];simp at hop;simp [hop])];exact⟨⟨rfl,i64_in _ (by omega)⟩,rfl⟩⟩
  ·have hi':i=l.length:=by omega
   subst hi'
   rw [List.take_length]
   have hlen:=mksOf_len (l:=l) (w:=w) (n:=n)
   have hdec:∀a:Mk,Mk.dec a.enc=a:=Mk.dec_enc
   have hin:∀x∈mks (mksOf l w n),∃a:Mk,x=a.enc:=fun x hx=>by
    obtain⟨a,_,rfl⟩:=List.mem_map.1 hx
    exact⟨a,rfl⟩
   refine ACall.sort Tryz.sortMk (k:=2) (by decide) Tryz.isAgg196 Tryz.sizeOf196 rfl (cf:=fun x y=>mkO (Mk.dec x) (Mk.dec y)) rfl (by simp) (by omega) ?_ ?_ ?_ ?_ ?_
   ·intro x hx y hy
    obtain⟨a,rfl⟩:=hin x hx
    obtain⟨b,rfl⟩:=hin y hy
    rw [hdec,hdec]
    exact mkcmp_ok a b
   ·intro x hx
    rw [mkO_neg];exact totM.irr _
   ·intro x _ y _ z _
    rw [mkO_neg,mkO_neg,mkO_neg];exact totM.tr
   ·intro x _ y _ z _
    rw [mkO_neg,mkO_neg,mkO_neg]
    unfold ltM;omega
   ·intro els' hp hs
    have he:=sorted_ord (mksOf_ids hok) hp hs
    subst he
    have hol:(ordM (mksOf l w n)).length=(mksOf l w n).length:=by
     have:=hp.length_eq
     rwa [mks_length,mks_length]at this
    clear hp hs
    generalize hM:ordM (mksOf l w n)=M at*
    rw [←hol]
    have hml:M.length≤32:=by omega
    refine vc ?_
    refine fun _=>⟨⟨by omega,by omega⟩,fun _=> ?_⟩
    have hz:List.replicate M.length [C.int .u64 0]=u64s (List.replicate M.length 0):=by simp [u64s]
    rw [hz]
    refine SWp.loop (ι:={x:Nat×List Nat // x.1≤M.length∧x.2.length=M.length∧∀j,j<x.1→x.2.getD j default=(M.getD j default).id}) (fun x=>⟨[(15, .vec 1 M.length),(77, .vec 0 M.length),(78, .int .i64 M.length),(79, .int .i64 x.1.1)],
     [(1, .vec true 1 26 (u64s x.1.2)),(0, .vec true 2 196 (mks M))],2⟩) (fun x=>M.length - x.1.1) ⟨(0,List.replicate M.length 0),by simp⟩ ?_ ?_
    ·simp [go_sem]
    ·rintro⟨⟨j,X⟩,hj,hX,hall⟩
     dsimp only at hj hX hall
     refine aw hT lv106 (vc ?_)
     refine⟨fun h2=>⟨by omega,by omega,by omega,⟨hX.symm,by omega⟩,⟨(j+1,X.set j (M.getD j default).id),by dsimp only;omega,by dsimp only;rw [List.length_set];exact hX,fun q hq=> ?_⟩,by dsimp only;omega,i64_in _ (by omega),rfl⟩,fun h2=> ?_⟩
     ·dsimp only at hq⊢
      rw [Srt.set_getD (by omega)]
      by_cases hqj:q=j
      ·rw [if_pos hqj,hqj]
      ·rw [if_neg hqj];exact hall q (by omega)
     ·have hXm:X=M.map Mk.id:=by
       apply List.ext_getElem (by simpa using hX)
       intro q h3 h4
       have:=hall q (by omega)
       rw [getD_lt h3,getD_lt (by omega)]at this
       simpa using this
      rw [ordL,if_pos hok,hM,hXm]
      exact⟨⟨by simp,_,_,_,rfl⟩,rfl⟩⟩
def firstL (l:List Ch) (w:List Wt) (n:Nat):Nat×Int:=if(ordL l w n).2=0 then(match (ordL l w n).1 with
 |[]=>(0,5)
 |x::_=>(x,0))else(0,(ordL l w n).2)
attribute [go_sem] Tryz.f39
@[go_sem] def c_first:Ct Tryz.prog:=⟨39,arg kChs fun l=>arg kWts fun w=>arg kU64 fun n=>pu (.tup [.int .u64 ((firstL l w n).1:Int), .int .i64 (firstL l w n).2]),arg_ok fun l=>arg_ok fun w=>arg_ok fun n=>ret_ok fun _=>by
 refine run [c_order] Tryz.f39 lv39 fun hT=>vc ?_
 unfold firstL
 refine⟨fun h hl=> ?_,fun h=>by rw [if_neg h];exact⟨rfl,rfl⟩⟩
 rw [if_pos h]
 cases (ordL l w n).1 with
 |nil=>exact⟨fun _=>⟨rfl,rfl⟩,fun h=>absurd rfl h⟩
 |cons x t=>exact⟨fun h=>absurd h (by rw [List.length_cons];omega),fun _=>⟨by rw [List.length_cons];omega,rfl,rfl⟩⟩⟩
attribute [go_sem] Tryz.f49
open Go Go.Proofs Go.IntWalk
structure Wl where
 c:List Ch
 w:List Wt
 i:List Iv
 p:List Py
 f:Fd
 next:Nat
 tick:Nat
deriving DecidableEq,Inhabited
@[go_sem] def Wl.enc (e:Wl):List C:=[.sl (chs e.c), .sl (wts e.w), .sl (ivs e.i), .sl (pys e.p), .int .u64 (e.f.next:Int), .sl (evs e.f.l), .int .u64 (e.next:Int), .int .u64 (e.tick:Int)]
@[go_sem] def Wl.dec:List C→Wl
 |[.sl z66, .sl z67, .sl z68, .sl z69, .int .u64 z71, .sl z72, .int .u64 z73, .int .u64 z74]=>(⟨(dchs z66),(dwts z67),(divs z68),(dpys z69),(⟨z71.toNat,(devs z72)⟩:Fd),z73.toNat,z74.toNat⟩:Wl)
 |_=>default
def wls (l:List Wl):List (List C):=l.map Wl.enc
def dwls (l:List (List C)):List Wl:=l.map Wl.dec
abbrev kWl:=kAg Wl.enc Wl.dec
@[simp,go_sem] theorem wls_length (l:List Wl):(wls l).length=l.length:=by simp [wls]
@[go_sem] theorem wls_get (l:List Wl) (i:Nat):(wls l).getD i [.sl [], .sl [], .sl [], .sl [], .int .u64 0, .sl [], .int .u64 0, .int .u64 0]=(l.getD i default).enc:=by
 simp only [wls,List.getD_eq_getElem?_getD,List.getElem?_map]
 cases l[i]? <;>rfl
@[go_sem] theorem wls_wide (l:List Wl):Wide 8 (wls l)=True:=by
 simp [Wide,wls,Wl.enc]
theorem Wl.dec_enc (e:Wl):Wl.dec e.enc=e:=by
 simp [Wl.enc,Wl.dec,dchs_chs,devs_evs,divs_ivs,dpys_pys,dwts_wts]
@[go_sem] theorem dwls_wls (l:List Wl):dwls (wls l)=l:=by
 simp only [dwls,wls,List.map_map]
 exact List.map_id'' (fun e=>Wl.dec_enc e) l
@[go_sem] theorem wls_app (a b:List Wl):wls a++wls b=wls (a++b):=by simp [wls]
@[go_sem] theorem wls_drop (l:List Wl) (k:Nat):(wls l).drop k=wls (l.drop k):=by simp [wls]
@[go_sem] theorem wls_take (l:List Wl) (k:Nat):(wls l).take k=wls (l.take k):=by simp [wls]
@[go_sem] theorem wls_one (z75:List Ch) (z76:List Wt) (z77:List Iv) (z78:List Py) (z79:Int) (z80:List Ev) (z81:Int) (z82:Int) (hz79:0≤z79) (hz81:0≤z81) (hz82:0≤z82):[[C.sl (chs z75),C.sl (wts z76),C.sl (ivs z77),C.sl (pys z78),C.int .u64 z79,C.sl (evs z80),C.int .u64 z81,C.int .u64 z82]]=wls [⟨z75,z76,z77,z78,⟨z79.toNat,z80⟩,z81.toNat,z82.toNat⟩]:=by simp [wls,Wl.enc,Int.toNat_of_nonneg hz79,Int.toNat_of_nonneg hz81,Int.toNat_of_nonneg hz82]
@[go_sem] theorem wls_set (l:List Wl) (i:Nat) (z75:List Ch) (z76:List Wt) (z77:List Iv) (z78:List Py) (z79:Int) (z80:List Ev) (z81:Int) (z82:Int) (hz79:0≤z79) (hz81:0≤z81) (hz82:0≤z82):(wls l).set i [C.sl (chs z75),C.sl (wts z76),C.sl (ivs z77),C.sl (pys z78),C.int .u64 z79,C.sl (evs z80),C.int .u64 z81,C.int .u64 z82]=wls (l.set i ⟨z75,z76,z77,z78,⟨z79.toNat,z80⟩,z81.toNat,z82.toNat⟩):=by simp [wls,List.map_set,Wl.enc,Int.toNat_of_nonneg hz79,Int.toNat_of_nonneg hz81,Int.toNat_of_nonneg hz82]
@[go_sem] theorem wls_cons (l:List Wl) (z75:List Ch) (z76:List Wt) (z77:List Iv) (z78:List Py) (z79:Int) (z80:List Ev) (z81:Int) (z82:Int) (hz79:0≤z79) (hz81:0≤z81) (hz82:0≤z82):[C.sl (chs z75),C.sl (wts z76),C.sl (ivs z77),C.sl (pys z78),C.int .u64 z79,C.sl (evs z80),C.int .u64 z81,C.int .u64 z82]::wls l=wls (⟨z75,z76,z77,z78,⟨z79.toNat,z80⟩,z81.toNat,z82.toNat⟩::l):=by simp [wls,Wl.enc,Int.toNat_of_nonneg hz79,Int.toNat_of_nonneg hz81,Int.toNat_of_nonneg hz82]
@[go_sem] theorem Wl.eta {e:Wl}:(⟨e.c,e.w,e.i,e.p,e.f,e.next,e.tick⟩:Wl)=e:=rfl
def okW (w:Wl):Prop:=okLd w.c∧okIv w.i∧okFd w.f∧w.w.length≤32∧w.next≠0∧w.next≤MM∧(0<w.p.length→(w.p.getD (w.p.length - 1) default).id<w.next)∧agrL w.p w.c=(true,0)
instance (w:Wl):Decidable (okW w):=by unfold okW;infer_instance
def chkW (w:Wl):Int:=if okW w then 0 else 1
theorem chkW_0 {w:Wl}:chkW w=0↔okW w:=by unfold chkW;split<;>rename_i h<;>simp only [h]<;>decide
attribute [go_sem] Tryz.f31
@[go_sem] def c_wnew:Ct Tryz.prog:=⟨31,pu (.agg [.sl (chs []), .sl (wts []), .sl (ivs []), .sl (pys []), .int .u64 1, .sl (evs []), .int .u64 1, .int .u64 0]),ret_ok fun _=>by
 refine run [c_fnew] Tryz.f31 lv31 fun hT=>vc ?_
 exact⟨rfl,rfl,rfl,rfl⟩⟩
attribute [go_sem] Tryz.f28
@[go_sem] def c_wcheck:Ct Tryz.prog:=⟨28,arg kWl fun w=>ret (w.f.next≤18446744073709551615) (.int .i64 (chkW w)) [],arg_ok fun w=>ret_ok fun h=>by
 refine run [c_lcheck,c_icheck,c_fcheck,c_pagree] Tryz.f28 lv28 fun hT=>vc ?_
 have hbad:¬okW w→1=chkW w:=fun h=>by rw [chkW,if_neg h]
 have hl0:chkL w.c=0↔okLd w.c:=by unfold chkL;split<;>rename_i h<;>simp only [h]<;>decide
 have hi0:chkI w.i=0↔okIv w.i:=by unfold chkI;split<;>rename_i h<;>simp only [h]<;>decide
 refine⟨fun h1=>⟨fun h2=>⟨h,fun h3 _=>⟨fun h4=>⟨fun h5=>⟨fun h6=>hbad fun ho=> ?_,fun h6 _=> ?_⟩,fun h5=>hbad fun ho=> ?_⟩,fun h4=>hbad fun ho=> ?_⟩,fun h3=>hbad fun ho=>h3 (chkF_0.2 ho.2.2.1)⟩,fun h2=>hbad fun ho=>h2 (hi0.2 ho.2.1)⟩,fun h1=>hbad fun ho=>h1 (hl0.2 ho.1)⟩
 rotate_left 1
 ·refine dr us28_4 hT (vc ?_)
  have hL:=hl0.1 h1
  have hh:∀c∈w.c,c.holds.length≤1000000:=fun c hc=>by have:=(hL.2.1 c hc).2.2.1;omega
  have hfin:(0<w.p.length→(w.p.getD (w.p.length - 1) default).id<w.next)→((agrL w.p w.c).2=0→((agrL w.p w.c).1=true→0=chkW w)∧((agrL w.p w.c).1=false→1=chkW w))∧(¬(agrL w.p w.c).2=0→1=chkW w):=fun h7=>
   ⟨fun h8=>⟨fun h9=>by
    rw [chkW,if_pos (show okW w from⟨hL,hi0.1 h2,chkF_0.1 h3,by omega,by omega,by unfold MM;omega,h7,Prod.ext h9 h8⟩)],fun h9=>hbad fun ho=>by have:=ho.2.2.2.2.2.2.2;rw [this]at h9;cases h9⟩,
    fun h8=>hbad fun ho=>by have:=ho.2.2.2.2.2.2.2;rw [this]at h8;exact h8 rfl⟩
  refine⟨fun h7=> ?_,fun h7=>⟨hh,hfin fun h=>absurd h (by omega)⟩⟩
  rw [i64_in _ (by omega),show((w.p.length:Int) - 1).toNat=w.p.length - 1 by omega]
  refine⟨by omega,fun h8=>hbad fun ho=> ?_,fun h8=>⟨hh,hfin fun _=>by omega⟩⟩
  have:=ho.2.2.2.2.2.2.1 (by omega);omega
 ·have:=ho.2.2.2.2.1;omega
 ·have:=ho.2.2.2.1;omega
 ·have:=ho.2.2.2.2.2.1;unfold MM at this;omega⟩
open Go Go.Proofs Go.IntWalk
attribute [go_sem] Tryz.f198
@[go_sem] def c_hclone:Ct Tryz.prog:=⟨198,arg kHds fun l=>ret (l.length≤1000000) (.sl (hds l)) [],arg_ok fun l=>ret_ok fun h=>by
 refine run [] Tryz.f198 lv198 fun hT=>vc ?_
 exact fun b hb=>⟨hb,fun _=>⟨by omega,_,_,_,rfl⟩⟩⟩
attribute [go_sem] Tryz.f157
@[go_sem] def c_own:Ct Tryz.prog:=⟨157,arg kCh fun c=>ret (c.holds.length≤1000000) (.agg [.int .u64 c.id, .int .u64 c.loc, .int .u64 c.rem, .int .u64 c.res, .int .u64 c.most, .sl (hds c.holds), .bool c.op]) [],arg_ok fun c=>ret_ok fun h=>by
 refine run [c_hclone] Tryz.f157 lv157 fun hT=>vc ?_
 exact h⟩
def placeL (l:List Ch) (id:Nat):Int×Int:=if okLd l then(if Srt.thr Ch.id ltN l id=true then((Srt.pos Ch.id ltN l id:Nat),0)else(0,5))else(0,1)
attribute [go_sem] Tryz.f194 Tryz.f153
@[go_sem] def c_place:Ct Tryz.prog:=⟨194,arg kChs fun l=>arg kU64 fun id=>pu (.tup [.int .i64 (placeL l id).1, .int .i64 (placeL l id).2]),arg_ok fun l=>arg_ok fun id=>ret_ok fun _=>by
 refine run [c_lcheck,c_lorder] Tryz.f194 lv194 fun hT=>vc ?_
 have hcz:chkL l=0↔okLd l:=by unfold chkL;split<;>simp_all
 refine⟨fun hok0=> ?_,fun hno0=>by
  have hno:¬okLd l:=fun h=>hno0 (hcz.2 h)
  rw [placeL,chkL,if_neg hno,if_neg hno];exact⟨rfl,rfl⟩⟩
 have hok:=hcz.1 hok0
 have hu:Srt.Up Ch.id ltN l:=(Srt.chn_up (lt:=ltN) Srt.totNat).1 hok.2.2.1
 have hl32:=hok.1
 refine cl hT Tryz.f153 lv153 (vc ?_)
 refine fun _=>SWp.loop (ι:={x:Nat×Nat // x.1≤x.2∧x.2≤l.length∧(∀k,k<x.1→(l.getD k default).id<id)∧∀k,x.2≤k→k<l.length→¬(l.getD k default).id<id}) (fun x=>⟨[(0, .sl (chs l)),(1, .int .u64 id),(2, .fn (.func 154) [] []),(8, .int .i64 l.length),(9, .int .i64 x.1.1),(10, .int .i64 x.1.2)],[],0⟩) (fun x=>x.1.2 - x.1.1) ⟨(0,l.length),by simp,by simp,fun k hk=>absurd hk (by simp),fun k h1 h2=>absurd h1 (by simpa using h2)⟩ ?_ ?_
 ·simp [go_sem]
 ·rintro⟨⟨i,j⟩,hij,hj,hlo,hup⟩
  dsimp only at hij hj hlo hup
  refine aw hT lv153 (vc ?_)
  rw [mid_eq hij hj ‹_›]
  refine⟨fun h4=> ?_,fun h4=> ?_⟩
  ·have hm:(i+j) / 2<l.length:=by omega
   rw [cmpS_neg,Int.toNat_natCast]
   refine⟨by omega,fun h5=>⟨⟨((i+j) / 2+1,j),by dsimp only;omega,hj,fun k hk=> ?_,hup⟩,by dsimp only;omega,i64_in _ (by omega),rfl⟩,fun h5=>⟨⟨(i,(i+j) / 2),by dsimp only;omega,by dsimp only;omega,hlo,fun k hk1 hk2=> ?_⟩,by dsimp only;omega,rfl,rfl⟩⟩
   ·dsimp only at hk
    by_cases hkm:k=(i+j) / 2
    ·rw [hkm];omega
    ·have:=Srt.up_get.1 hu k _ (by omega) hm
     simp only [ltN]at this;omega
   ·dsimp only at hk1
    by_cases hkm:k=(i+j) / 2
    ·rw [hkm];omega
    ·have:=Srt.up_get.1 hu ((i+j) / 2) k (by omega) hk2
     simp only [ltN]at this;omega
  ·have hp:Srt.pos Ch.id ltN l id=i:=Srt.pos_eq (by omega) hlo (fun h=>hup i (by omega) h)
   rw [placeL,if_pos hok,Srt.thr,hp,cmpS_0]
   refine⟨fun h5=>⟨by omega,fun h6=> ?_,fun h6=> ?_⟩,fun h5=> ?_⟩
   ·rw [if_pos (decide_eq_true ⟨by omega,by omega⟩)];exact⟨rfl,rfl⟩
   ·rw [if_neg (by rw [decide_eq_true_iff];omega)];exact⟨rfl,rfl⟩
   ·rw [if_neg (by rw [decide_eq_true_iff];omega)];exact⟨rfl,rfl⟩⟩
def getL (l:List Ch) (id:Nat):Ch×Int:=if okLd l then(if Srt.thr Ch.id ltN l id=true then(l.getD (Srt.pos Ch.id ltN l id) default,0)else(default,5))else(default,1)
open Go Go.Proofs Go.IntWalk
attribute [go_sem] Tryz.f200
@[go_sem] def c_cclone:Ct Tryz.prog:=⟨200,arg kChs fun l=>ret (l.length≤1000000) (.vec 0 l.length) ([(7,34,true,chs l)]),arg_ok fun l=>retF_ok fun h=>by
 refine runF [] Tryz.f200 lv200 fun hT=>vc ?_
 refine fun b hb=>⟨fun h=> ?_,fun h=> ?_⟩
 ·exact⟨[none],by simp [go_sem,hb h],by cases l<;>simp_all [go_sem,chs]⟩
 ·exact⟨by omega,[some 0],by simp [go_sem]⟩⟩
def whereI (l:List Ch) (h:Nat):Nat×Int:=if okLd l then(match nlk h (hm 0 l)with
 |some i=>((l.getD i.toNat default).id,0)
 |none=>(0,5))else(0,1)
theorem hm_range:∀{l:List Ch} {s:Int} {k:Nat} {a:Int},(k,a)∈hm s l→s≤a∧a<s+l.length
 |[],_,_,_,h=>by cases h
 |c::l,s,k,a,h=>by
  rw [hm,List.mem_append]at h
  simp only [List.length_cons]
  rcases h with h|h
  ·obtain⟨x,_,hx⟩:=List.mem_map.1 h
   cases hx
   omega
  ·have:=hm_range h
   omega
attribute [go_sem] Tryz.f116
@[go_sem] def c_lwhere:Ct Tryz.prog:=⟨116,arg kChs fun l=>arg kU64 fun h=>pu (.tup [.int .u64 ((whereI l h).1:Int), .int .i64 (whereI l h).2]),arg_ok fun l=>arg_ok fun h=>ret_ok fun _=>by
 refine run [c_lread] Tryz.f116 lv116 fun hT=>vc ?_
 by_cases hok:okLd l
 ·have e1:readL l=(hm 0 l,0):=by rw [readL,if_pos hok]
  rw [e1,whereI,if_pos hok]
  refine⟨fun _=>⟨fun a ha=> ?_,fun hn=> ?_⟩,fun h=>absurd rfl h⟩
  ·have hnd:((hm 0 l).map (·.1)).Nodup:=by rw [hm_keys];exact hok.2.2.2.1
   have:=hm_range ((nlk_some hnd).1 ha)
   rw [ha]
   exact⟨⟨by omega,by omega⟩,rfl,rfl⟩
  ·rw [hn];exact⟨rfl,rfl⟩
 ·have e1:readL l=([],1):=by rw [readL,if_neg hok]
  rw [e1,whereI,if_neg hok]
  exact⟨fun h=>absurd h (by decide),fun _=>⟨rfl,rfl⟩⟩⟩
attribute [go_sem] Tryz.f156
@[go_sem] def c_owns:Ct Tryz.prog:=⟨156,arg kChs fun l=>ret (l.length≤1000000∧∀c∈l,c.holds.length≤1000000) (.vec 0 l.length) ([(7,34,true,chs l)]),arg_ok fun l=>retF_ok fun h=>by
 refine runF [c_cclone,c_own] Tryz.f156 lv156 fun hT=>vc ?_
 refine⟨h.1,fun _=>SWp.loop (ι:={i:Nat // i≤l.length}) (fun i=>⟨[(0, .vec 0 l.length),(7, .vec 0 l.length),(8, .int .i64 l.length),(9, .int .i64 i.1)],[(0, .vec true 7 34 (chs l))],1⟩) (fun i=>l.length - i.1) ⟨0,by omega⟩ ?_ ?_⟩
 ·simp [go_sem]
 ·rintro⟨i,hi⟩
  refine aw hT lv156 (vc ?_)
  refine⟨fun h1=> ?_,fun _=>⟨[some 0],by simp [go_sem]⟩⟩
  have hi':i<l.length:=by omega
  have hself:l.set i (l.getD i default)=l:=by
   rw [getD_lt hi'];exact List.set_getElem_self hi'
  exact⟨by omega,hi',h.2 _ (mem_getD.2 ⟨i,hi',rfl⟩),by omega,hi',⟨i+1,hi'⟩,by dsimp only;omega,i64_in _ (by omega),by rw [hself]⟩⟩
open Go Go.Proofs Go.IntWalk
attribute [go_sem] Tryz.f201
@[go_sem] def c_wtclone:Ct Tryz.prog:=⟨201,arg kWts fun l=>ret (l.length≤1000000) (.sl (wts l)) [],arg_ok fun l=>ret_ok fun h=>by
 refine run [] Tryz.f201 lv201 fun hT=>vc ?_
 exact fun b hb=>⟨hb,fun _=>⟨by omega,_,_,_,rfl⟩⟩⟩
attribute [go_sem] Tryz.f141
@[go_sem] def c_ivclone:Ct Tryz.prog:=⟨141,arg kIvs fun l=>ret (l.length≤1000000) (.sl (ivs l)) [],arg_ok fun l=>ret_ok fun h=>by
 refine run [] Tryz.f141 lv141 fun hT=>vc ?_
 exact fun b hb=>⟨hb,fun _=>⟨by omega,_,_,_,rfl⟩⟩⟩
attribute [go_sem] Tryz.f109
@[go_sem] def c_pyclone:Ct Tryz.prog:=⟨109,arg kPys fun l=>ret (l.length≤1000000) (.sl (pys l)) [],arg_ok fun l=>ret_ok fun h=>by
 refine run [] Tryz.f109 lv109 fun hT=>vc ?_
 exact fun b hb=>⟨hb,fun _=>⟨by omega,_,_,_,rfl⟩⟩⟩
attribute [go_sem] Tryz.f199
@[go_sem] def c_evclonep:Ct Tryz.prog:=⟨199,arg kEvs fun l=>ret (l.length≤1000000) (.sl (evs l)) [],arg_ok fun l=>ret_ok fun h=>by
 refine run [] Tryz.f199 lv199 fun hT=>vc ?_
 exact fun b hb=>⟨hb,fun _=>⟨by omega,_,_,_,rfl⟩⟩⟩
def smallW (w:Wl):Prop:=w.c.length≤1000000∧(∀c∈w.c,c.holds.length≤1000000)∧w.w.length≤1000000∧w.i.length≤1000000∧w.p.length≤1000000∧w.f.l.length≤1000000
attribute [go_sem] Tryz.f121
@[go_sem] def c_wown:Ct Tryz.prog:=⟨121,arg kWl fun w=>ret (smallW w) (.agg [.sl (chs w.c), .sl (wts w.w), .sl (ivs w.i), .sl (pys w.p), .int .u64 w.f.next, .sl (evs w.f.l), .int .u64 w.next, .int .u64 w.tick]) [],arg_ok fun w=>ret_ok fun h=>by
 refine run [c_cclone,c_hclone,c_wtclone,c_ivclone,c_pyclone,c_evclonep] Tryz.f121 lv121 fun hT=>vc ?_
 refine dr us121_1 hT (vc ?_)
 obtain⟨h1,h2,h3,h4,h5,h6⟩:=h
 refine⟨h1,h3,h4,h5,h6,fun _=>SWp.loop (ι:={i:Nat // i≤w.c.length}) (fun i=>⟨[(1, .ref 0 0),(2, .ref 1 0),(28, .vec 2 w.c.length),(29, .int .i64 w.c.length),(30, .int .i64 i.1)],
  [(2, .vec true 7 34 (chs w.c)),(0, .box [.vec 2 w.c.length, .sl (wts w.w), .sl (ivs w.i), .sl (pys w.p), .c (.int .u64 w.f.next), .sl (evs w.f.l), .c (.int .u64 w.next), .c (.int .u64 w.tick)]),
    (1, .box [.nil, .nil, .nil, .nil, .c (.int .u64 0), .nil, .c (.int .u64 0), .c (.int .u64 0)])],3⟩) (fun i=>w.c.length - i.1) ⟨0,by omega⟩ ?_ ?_⟩
 ·simp [go_sem]
 ·rintro⟨i,hi⟩
  refine aw hT lv121 (vc ?_)
  refine⟨fun h7=>⟨by omega,by omega, ?_⟩,fun _=>⟨_,_,_,rfl⟩⟩
  have hi':i<w.c.length:=by omega
  have hself:w.c.set i (w.c.getD i default)=w.c:=by
   rw [getD_lt hi'];exact List.set_getElem_self hi'
  have hhl:=h2 _ (mem_getD.2 ⟨i,hi',rfl⟩)
  refine dr us121_5 hT (vc ?_)
  exact⟨hhl,by omega,hi',⟨i+1,hi'⟩,by dsimp only;omega,i64_in _ (by omega),by rw [hself]⟩⟩
open Go Go.Proofs Go.IntWalk
@[go_sem] def hins_T2:Tab:=[ovk 234]
theorem hins_T2_ok:TabOk Tryz.prog hins_T2:= .cons (ov_ok 234) .nil
@[go_sem] def hins_T3:Tab:=[fg 12]
theorem hins_T3_ok:TabOk Tryz.prog hins_T3:= .cons (fg_ok 12) .nil
theorem hins_wide (l:List Hd):Wide 2 (hds l):=of_eq_true (hds_wide l)
theorem hins_ok (l:List Hd) (x:Hd) (i:Nat) (hi:i≤l.length) (hl:l.length≤1000000):
 ACall Tryz.prog 197 [.vec 0 l.length, .int .i64 i, .vec 1 1] [(1, .vec true 2 49 (hds [x])),(0, .vec true 2 49 (hds l))] 2 fun d os _=>Grown 2 49 (hds (Srt.ins l i x)) d os:=by
 have hil:(Srt.ins l i x).length=l.length+1:=Srt.ins_len
 have hq:∀j os,lk j os=some (.vec true 2 49 (hds (Srt.ins l i x)))→Grown 2 49 (hds (Srt.ins l i x)) (.vec j (l.length+1)) os:=fun j os h=>⟨j,by rw [hds_length,hil],h⟩
 by_cases hin:i=l.length
 ·refine ac197 hins_T3_ok (Nat.le_of_ble_eq_true rfl) ?_
  have e4:((1:Int)=0)=False:=eq_false (by decide)
  subst hin
  simp -implicitDefEqProofs only [cdA,go_sem,Go.Proofs.Tryz.f197,e4,decide_true,reduceIte,reduceCtorEq,Nat.reduceEqDiff,Nat.reduceAdd,Nat.reduceLeDiff,Nat.reduceSub,Nat.reduceMul,Nat.reduceLT,Nat.reduceShiftRight,Nat.reduceMod,Int.reduceLE,Int.reduceLT,Int.reduceToNat,List.cons.injEq,cdB]
  refine⟨Int.le_refl _,fun h=>h.elim,fun _=>⟨by omega,hq _ _ ?_⟩⟩
  rw [lk_cons,if_neg (by decide),lk_hd]
  simp [Srt.ins]
 ·have hlt:i<l.length:=by omega
  refine ACall.opn 0 rfl (by rw [hds_length];omega) fun c hc hcm=> ?_
  refine ACall.sld ?_
  rw [hds_length]at hc
  refine ac197 hins_T2_ok (Nat.le_of_ble_eq_true rfl) ?_
  have e1:IntKind.i64.wrap ((l.length:Int)+1)=((l.length+1:Nat):Int):=by rw [i64_in _ (by omega)];omega
  have e2:IntKind.i64.wrap ((i:Int)+1)=((i+1:Nat):Int):=by rw [i64_in _ (by omega)];omega
  have e3:((i:Int)=(l.length:Int))=False:=eq_false (by omega)
  have e4:((1:Int)=0)=False:=eq_false (by decide)
  have e5:IntKind.i64.wrap ((l.length:Int)+1 - (i:Int))=((l.length+1 - i:Nat):Int):=by rw [i64_in _ (by omega)];omega
  have e6:((l.length:Int)+1).toNat=l.length+1:=by omega
  have e7:((i:Int)+1).toNat=i+1:=by omega
  have e8:i+(l.length+1 - i)=l.length+1:=by omega
  simp -implicitDefEqProofs only [cdA,go_sem,Go.Proofs.Tryz.f197,e3,e4,e1,e2,e5,e6,e7,e8,decide_false,reduceIte,reduceCtorEq,Nat.reduceEqDiff,Nat.reduceAdd,Nat.reduceLeDiff,Nat.reduceSub,Nat.reduceMul,Nat.reduceLT,Nat.reduceShiftRight,Nat.reduceMod,Int.reduceLE,Int.reduceLT,Int.reduceToNat,List.cons.injEq,cdB]
  refine⟨by omega,fun _=>⟨fun h1=>⟨by omega,by omega,fun c1 h2 h3=>⟨by omega, ?_⟩⟩,fun h1=>⟨by omega,by omega, ?_, ?_⟩⟩⟩
  ·refine ADraw.run us197_11 hins_T2_ok follows_mixed (by kernel_rfl) (by kernel_rfl) ?_
   simp -implicitDefEqProofs only [cdA,go_sem,e1,e2,e5,e6,e7,e8,reduceIte,reduceCtorEq,Nat.reduceEqDiff,Nat.reduceAdd,Nat.reduceLeDiff,Nat.reduceSub,Nat.reduceMul,Nat.reduceLT,Nat.reduceShiftRight,Nat.reduceMod,Int.reduceLE,Int.reduceLT,Int.reduceToNat,List.cons.injEq,cdB]
   refine⟨by omega,by omega,fun y hy=>fit_wide (hins_wide l) y (List.mem_of_mem_take (List.mem_of_mem_drop hy)), ?_⟩
   have:=ins_new (sz:=2) (c:=c) (c1:=c1) (i:=i) (E:=hds l) (x:=x.enc) (z:=[C.int .u64 0,C.int .u64 0]) (by rw [hds_length];exact hlt) (by rw [hds_length];exact hc) (by rw [hds_length];exact h2)
   rw [hds_length]at this
   refine hq _ _ ?_
   rw [lk_hd]
   congr 2
   rw [show hds (List.take (l.length+1 - i) [x])=List.take (l.length+1 - i) [x.enc] by simp [hds],this]
   simp [hds,Srt.ins]
  ·exact⟨_,32,4,_,rfl,rfl,rfl,rfl,by kernel_rfl,elOf_32⟩
  ·refine ADraw.run us197_15 hins_T2_ok follows_mixed (by kernel_rfl) (by kernel_rfl) ?_
   simp -implicitDefEqProofs only [cdA,go_sem,e1,e2,e5,e6,e7,e8,reduceIte,reduceCtorEq,Nat.reduceEqDiff,Nat.reduceAdd,Nat.reduceLeDiff,Nat.reduceSub,Nat.reduceMul,Nat.reduceLT,Nat.reduceShiftRight,Nat.reduceMod,Int.reduceLE,Int.reduceLT,Int.reduceToNat,List.cons.injEq,cdB]
   refine⟨by omega,by omega,fun y hy=>fit_wide (hins_wide l) y (List.mem_of_mem_take (List.mem_of_mem_drop hy)),by omega, ?_⟩
   have:=ins_old (sz:=2) (c:=c) (i:=i) (E:=hds l) (x:=x.enc) (by rw [hds_length];exact hlt) (by rw [hds_length];omega)
   rw [hds_length]at this
   refine hq _ _ ?_
   rw [lk_hd]
   congr 2
   rw [show hds (List.take (l.length+1 - i) [x])=List.take (l.length+1 - i) [x.enc] by simp [hds],this]
   simp [hds,Srt.ins]
attribute [go_sem] Tryz.f198
@[go_sem] def c_hclonef:Ct Tryz.prog:=⟨198,arg kHds fun l=>ret (l.length≤1000000) (.vec 0 l.length) ([(2,49,true,hds l)]),arg_ok fun l=>retF_ok fun hl=>by
 refine runF [] Tryz.f198 lv198 fun hT=>vc ?_
 refine fun b hb=>⟨fun h=> ?_,fun h=> ?_⟩
 ·exact⟨[none],by simp [go_sem,hb h],by cases l<;>simp_all [go_sem,hds]⟩
 ·exact⟨by omega,[some 0],by simp [go_sem]⟩⟩
def bsH (l:List Hd) (id:Nat) (i j:Nat):Nat:=
 if h:i<j then(if(l.getD ((i+j) / 2) default).id<id then bsH l id ((i+j) / 2+1) j else bsH l id i ((i+j) / 2))else i
termination_by j - i
decreasing_by all_goals omega
theorem bsH_pos {l:List Hd} {id:Nat} (hu:Srt.Up Hd.key ltN l):∀(m i j:Nat),j - i≤m→i≤j→j≤l.length→(∀k,k<i→(l.getD k default).id<id)→(∀k,j≤k→k<l.length→¬(l.getD k default).id<id)→bsH l id i j=Srt.pos Hd.key ltN l id:=by
 intro m
 induction m with
 |zero=>
  intro i j hm hij hj hlo hup
  rw [bsH,dif_neg (by omega)]
  exact(Srt.pos_eq (by omega) hlo (fun h=>hup i (by omega) h)).symm
 |succ m ih=>
  intro i j hm hij hj hlo hup
  rw [bsH]
  split
  ·rename_i hlt
   have hup2:=Srt.up_get.1 hu
   split
   ·rename_i h5
    refine ih _ _ (by omega) (by omega) hj (fun k hk=> ?_) hup
    by_cases hkm:k=(i+j) / 2
    ·rw [hkm];exact h5
    ·have:=hup2 k ((i+j) / 2) (by omega) (by omega)
     simp only [ltN,Hd.key]at this;omega
   ·rename_i h5
    refine ih _ _ (by omega) (by omega) (by omega) hlo (fun k hk1 hk2=> ?_)
    by_cases hkm:k=(i+j) / 2
    ·rw [hkm];exact h5
    ·have:=hup2 ((i+j) / 2) k (by omega) (by omega)
     simp only [ltN,Hd.key]at this;omega
  ·exact(Srt.pos_eq (by omega) hlo (fun h=>hup i (by omega) h)).symm
def holdE (c:Ch) (id n:Nat):Int:=
 if¬okCh c∨n=0∨¬n≤MM then 1 else if c.op=false then 14 else if Srt.thr Hd.key ltN c.holds id=true then 6 else if c.holds.length=64 then 7 else if c.loc<c.res∨c.loc - c.res<n then 9 else if c.most - held c.holds<n then 8 else 0
def holdC (c:Ch) (id n:Nat):Ch×Int:=if holdE c id n=0 then(⟨c.id,c.loc - n,c.rem,c.res,c.most,Srt.ins c.holds (Srt.pos Hd.key ltN c.holds id) ⟨id,n⟩,c.op⟩,0)else(default,holdE c id n)
attribute [go_sem] Tryz.f117 Tryz.f195
@[go_sem] def c_chold:Ct Tryz.prog:=⟨117,arg kCh fun c=>arg kU64 fun id=>arg kU64 fun n=>pu (.tup [.agg [.int .u64 (holdC c id n).1.id, .int .u64 (holdC c id n).1.loc, .int .u64 (holdC c id n).1.rem, .int .u64 (holdC c id n).1.res, .int .u64 (holdC c id n).1.most, .sl (hds (holdC c id n).1.holds), .bool (holdC c id n).1.op], .int .i64 (holdC c id n).2]),arg_ok fun c=>arg_ok fun id=>arg_ok fun n=>ret_ok fun _=>by
 refine run [c_csums,c_moncheck,c_hclonef,c_horder] Tryz.f117 lv117 fun hT=>vc ?_
 refine cl hT Tryz.f195 lv195 (vc ?_)
 refine fun _=>SWp.loop (ι:={x:Nat×Nat // x.1≤x.2∧x.2≤c.holds.length∧bsH c.holds id x.1 x.2=bsH c.holds id 0 c.holds.length}) (fun x=>⟨[(0, .sl (hds c.holds)),(1, .int .u64 id),(2, .fn (.func 196) [] []),(8, .int .i64 c.holds.length),(9, .int .i64 x.1.1),(10, .int .i64 x.1.2)],[(0, .box [.int .u64 c.id, .int .u64 c.loc, .int .u64 c.rem, .int .u64 c.res, .int .u64 c.most, .sl (hds c.holds), .bool c.op]),(1, .box [.int .u64 0, .int .u64 0, .int .u64 0, .int .u64 0, .int .u64 0, .nil, .bool false])],2⟩) (fun x=>x.1.2 - x.1.1) ⟨(0,c.holds.length),by simp⟩ ?_ ?_
 ·simp [go_sem]
 ·rintro⟨⟨i,j⟩,hij,hj,hb⟩
  dsimp only at hij hj hb
  refine aw hT lv195 (vc ?_)
  rw [mid_eq hij hj ‹_›]
  have hbad:∀k,holdE c id n=k→¬k=0→(0=((holdC c id n).1.id:Int)∧0=((holdC c id n).1.loc:Int)∧0=((holdC c id n).1.rem:Int)∧0=((holdC c id n).1.res:Int)∧0=((holdC c id n).1.most:Int)∧hds (holdC c id n).1.holds=[]∧false=(holdC c id n).1.op)∧k=(holdC c id n).2:=fun k hk h0=>by
   have:holdC c id n=(default,k):=by rw [holdC,if_neg (by rw [hk];exact h0),hk]
   rw [this];exact⟨⟨rfl,rfl,rfl,rfl,rfl,rfl,rfl⟩,rfl⟩
  refine⟨fun h4=> ?_,fun h4=> ?_⟩
  ·have hm:(i+j) / 2<c.holds.length:=by omega
   rw [bsH,dif_pos (by omega)]at hb
   rw [cmpS_neg,Int.toNat_natCast]
   refine⟨⟨by omega,by omega⟩,fun h5=> ?_,fun h5=> ?_⟩
   ·rw [if_pos (by omega)]at hb
    exact⟨⟨((i+j) / 2+1,j),by dsimp only;omega,hj,hb⟩,by dsimp only;omega,i64_in _ (by omega),rfl⟩
   ·rw [if_neg (by omega)]at hb
    exact⟨⟨(i,(i+j) / 2),by dsimp only;omega,by dsimp only;omega,hb⟩,by dsimp only;omega,rfl,rfl⟩
  ·rw [bsH,dif_neg (by omega)]at hb
   have hok:(sumsC c).2.2=0↔okCh c:=sumsC_0
   have hpos:okCh c→Srt.pos Hd.key ltN c.holds id=i:=fun h=>by
    rw [hb]
    exact(bsH_pos ((Srt.chn_up (lt:=ltN) Srt.totNat).1 h.2.2.2.2.2.1) _ 0 c.holds.length (Nat.le_refl _) (by omega) (Nat.le_refl _) (fun k hk=>absurd hk (by omega)) (fun k h1 h2=>by omega)).symm
   rw [hok]
   have hthr:okCh c→Srt.thr Hd.key ltN c.holds id=decide (i<c.holds.length∧(c.holds.getD i default).id=id):=fun h=>by rw [Srt.thr,hpos h];rfl
   have hmon:monS [n]=0↔n≤MM:=mon1_0
   have e1:∀h:okCh c,(sumsC c).1=held c.holds:=fun h=>by rw [sumsC,if_pos h]
   refine⟨fun h6=>⟨h6,fun ho=>⟨fun hn=>⟨fun hm=>⟨fun hop=>⟨fun ht=>hbad 6 ?_ (by decide),fun ht _=>⟨fun h64=>hbad 7 ?_ (by decide),fun h64=>⟨fun hl=>⟨fun hx=>hbad 9 ?_ (by decide),fun hx=>⟨fun hy=>hbad 8 ?_ (by decide),fun hy=>⟨by have:=ho.2.2.1;omega, ?_⟩⟩⟩,fun hl=>hbad 9 ?_ (by decide)⟩⟩⟩,fun hop=>hbad 14 ?_ (by decide)⟩,fun hm=>hbad 1 ?_ (by decide)⟩,fun hn=>hbad 1 ?_ (by decide)⟩,fun ho=>hbad 1 ?_ (by decide)⟩,
    fun h6=>⟨fun ho=>⟨fun hn=>⟨fun hm=>⟨fun hop _=>⟨fun h64=>hbad 7 ?_ (by decide),fun h64=>⟨fun hl=>⟨fun hx=>hbad 9 ?_ (by decide),fun hx=>⟨fun hy=>hbad 8 ?_ (by decide),fun hy=>⟨by have:=ho.2.2.1;omega, ?_⟩⟩⟩,fun hl=>hbad 9 ?_ (by decide)⟩⟩,fun hop=>hbad 14 ?_ (by decide)⟩,fun hm=>hbad 1 ?_ (by decide)⟩,fun hn=>hbad 1 ?_ (by decide)⟩,fun ho=>hbad 1 ?_ (by decide)⟩⟩
   all_goals first|(unfold holdE;rw [if_pos (.inl ho)];done)|skip
   all_goals first|(unfold holdE;rw [if_pos (.inr (.inl (by omega)))];done)|skip
   all_goals first|(unfold holdE;rw [if_pos (.inr (.inr fun h=>hm (hmon.2 h)))];done)|skip
   all_goals
    have hA:¬(¬okCh c∨n=0∨¬n≤MM):=by
     rintro(h|h|h)
     ·exact h ho
     ·exact hn (by omega)
     ·exact h (hmon.1 hm)
    have q4:held c.holds≤c.most:=ho.2.2.2.2.2.2.1
    have q2:c.most≤MM:=ho.2.1
    have q3:c.loc≤MM:=ho.2.2.2.2.2.2.2.1
    have e2:=e1 ho
    unfold MM at q2 q3
   all_goals first|(unfold holdE;rw [if_neg hA,if_pos (by simpa using hop)];done)|skip
   all_goals have hop':¬c.op=false:=by rw [hop];decide
   all_goals first
    |(unfold holdE;rw [if_neg hA,if_neg hop',if_pos (by rw [hthr ho];exact decide_eq_true ⟨by omega,by have:=cmpS_0.1 ht;omega⟩)];done)
    |skip
   all_goals
    have ht':¬Srt.thr Hd.key ltN c.holds id=true:=by
     rw [hthr ho,decide_eq_true_eq]
     rintro⟨h1,h2⟩
     first|exact ht (cmpS_0.2 (by omega))|omega
   all_goals first
    |(unfold holdE;rw [if_neg hA,if_neg hop',if_neg ht',if_pos (by omega)];done)
    |skip
   all_goals have h64':¬c.holds.length=64:=by omega
   all_goals first
    |(unfold holdE;rw [if_neg hA,if_neg hop',if_neg ht',if_neg h64',if_pos (.inl (by omega))];done)
    |(rw [u64_in ((c.loc:Int) - _) (by omega)]at hx;unfold holdE;rw [if_neg hA,if_neg hop',if_neg ht',if_neg h64',if_pos (by omega)];done)
    |skip
   all_goals
    rw [u64_in ((c.loc:Int) - _) (by omega)]at hx
    have h9':¬(c.loc<c.res∨c.loc - c.res<n):=by omega
    rw [e2,u64_in ((c.most:Int) - _) (by omega)]at hy
   all_goals first
    |(unfold holdE;rw [if_neg hA,if_neg hop',if_neg ht',if_neg h64',if_neg h9',if_pos (by omega)];done)
    |skip
   all_goals
    have h0:holdE c id n=0:=by unfold holdE;rw [if_neg hA,if_neg hop',if_neg ht',if_neg h64',if_neg h9',if_neg (by omega)]
    have h20:=ho.2.2.1
    refine ACall.grow (mid:=[.int .i64 _]) (hins_ok c.holds ⟨id,n⟩ i (by omega) (by omega)) rfl rfl (by decide) (by simp [Srt.ins_len]) (fun d hd g g' w v hv=> ?_) ?_
   all_goals first
    |(simp at hd;subst hd
      cases hv with
      |c _ _ h=>cases h;exact .c _ _ (.int _ _))
    |skip
   all_goals
    refine vc ?_
    rw [holdC,if_pos h0,hpos ho,u64_in ((c.loc:Int) - _) (by omega)]
    exact⟨⟨rfl,by dsimp only;omega,rfl,rfl,rfl,⟨rfl,_,_,_,rfl⟩,rfl⟩,rfl⟩⟩
open Go Go.Proofs Go.IntWalk
def lholdL (l:List Ch) (id h n:Nat):List Ch×Int:=
 if okLd l then(if Srt.thr Ch.id ltN l id=true then(if(whereI l h).2=0 then([],6)else if holdE (l.getD (Srt.pos Ch.id ltN l id) default) h n=0 then(l.set (Srt.pos Ch.id ltN l id) (holdC (l.getD (Srt.pos Ch.id ltN l id) default) h n).1,0)else([],holdE (l.getD (Srt.pos Ch.id ltN l id) default) h n))else([],5))else([],1)
theorem holdC_2 {c:Ch} {id n:Nat}:(holdC c id n).2=holdE c id n:=by
 unfold holdC
 split
 ·rename_i h;exact h.symm
 ·rfl
attribute [go_sem] Tryz.f45 Tryz.f114 Tryz.f115
@[go_sem] def c_lhold:Ct Tryz.prog:=⟨45,arg kChs fun l=>arg kU64 fun id=>arg kU64 fun h=>arg kU64 fun n=>pu (.tup [.sl (chs (lholdL l id h n).1), .int .i64 (lholdL l id h n).2]),arg_ok fun l=>arg_ok fun id=>arg_ok fun h=>arg_ok fun n=>ret_ok fun _=>by
 refine run [c_place,c_lwhere,c_chold,c_owns] Tryz.f45 lv45 fun hT=>vc ?_
 refine cl hT Tryz.f114 lv114 (vc ?_)
 by_cases hok:okLd l
 ·by_cases ht:Srt.thr Ch.id ltN l id=true
  ·have e1:placeL l id=(((Srt.pos Ch.id ltN l id:Nat):Int),0):=by rw [placeL,if_pos hok,if_pos ht]
   have hp:Srt.pos Ch.id ltN l id<l.length:=by
    unfold Srt.thr at ht
    exact(of_decide_eq_true ht).1
   rw [e1,Int.toNat_natCast,lholdL,if_pos hok,if_pos ht]
   refine⟨fun _=>⟨⟨by omega,by omega⟩, ?_⟩,fun h=>absurd rfl h⟩
   refine cl hT Tryz.f115 lv115 (vc ?_)
   have h32:l.length≤1000000∧∀c∈l,c.holds.length≤1000000:=⟨by have:=hok.1;omega,fun c hc=>by have:=(hok.2.1 c hc).2.2.1;omega⟩
   refine⟨fun hw=>⟨fun h6=>absurd h6 (by decide),fun _=> ?_⟩,fun hw=>⟨fun h0=> ?_,fun h0=> ?_⟩⟩
   ·rw [if_pos hw];exact⟨rfl,rfl⟩
   ·rw [holdC_2]at h0
    rw [if_neg hw,if_pos h0]
    exact⟨h32,by omega,hp,⟨by simp,_,_,_,rfl⟩,rfl⟩
   ·rw [holdC_2]at h0⊢
    rw [if_neg hw,if_neg h0]
    exact⟨rfl,rfl⟩
  ·have e1:placeL l id=(0,5):=by rw [placeL,if_pos hok,if_neg ht]
   have e2:lholdL l id h n=([],5):=by rw [lholdL,if_pos hok,if_neg ht]
   rw [e1,e2]
   exact⟨fun h=>absurd h (by decide),fun _=>⟨rfl,rfl⟩⟩
 ·have e1:placeL l id=(0,1):=by rw [placeL,if_neg hok]
  have e2:lholdL l id h n=([],1):=by rw [lholdL,if_neg hok]
  rw [e1,e2]
  exact⟨fun h=>absurd h (by decide),fun _=>⟨rfl,rfl⟩⟩⟩
open Go Go.Proofs Go.IntWalk
theorem hold_perm {l:List Hd} {i:Nat} {x:Hd}:List.Perm (Srt.ins l i x) (x::l):=Srt.ins_perm
theorem split_at {l:List Ch} {p:Nat} (hp:p<l.length):l=l.take p++l.getD p default::l.drop (p+1):=by
 rw [getD_lt hp,List.getElem_cons_drop,List.take_append_drop]
theorem split_set {l:List Ch} {p:Nat} {d:Ch} (hp:p<l.length):l.set p d=l.take p++d::l.drop (p+1):=by
 rw [List.set_eq_take_append_cons_drop,if_pos hp]
theorem hidL_set {l:List Ch} {p:Nat} {d:Ch} {x:Hd} (hp:p<l.length) (hd:d.holds.Perm (x::(l.getD p default).holds)):(hidL (l.set p d)).Perm (x.id::hidL l):=by
 conv=>rhs;rw [split_at hp]
 rw [split_set hp]
 simp only [hidL,List.flatMap_append,List.flatMap_cons]
 have h1:=hd.map Hd.id
 rw [List.map_cons]at h1
 refine(List.Perm.append_left _ (h1.append_right _)).trans ?_
 exact List.perm_middle
theorem held_ins {l:List Hd} {i:Nat} {x:Hd}:held (Srt.ins l i x)=x.n+held l:=by
 unfold held
 rw [((hold_perm (l:=l) (i:=i) (x:=x)).map Hd.n).sum_nat,List.map_cons,List.sum_cons]
theorem totL_set {l:List Ch} {p:Nat} {d:Ch} (hp:p<l.length) (hd:allC d=allC (l.getD p default)):totL (l.set p d)=totL l:=by
 conv=>rhs;rw [split_at hp]
 rw [split_set hp]
 simp only [totL,List.map_append,List.map_cons,List.sum_append,List.sum_cons,hd]
theorem hold_okCh {c:Ch} {h n:Nat} (he:holdE c h n=0) (hok:okCh c):okCh (holdC c h n).1∧allC (holdC c h n).1=allC c:=by
 have e:holdC c h n=(⟨c.id,c.loc - n,c.rem,c.res,c.most,Srt.ins c.holds (Srt.pos Hd.key ltN c.holds h) ⟨h,n⟩,c.op⟩,0):=by rw [holdC,if_pos he]
 obtain⟨o1,o2,o3,o4,o5,o6,o7,o8,o9,o10⟩:=hok
 have hok:okCh c:=⟨o1,o2,o3,o4,o5,o6,o7,o8,o9,o10⟩
 unfold holdE at he
 split at he
 ·cases he
 split at he
 ·cases he
 split at he
 ·cases he
 split at he
 ·cases he
 split at he
 ·cases he
 split at he
 ·cases he
 rename_i h1 h2 h3 h4 h5 h6
 have hn0:n≠0:=fun h=>h1 (.inr (.inl h))
 have h7:=held_ins (l:=c.holds) (i:=Srt.pos Hd.key ltN c.holds h) (x:=⟨h,n⟩)
 have hu:Srt.Up Hd.key ltN c.holds:=(Srt.chn_up (lt:=ltN) Srt.totNat).1 o6
 have hle:n≤c.loc:=by omega
 have hnew:okCh (holdC c h n).1:=by
  rw [e]
  refine⟨o1,o2, ?_,fun hop=>absurd hop h2,fun y hy=> ?_, ?_, ?_, ?_,o9, ?_⟩
  ·dsimp only;rw [Srt.ins_len];omega
  ·rcases List.mem_cons.1 (hold_perm.mem_iff.1 hy)with rfl|hy
   ·exact hn0
   ·exact o5 y hy
  ·exact(Srt.chn_up (lt:=ltN) Srt.totNat).2 (Srt.ins_up (x:=(⟨h,n⟩:Hd)) (Srt.totNat) hu h3)
  ·dsimp only;rw [h7];dsimp only;omega
  ·dsimp only;omega
  ·dsimp only;rw [h7];dsimp only;omega
 refine⟨hnew, ?_⟩
 have a1:allC c=held c.holds+c.loc+c.rem:=by unfold allC sumsC;rw [if_pos hok]
 have a2:allC (holdC c h n).1=held (holdC c h n).1.holds+(holdC c h n).1.loc+(holdC c h n).1.rem:=by unfold allC sumsC;rw [if_pos hnew]
 rw [a1,a2,e]
 dsimp only
 rw [h7];dsimp only;omega
theorem where_0 {l:List Ch} {h:Nat} (hok:okLd l):(whereI l h).2=0↔h∈hidL l:=by
 have hnd:((hm 0 l).map (·.1)).Nodup:=by rw [hm_keys];exact hok.2.2.2.1
 rw [whereI,if_pos hok]
 constructor
 ·cases hx:nlk h (hm 0 l)with
  |none=>intro h;cases h
  |some i=>
   intro _
   have:=(nlk_some hnd).1 hx
   rw [←hm_keys (s:=0)]
   exact List.mem_map.2 ⟨_,this,rfl⟩
 ·intro hh
  rw [←hm_keys (s:=0)]at hh
  obtain⟨⟨k,a⟩,h1,h2⟩:=List.mem_map.1 hh
  dsimp only at h2
  subst h2
  rw [(nlk_some hnd).2 h1]
open Go Go.Proofs Go.IntWalk
theorem lhold_at {l:List Ch} {id h n:Nat} (h0:(lholdL l id h n).2=0):okLd l∧∃c∈l,c.id=id∧Srt.pos Ch.id ltN l id<l.length∧l.getD (Srt.pos Ch.id ltN l id) default=c∧h∉hidL l∧holdE c h n=0∧lholdL l id h n=(l.set (Srt.pos Ch.id ltN l id) (holdC c h n).1,0):=by
 by_cases hok:okLd l
 ·by_cases ht:Srt.thr Ch.id ltN l id=true
  ·by_cases hw:(whereI l h).2=0
   ·rw [lholdL,if_pos hok,if_pos ht,if_pos hw]at h0;cases h0
   ·by_cases he:holdE (l.getD (Srt.pos Ch.id ltN l id) default) h n=0
    ·have h2:=ht
     unfold Srt.thr at h2
     obtain⟨hp,hpi⟩:=of_decide_eq_true h2
     refine⟨hok,_,mem_getD.2 ⟨_,hp,rfl⟩,hpi,hp,rfl,fun h=>hw ((where_0 hok).2 h),he, ?_⟩
     rw [lholdL,if_pos hok,if_pos ht,if_neg hw,if_pos he]
    ·rw [lholdL,if_pos hok,if_pos ht,if_neg hw,if_neg he]at h0;exact absurd h0 he
  ·rw [lholdL,if_pos hok,if_neg ht]at h0;cases h0
 ·rw [lholdL,if_neg hok]at h0;cases h0
theorem lhold_fine {l:List Ch} {id h n:Nat} (h0:(lholdL l id h n).2=0):okLd (lholdL l id h n).1:=by
 obtain⟨hok,c,hc,hid,hp,hcp,hw,he,e⟩:=lhold_at h0
 have hu:Srt.Up Ch.id ltN l:=(Srt.chn_up (lt:=ltN) Srt.totNat).1 hok.2.2.1
 obtain⟨hok',hall⟩:=hold_okCh he (hok.2.1 c hc)
 have eid:(holdC c h n).1.id=c.id:=by rw [holdC,if_pos he]
 have ehl:(holdC c h n).1.holds.Perm (⟨h,n⟩::c.holds):=by rw [holdC,if_pos he];exact hold_perm
 generalize Srt.pos Ch.id ltN l id=p at*
 have hpm:=hidL_set (l:=l) (p:=p) (d:=(holdC c h n).1) (x:=⟨h,n⟩) hp (by rw [hcp];exact ehl)
 rw [e]
 refine⟨by rw [List.length_set];exact hok.1,fun d hd=> ?_, ?_, ?_, ?_⟩
 ·rcases List.mem_or_eq_of_mem_set hd with h|rfl
  ·exact hok.2.1 d h
  ·exact hok'
 ·exact(Srt.chn_up (lt:=ltN) Srt.totNat).2 (Srt.set_up hu hp (by rw [hcp];exact eid))
 ·rw [hpm.nodup_iff,List.nodup_cons];exact⟨hw,hok.2.2.2.1⟩
 ·rw [totL_set hp (by rw [hcp];exact hall)];exact hok.2.2.2.2
theorem start_len {l:List Py} {p:Py}:(startP l p).1.length≤257:=by
 unfold startP
 split
 ·simp
 ·rename_i hA
  have hok:okPy l:=Decidable.byContradiction fun h=>hA (.inl h)
  have:=hok.1
  split
  ·simp
  ·split
   ·split
    ·simp
    ·rename_i k hk
     dsimp only
     have hkl:k<l.length:=by
      unfold idle at hk
      exact(List.findIdx?_eq_some_iff_getElem.1 hk).1
     rw [Srt.ins_len,List.length_eraseIdx_of_lt hkl];omega
   ·dsimp only
    rw [Srt.ins_len];omega
theorem add_len {f:Fd} {k:Int} {a n:Nat}:(addF f k a n).1.l.length≤64:=by
 unfold addF
 split
 ·rename_i h
  have:=h.1.2.2.1
  split
  ·simp
  ·dsimp only
   rw [List.length_drop,List.length_append,List.length_singleton];omega
 ·simp
theorem small_ok {w:Wl} (h:okW w):smallW w:=by
 obtain⟨h1,h2,h3,h4,_⟩:=h
 have h7:=h3.2.2.1
 refine⟨by have:=h1.1;omega,fun c hc=>by have:=(h1.2.1 c hc).2.2.1;omega,by omega,by have:=h2.1;omega, ?_,by omega⟩
 rename_i h8
 have h9:=h8.2.2.2
 have:okPy w.p:=by
  unfold agrL at h9
  split at h9
  ·rename_i h;exact h.1
  ·cases h9
 have:=this.1;omega
open Go Go.Proofs Go.IntWalk
theorem i1_0:((1:Int)=0)=False:=eq_false (by decide)
theorem i7_0:((7:Int)=0)=False:=eq_false (by decide)
theorem i9_0:((9:Int)=0)=False:=eq_false (by decide)
def payP (v:Wl) (hash n:Nat):List Py×Int:=startP v.p ⟨v.next,hash,(firstL v.c v.w n).1,n,1⟩
def payC (v:Wl) (n:Nat):List Ch×Int:=lholdL v.c (firstL v.c v.w n).1 v.next n
def payF (v:Wl) (n:Nat):Fd×Nat×Int:=addF v.f 0 v.next n
def payE (v:Wl) (hash n:Nat):Int:=if¬okW v∨n=0∨¬n≤MM then 1 else if(firstL v.c v.w n).2≠0 then 9 else if v.next=MM then 7 else if(payP v hash n).2≠0 then(payP v hash n).2 else if(payC v n).2≠0 then(payC v n).2 else(payF v n).2.2
def zeroW:Wl:=⟨[],[],[],[],⟨0,[]⟩,0,0⟩
def payW (v:Wl) (hash n:Nat):Wl×Nat×Int:=if payE v hash n=0 then(⟨(payC v n).1,v.w,v.i,(payP v hash n).1,(payF v n).1,v.next+1,v.tick⟩,v.next,0)else(zeroW,0,payE v hash n)
attribute [go_sem] Tryz.f8 Tryz.f36 Tryz.f37 Tryz.f40 Tryz.f43 Tryz.f46 Tryz.f118 Tryz.f47 Tryz.f41 Tryz.f44 Tryz.f119
@[go_sem] def c_wpay:Ct Tryz.prog:=⟨8,arg kWl fun v=>arg kU64 fun hash=>arg kU64 fun n=>ret (v.f.next≤18446744073709551615) (.tup [.agg [.sl (chs (payW v hash n).1.c), .sl (wts (payW v hash n).1.w), .sl (ivs (payW v hash n).1.i), .sl (pys (payW v hash n).1.p), .int .u64 (payW v hash n).1.f.next, .sl (evs (payW v hash n).1.f.l), .int .u64 (payW v hash n).1.next, .int .u64 (payW v hash n).1.tick], .int .u64 (payW v hash n).2.1, .int .i64 (payW v hash n).2.2]) [],arg_ok fun v=>arg_ok fun hash=>arg_ok fun n=>ret_ok fun h=>by
 refine run [c_wcheck,c_moncheck,c_first,c_pstart,c_lhold,c_fadd,c_wown] Tryz.f8 lv8 fun hT=>vc ?_
 refine cl hT Tryz.f36 lv36 (vc ?_)
 refine dr us36_1 hT (vc ?_)
 refine⟨h, ?_⟩
 have hbad:∀e:Int,payE v hash n=e→¬e=0→(chs (payW v hash n).1.c=[]∧wts (payW v hash n).1.w=[]∧ivs (payW v hash n).1.i=[]∧pys (payW v hash n).1.p=[]∧0=((payW v hash n).1.f.next:Int)∧evs (payW v hash n).1.f.l=[]∧0=((payW v hash n).1.next:Int)∧0=((payW v hash n).1.tick:Int))∧0=((payW v hash n).2.1:Int)∧e=(payW v hash n).2.2:=fun e h1 h2=>by
  have:payW v hash n=(zeroW,0,e):=by rw [payW,if_neg (by rw [h1];exact h2),h1]
  rw [this];exact⟨⟨rfl,rfl,rfl,rfl,rfl,rfl,rfl,rfl⟩,rfl,rfl⟩
 by_cases hok:okW v
 rotate_left 1
 ·have hck:(chkW v=0)=False:=eq_false fun h=>hok (chkW_0.1 h)
  have he:payE v hash n=1:=by rw [payE,if_pos (.inl hok)]
  have hc1:chkW v=1:=by rw [chkW,if_neg hok]
  refine⟨fun hn=> ?_,fun hn=> ?_⟩
  ·skip
   refine cl hT Tryz.f37 lv37 ?_
   simp -implicitDefEqProofs only [cdA,go_sem,hck,cdN,simprocAttr, -Int.reduceEq,List.cons.injEq,cdB]
   refine cl hT Tryz.f37 lv37 ?_
   simp -implicitDefEqProofs only [cdA,go_sem,hck,cdN,simprocAttr, -Int.reduceEq,List.cons.injEq,cdB]
   refine cl hT Tryz.f37 lv37 ?_
   simp -implicitDefEqProofs only [cdA,go_sem,hck,cdN,simprocAttr, -Int.reduceEq,List.cons.injEq,cdB]
   refine cl hT Tryz.f40 lv40 ?_
   simp -implicitDefEqProofs only [cdA,go_sem,hck,cdN,simprocAttr, -Int.reduceEq,List.cons.injEq,cdB]
   refine cl hT Tryz.f43 lv43 ?_
   simp -implicitDefEqProofs only [cdA,go_sem,hck,cdN,simprocAttr, -Int.reduceEq,List.cons.injEq,cdB]
   refine cl hT Tryz.f46 lv46 (vc ?_)
   refine cl hT Tryz.f118 lv118 ?_
   simp -implicitDefEqProofs only [cdA,go_sem,hck,cdN,simprocAttr, -Int.reduceEq,List.cons.injEq,cdB]
   refine cl hT Tryz.f47 lv47 ?_
   simp -implicitDefEqProofs only [cdA,go_sem,hck,cdN,simprocAttr, -Int.reduceEq,List.cons.injEq,cdB]
   refine dr us47_2 hT ?_
   simp -implicitDefEqProofs only [cdA,go_sem,hck,cdN,simprocAttr, -Int.reduceEq,List.cons.injEq,cdB]
   exact hbad _ (he.trans hc1.symm) (by rw [hc1];decide)
  ·skip
   refine cl hT Tryz.f37 lv37 ?_
   simp -implicitDefEqProofs only [cdA,go_sem,hck,cdN,simprocAttr, -Int.reduceEq,List.cons.injEq,cdB]
   refine cl hT Tryz.f37 lv37 ?_
   simp -implicitDefEqProofs only [cdA,go_sem,hck,cdN,simprocAttr, -Int.reduceEq,List.cons.injEq,cdB]
   refine cl hT Tryz.f37 lv37 ?_
   simp -implicitDefEqProofs only [cdA,go_sem,hck,cdN,simprocAttr, -Int.reduceEq,List.cons.injEq,cdB]
   refine cl hT Tryz.f40 lv40 ?_
   simp -implicitDefEqProofs only [cdA,go_sem,hck,cdN,simprocAttr, -Int.reduceEq,List.cons.injEq,cdB]
   refine cl hT Tryz.f43 lv43 ?_
   simp -implicitDefEqProofs only [cdA,go_sem,hck,cdN,simprocAttr, -Int.reduceEq,List.cons.injEq,cdB]
   refine cl hT Tryz.f46 lv46 (vc ?_)
   refine cl hT Tryz.f118 lv118 ?_
   simp -implicitDefEqProofs only [cdA,go_sem,hck,cdN,simprocAttr, -Int.reduceEq,List.cons.injEq,cdB]
   refine cl hT Tryz.f47 lv47 ?_
   simp -implicitDefEqProofs only [cdA,go_sem,hck,cdN,simprocAttr, -Int.reduceEq,List.cons.injEq,cdB]
   refine dr us47_2 hT ?_
   simp -implicitDefEqProofs only [cdA,go_sem,hck,cdN,simprocAttr, -Int.reduceEq,List.cons.injEq,cdB]
   exact hbad _ (he.trans hc1.symm) (by rw [hc1];decide)
 have hck:(chkW v=0)=True:=eq_true (chkW_0.2 hok)
 refine⟨fun hn=> ?_,fun hn=> ?_⟩
 rotate_left 1
 ·skip
  refine cl hT Tryz.f37 lv37 ?_
  simp -implicitDefEqProofs only [cdA,go_sem,hck,cdN,simprocAttr, -Int.reduceEq,List.cons.injEq,cdB]
  skip
  refine cl hT Tryz.f37 lv37 ?_
  simp -implicitDefEqProofs only [cdA,go_sem,i1_0,cdN,simprocAttr, -Int.reduceEq,List.cons.injEq,cdB]
  refine cl hT Tryz.f37 lv37 ?_
  simp -implicitDefEqProofs only [cdA,go_sem,i1_0,cdN,simprocAttr, -Int.reduceEq,List.cons.injEq,cdB]
  refine cl hT Tryz.f40 lv40 ?_
  simp -implicitDefEqProofs only [cdA,go_sem,i1_0,cdN,simprocAttr, -Int.reduceEq,List.cons.injEq,cdB]
  refine cl hT Tryz.f43 lv43 ?_
  simp -implicitDefEqProofs only [cdA,go_sem,i1_0,cdN,simprocAttr, -Int.reduceEq,List.cons.injEq,cdB]
  refine cl hT Tryz.f46 lv46 (vc ?_)
  refine cl hT Tryz.f118 lv118 ?_
  simp -implicitDefEqProofs only [cdA,go_sem,i1_0,cdN,simprocAttr, -Int.reduceEq,List.cons.injEq,cdB]
  refine cl hT Tryz.f47 lv47 ?_
  simp -implicitDefEqProofs only [cdA,go_sem,i1_0,cdN,simprocAttr, -Int.reduceEq,List.cons.injEq,cdB]
  refine dr us47_2 hT ?_
  simp -implicitDefEqProofs only [cdA,go_sem,i1_0,cdN,simprocAttr, -Int.reduceEq,List.cons.injEq,cdB]
  exact hbad _ (by rw [payE,if_pos (.inr (.inl (by omega)))]) (by decide)
 have hmon:monS [n]=0↔n≤MM:=mon1_0
 by_cases hm:monS [n]=0
 rotate_left 1
 ·skip
  refine cl hT Tryz.f37 lv37 ?_
  simp -implicitDefEqProofs only [cdA,go_sem,hck,hm,cdN,simprocAttr, -Int.reduceEq,List.cons.injEq,cdB]
  skip
  refine cl hT Tryz.f37 lv37 ?_
  simp -implicitDefEqProofs only [cdA,go_sem,i1_0,cdN,simprocAttr, -Int.reduceEq,List.cons.injEq,cdB]
  refine cl hT Tryz.f37 lv37 ?_
  simp -implicitDefEqProofs only [cdA,go_sem,i1_0,cdN,simprocAttr, -Int.reduceEq,List.cons.injEq,cdB]
  refine cl hT Tryz.f40 lv40 ?_
  simp -implicitDefEqProofs only [cdA,go_sem,i1_0,cdN,simprocAttr, -Int.reduceEq,List.cons.injEq,cdB]
  refine cl hT Tryz.f43 lv43 ?_
  simp -implicitDefEqProofs only [cdA,go_sem,i1_0,cdN,simprocAttr, -Int.reduceEq,List.cons.injEq,cdB]
  refine cl hT Tryz.f46 lv46 (vc ?_)
  refine cl hT Tryz.f118 lv118 ?_
  simp -implicitDefEqProofs only [cdA,go_sem,i1_0,cdN,simprocAttr, -Int.reduceEq,List.cons.injEq,cdB]
  refine cl hT Tryz.f47 lv47 ?_
  simp -implicitDefEqProofs only [cdA,go_sem,i1_0,cdN,simprocAttr, -Int.reduceEq,List.cons.injEq,cdB]
  refine dr us47_2 hT ?_
  simp -implicitDefEqProofs only [cdA,go_sem,i1_0,cdN,simprocAttr, -Int.reduceEq,List.cons.injEq,cdB]
  exact hbad _ (by rw [payE,if_pos (.inr (.inr fun h=>hm (hmon.2 h)))]) (by decide)
 have hA:¬(¬okW v∨n=0∨¬n≤MM):=by
  rintro(h|h|h)
  ·exact h hok
  ·omega
  ·exact h (hmon.1 hm)
 refine cl hT Tryz.f37 lv37 ?_
 simp -implicitDefEqProofs only [cdA,go_sem,hck,hm,cdN,simprocAttr, -Int.reduceEq,List.cons.injEq,cdB]
 by_cases hfe:(firstL v.c v.w n).2=0
 rotate_left 1
 ·skip
  refine cl hT Tryz.f37 lv37 ?_
  simp -implicitDefEqProofs only [cdA,go_sem,hck,hfe,cdN,simprocAttr, -Int.reduceEq,List.cons.injEq,cdB]
  skip
  refine cl hT Tryz.f37 lv37 ?_
  simp -implicitDefEqProofs only [cdA,go_sem,i9_0,cdN,simprocAttr, -Int.reduceEq,List.cons.injEq,cdB]
  refine cl hT Tryz.f40 lv40 ?_
  simp -implicitDefEqProofs only [cdA,go_sem,i9_0,cdN,simprocAttr, -Int.reduceEq,List.cons.injEq,cdB]
  refine cl hT Tryz.f43 lv43 ?_
  simp -implicitDefEqProofs only [cdA,go_sem,i9_0,cdN,simprocAttr, -Int.reduceEq,List.cons.injEq,cdB]
  refine cl hT Tryz.f46 lv46 (vc ?_)
  refine cl hT Tryz.f118 lv118 ?_
  simp -implicitDefEqProofs only [cdA,go_sem,i9_0,cdN,simprocAttr, -Int.reduceEq,List.cons.injEq,cdB]
  refine cl hT Tryz.f47 lv47 ?_
  simp -implicitDefEqProofs only [cdA,go_sem,i9_0,cdN,simprocAttr, -Int.reduceEq,List.cons.injEq,cdB]
  refine dr us47_2 hT ?_
  simp -implicitDefEqProofs only [cdA,go_sem,i9_0,cdN,simprocAttr, -Int.reduceEq,List.cons.injEq,cdB]
  exact hbad _ (by rw [payE,if_neg hA,if_pos hfe]) (by decide)
 refine cl hT Tryz.f37 lv37 ?_
 simp -implicitDefEqProofs only [cdA,go_sem,hck,hfe,cdN,simprocAttr, -Int.reduceEq,List.cons.injEq,cdB]
 by_cases hnx:v.next=MM
 ·have hnx':((v.next:Int)=4611686018427387904)=True:=eq_true (by unfold MM at hnx;omega)
  refine cl hT Tryz.f37 lv37 ?_
  simp -implicitDefEqProofs only [cdA,go_sem,hck,hnx',decide_false,cdN,simprocAttr, -Int.reduceEq,List.cons.injEq,cdB]
  skip
  refine cl hT Tryz.f40 lv40 ?_
  simp -implicitDefEqProofs only [cdA,go_sem,i7_0,cdN,simprocAttr, -Int.reduceEq,List.cons.injEq,cdB]
  refine cl hT Tryz.f43 lv43 ?_
  simp -implicitDefEqProofs only [cdA,go_sem,i7_0,cdN,simprocAttr, -Int.reduceEq,List.cons.injEq,cdB]
  refine cl hT Tryz.f46 lv46 (vc ?_)
  refine cl hT Tryz.f118 lv118 ?_
  simp -implicitDefEqProofs only [cdA,go_sem,i7_0,cdN,simprocAttr, -Int.reduceEq,List.cons.injEq,cdB]
  refine cl hT Tryz.f47 lv47 ?_
  simp -implicitDefEqProofs only [cdA,go_sem,i7_0,cdN,simprocAttr, -Int.reduceEq,List.cons.injEq,cdB]
  refine dr us47_2 hT ?_
  simp -implicitDefEqProofs only [cdA,go_sem,i7_0,cdN,simprocAttr, -Int.reduceEq,List.cons.injEq,cdB]
  exact hbad _ (by rw [payE,if_neg hA,if_neg (fun h=>h hfe),if_pos hnx]) (by decide)
 have hnx':((v.next:Int)=4611686018427387904)=False:=eq_false (by unfold MM at hnx;omega)
 refine cl hT Tryz.f37 lv37 ?_
 simp -implicitDefEqProofs only [cdA,go_sem,hck,hnx',decide_true,cdN,simprocAttr, -Int.reduceEq,List.cons.injEq,cdB]
 refine cl hT Tryz.f40 lv40 ?_
 simp -implicitDefEqProofs only [cdA,go_sem,hck,cdN,simprocAttr, -Int.reduceEq,List.cons.injEq,cdB]
 refine cl hT Tryz.f41 lv41 (vc ?_)
 have eP:startP v.p ⟨v.next,hash,(firstL v.c v.w n).1,n,1⟩=payP v hash n:=rfl
 rw [eP]
 refine⟨fun hst=> ?_,fun hst=> ?_⟩
 rotate_left 1
 ·skip
  refine cl hT Tryz.f43 lv43 ?_
  simp -implicitDefEqProofs only [cdA,go_sem,hst,cdN,simprocAttr, -Int.reduceEq,List.cons.injEq,cdB]
  refine cl hT Tryz.f46 lv46 (vc ?_)
  refine cl hT Tryz.f118 lv118 ?_
  simp -implicitDefEqProofs only [cdA,go_sem,hst,cdN,simprocAttr, -Int.reduceEq,List.cons.injEq,cdB]
  refine cl hT Tryz.f47 lv47 ?_
  simp -implicitDefEqProofs only [cdA,go_sem,hst,cdN,simprocAttr, -Int.reduceEq,List.cons.injEq,cdB]
  refine dr us47_2 hT ?_
  simp -implicitDefEqProofs only [cdA,go_sem,hst,cdN,simprocAttr, -Int.reduceEq,List.cons.injEq,cdB]
  exact hbad _ (by rw [payE,if_neg hA,if_neg (fun h=>h hfe),if_neg hnx,if_pos hst]) hst
 refine cl hT Tryz.f43 lv43 ?_
 simp -implicitDefEqProofs only [cdA,go_sem,hck,cdN,simprocAttr, -Int.reduceEq,List.cons.injEq,cdB]
 refine cl hT Tryz.f44 lv44 (vc ?_)
 have eC:lholdL v.c (firstL v.c v.w n).1 v.next n=payC v n:=rfl
 rw [eC]
 refine⟨fun hho=> ?_,fun hho=> ?_⟩
 rotate_left 1
 ·skip
  refine cl hT Tryz.f46 lv46 (vc ?_)
  refine cl hT Tryz.f118 lv118 ?_
  simp -implicitDefEqProofs only [cdA,go_sem,hho,cdN,simprocAttr, -Int.reduceEq,List.cons.injEq,cdB]
  refine cl hT Tryz.f47 lv47 ?_
  simp -implicitDefEqProofs only [cdA,go_sem,hho,cdN,simprocAttr, -Int.reduceEq,List.cons.injEq,cdB]
  refine dr us47_2 hT ?_
  simp -implicitDefEqProofs only [cdA,go_sem,hho,cdN,simprocAttr, -Int.reduceEq,List.cons.injEq,cdB]
  exact hbad _ (by rw [payE,if_neg hA,if_neg (fun h=>h hfe),if_neg hnx,if_neg (fun h=>h hst),if_pos hho]) hho
 refine cl hT Tryz.f46 lv46 (vc ?_)
 refine cl hT Tryz.f118 lv118 ?_
 simp -implicitDefEqProofs only [cdA,go_sem,hck,cdN,simprocAttr, -Int.reduceEq,List.cons.injEq,cdB]
 refine cl hT Tryz.f119 lv119 (vc ?_)
 have eF:addF v.f 0 v.next n=payF v n:=rfl
 have hv:=hok.2.2.2.2.2.1
 unfold MM at hv
 rw [eF,show IntKind.u64.wrap ((v.next:Int)+1)=((v.next+1:Nat):Int) by rw [u64_in _ (by omega)];omega]
 refine⟨h,fun hfd=> ?_,fun hfd=> ?_⟩
 rotate_left 1
 ·skip
  refine cl hT Tryz.f47 lv47 ?_
  simp -implicitDefEqProofs only [cdA,go_sem,hfd,cdN,simprocAttr, -Int.reduceEq,List.cons.injEq,cdB]
  refine dr us47_2 hT ?_
  simp -implicitDefEqProofs only [cdA,go_sem,hfd,cdN,simprocAttr, -Int.reduceEq,List.cons.injEq,cdB]
  exact hbad _ (by rw [payE,if_neg hA,if_neg (fun h=>h hfe),if_neg hnx,if_neg (fun h=>h hst),if_neg (fun h=>h hho)]) hfd
 have hsm:smallW ⟨(payC v n).1,v.w,v.i,(payP v hash n).1,(payF v n).1,v.next+1,v.tick⟩:=by
  have h1:=lhold_fine hho
  have h2:=small_ok hok
  have h3:=start_len (l:=v.p) (p:=⟨v.next,hash,(firstL v.c v.w n).1,n,1⟩)
  have h4:=add_len (f:=v.f) (k:=0) (a:=v.next) (n:=n)
  refine⟨by have:=h1.1;show(payC v n).1.length≤_;unfold payC;omega,fun c hc=>by have:=(h1.2.1 c hc).2.2.1;omega,h2.2.2.1,h2.2.2.2.1,by show(payP v hash n).1.length≤_;unfold payP;omega,by show(payF v n).1.l.length≤_;unfold payF;omega⟩
 have hfin:payW v hash n=(⟨(payC v n).1,v.w,v.i,(payP v hash n).1,(payF v n).1,v.next+1,v.tick⟩,v.next,0):=by
  have:payE v hash n=0:=by rw [payE,if_neg hA,if_neg (fun h=>h hfe),if_neg hnx,if_neg (fun h=>h hst),if_neg (fun h=>h hho)];exact hfd
  rw [payW,if_pos this]
 have en:((v.next:Int)+1).toNat=v.next+1:=by omega
 have en2:((v.next:Int)+1=((v.next+1:Nat):Int))=True:=eq_true (by omega)
 refine cl hT Tryz.f47 lv47 ?_
 simp -implicitDefEqProofs only [cdA,go_sem,hck,en,en2,eq_true hsm,cdN,simprocAttr, -Int.reduceEq,List.cons.injEq,cdB]
 refine dr us8_13 hT (vc ?_)
 rw [hfin]
 exact⟨⟨rfl,rfl,rfl,rfl,rfl,rfl,by dsimp only;omega,rfl⟩,rfl,rfl⟩⟩
open Go Go.Proofs Go.IntWalk
theorem pend_app {a b:List Py}:pend (a++b)=pend a++pend b:=by simp [pend]
theorem okPy_up {l:List Py} (h:okPy l):Srt.Up Py.id ltN l:=(Srt.chn_up (lt:=ltN) Srt.totNat).1 h.2.2
theorem up_last {l:List Py} {k:Nat} (hu:Srt.Up Py.id ltN l) (h:0<l.length→(l.getD (l.length - 1) default).id<k):∀x∈l,x.id<k:=fun x hx=>by
 obtain⟨i,hi,rfl⟩:=mem_getD.1 hx
 by_cases hl:i=l.length - 1
 ·rw [hl];exact h (by omega)
 ·have:=Srt.up_get.1 hu i (l.length - 1) (by omega) (by omega)
  have h2:=h (by omega)
  simp only [ltN]at this;omega
theorem hlL_app {a b:List Ch}:hlL (a++b)=hlL a++hlL b:=by simp [hlL]
theorem hlL_set {l:List Ch} {p:Nat} {d:Ch} {x:Hd} (hp:p<l.length) (hi:d.id=(l.getD p default).id) (hd:d.holds.Perm (x::(l.getD p default).holds)):(hlL (l.set p d)).Perm ((d.id,x.id,x.n)::hlL l):=by
 conv=>rhs;rw [split_at hp]
 rw [split_set hp]
 simp only [hlL,List.flatMap_append,List.flatMap_cons]
 have h1:(hlC d).Perm ((d.id,x.id,x.n)::hlC (l.getD p default)):=by
  unfold hlC
  rw [←hi]
  exact hd.map fun h=>(d.id,h.id,h.n)
 refine(List.Perm.append_left _ (h1.append_right _)).trans ?_
 exact List.perm_middle
def ourC (c:Ch):Nat:=if c.op=true then c.loc else 0
def ourS (l:List Ch):Nat:=(l.map ourC).sum
def heldS (l:List Ch):Nat:=(l.map fun c=>held c.holds).sum
theorem agr_parts {p:List Py} {c:List Ch}:agrL p c=(true,0)↔okPy p∧c.length≤32∧(c.map Ch.id).Nodup∧(∀q∈pend p,(q.chan,q.id,q.n)∈hlL c)∧(hlL c).length=(pend p).length:=by
 unfold agrL
 split
 ·rename_i h
  rw [Prod.mk.injEq]
  refine⟨fun h1=>⟨h.1,h.2.1,h.2.2,of_decide_eq_true h1.1⟩,fun h1=>⟨decide_eq_true h1.2.2.2,rfl⟩⟩
 ·rename_i h
  refine⟨fun h1=>(by cases h1),fun h1=>absurd ⟨h1.1,h1.2.1,h1.2.2.1⟩ h⟩
theorem okW_ids {w:Wl} (h:okW w):∀x∈w.p,x.id<w.next:=by
 have h1:=(agr_parts.1 h.2.2.2.2.2.2.2).1
 exact up_last (okPy_up h1) h.2.2.2.2.2.2.1
open Go Go.Proofs Go.IntWalk
attribute [go_sem] Tryz.f103
@[go_sem] def c_cheld:Ct Tryz.prog:=⟨103,arg kCh fun c=>pu (.tup [.int .u64 ((sumsC c).1:Int), .int .i64 (sumsC c).2.2]),arg_ok fun c=>ret_ok fun _=>by
 exact run [c_csums] Tryz.f103 lv103 fun hT=>vc0⟩
def oursL (l:List Ch):Nat×Nat×Int:=if okLd l then(ourS l,heldS l,0)else(0,0,1)
theorem our_le:∀{l:List Ch},(∀c∈l,okCh c)→ourS l+heldS l≤totL l
 |[],_=>Nat.le_refl 0
 |c::l,h=>by
  have h1:=our_le (l:=l) fun d hd=>h d (.tail _ hd)
  have h2:=h c (.head _)
  have e1:ourS (c::l)=ourC c+ourS l:=by simp [ourS]
  have e2:heldS (c::l)=held c.holds+heldS l:=by simp [heldS]
  have e3:totL (c::l)=(held c.holds+c.loc+c.rem)+totL l:=by
   simp only [totL,List.map_cons,List.sum_cons]
   rw [allC,sumsC,if_pos h2]
  have h4:ourC c≤c.loc:=by unfold ourC;split<;>omega
  omega
theorem our_succ {l:List Ch} {i:Nat} (h:i<l.length):ourS (l.take (i+1))=ourS (l.take i)+ourC (l.getD i default)∧heldS (l.take (i+1))=heldS (l.take i)+held (l.getD i default).holds:=by
 rw [take_succ h,ourS,heldS,List.map_append,List.sum_append,List.map_append,List.sum_append];simp [ourS,heldS]
theorem our_take {l:List Ch} {i:Nat}:ourS (l.take i)≤ourS l∧heldS (l.take i)≤heldS l:=by
 have e1:ourS l=ourS (l.take i)+ourS (l.drop i):=by
  conv=>lhs;rw [←List.take_append_drop i l]
  rw [ourS,List.map_append,List.sum_append];rfl
 have e2:heldS l=heldS (l.take i)+heldS (l.drop i):=by
  conv=>lhs;rw [←List.take_append_drop i l]
  rw [heldS,List.map_append,List.sum_append];rfl
 omega
attribute [go_sem] Tryz.f33
@[go_sem] def c_ours:Ct Tryz.prog:=⟨33,arg kChs fun l=>pu (.tup [.int .u64 ((oursL l).1:Int), .int .u64 ((oursL l).2.1:Int), .int .i64 (oursL l).2.2]),arg_ok fun l=>ret_ok fun _=>by
 refine run [c_lcheck,c_cheld] Tryz.f33 lv33 fun hT=>vc ?_
 have hl0:chkL l=0↔okLd l:=by unfold chkL;split<;>rename_i h<;>simp only [h]<;>decide
 refine⟨fun h0 hl=> ?_,fun h0=>by
  have hno:¬okLd l:=fun h=>h0 (hl0.2 h)
  rw [oursL,chkL,if_neg hno,if_neg hno];exact⟨rfl,rfl,rfl⟩⟩
 have hok:=hl0.1 h0
 have hle:=our_le hok.2.1
 have htl:=hok.2.2.2.2
 have e:oursL l=(ourS l,heldS l,0):=by rw [oursL,if_pos hok]
 rw [e]
 refine SWp.loop (ι:={i:Nat // i≤l.length}) (fun i=>⟨[(2, .int .u64 (ourS (l.take i.1):Nat)),(3, .int .u64 (heldS (l.take i.1):Nat)),(14, .sl (chs l)),(15, .int .i64 l.length),(16, .int .i64 i.1)],[],0⟩) (fun i=>l.length - i.1) ⟨0,by omega⟩ ?_ ?_
 ·simp [go_sem,ourS,heldS]
 ·rintro⟨i,hi⟩
  refine aw hT lv33 (vc ?_)
  refine⟨fun h1=>⟨by omega, ?_⟩,fun h1=> ?_⟩
  ·have hi':i<l.length:=by omega
   obtain⟨s1,s2⟩:=our_succ hi'
   obtain⟨t1,t2⟩:=our_take (l:=l) (i:=i+1)
   have hc:=hok.2.1 _ (mem_getD.2 ⟨i,hi',rfl⟩)
   have e1:(sumsC (l.getD i default)).1=held (l.getD i default).holds:=by rw [sumsC,if_pos hc]
   have hs:=sumsC_0.2 hc
   unfold MM ourC at*
   rw [e1,hs]
   refine⟨fun _=>⟨fun h2=> ?_,fun h2=> ?_⟩,fun h=>absurd rfl h⟩
   ·rw [if_pos h2]at s1
    exact⟨⟨i+1,hi'⟩,by dsimp only;omega,by rw [u64_in _ (by omega)];dsimp only;omega,by rw [u64_in _ (by omega)];dsimp only;omega,i64_in _ (by omega)⟩
   ·rw [if_neg (by rw [h2];decide)]at s1
    exact⟨⟨i+1,hi'⟩,by dsimp only;omega,by dsimp only;omega,by rw [u64_in _ (by omega)];dsimp only;omega,i64_in _ (by omega)⟩
  ·have hi':i=l.length:=by omega
   subst hi'
   rw [List.take_length];exact⟨rfl,rfl⟩⟩
open Go Go.Proofs Go.IntWalk
@[go_sem] def lins_T2:Tab:=[ovk 216]
theorem lins_T2_ok:TabOk Tryz.prog lins_T2:= .cons (ov_ok 216) .nil
@[go_sem] def lins_T3:Tab:=[fg 12]
theorem lins_T3_ok:TabOk Tryz.prog lins_T3:= .cons (fg_ok 12) .nil
theorem lins_wide (l:List Ch):Wide 7 (chs l):=of_eq_true (chs_wide l)
theorem lins_ok (l:List Ch) (x:Ch) (i:Nat) (hi:i≤l.length) (hl:l.length≤1000000):
 ACall Tryz.prog 155 [.vec 0 l.length, .int .i64 i, .vec 1 1] [(1, .vec true 7 34 (chs [x])),(0, .vec true 7 34 (chs l))] 2 fun d os _=>Grown 7 34 (chs (Srt.ins l i x)) d os:=by
 have hil:(Srt.ins l i x).length=l.length+1:=Srt.ins_len
 have hq:∀j os,lk j os=some (.vec true 7 34 (chs (Srt.ins l i x)))→Grown 7 34 (chs (Srt.ins l i x)) (.vec j (l.length+1)) os:=fun j os h=>⟨j,by rw [chs_length,hil],h⟩
 by_cases hin:i=l.length
 ·refine ac155 lins_T3_ok (Nat.le_of_ble_eq_true rfl) ?_
  have e4:((1:Int)=0)=False:=eq_false (by decide)
  subst hin
  simp -implicitDefEqProofs only [cdA,go_sem,Go.Proofs.Tryz.f155,e4,decide_true,reduceIte,reduceCtorEq,Nat.reduceEqDiff,Nat.reduceAdd,Nat.reduceLeDiff,Nat.reduceSub,Nat.reduceMul,Nat.reduceLT,Nat.reduceShiftRight,Nat.reduceMod,Int.reduceLE,Int.reduceLT,Int.reduceToNat,List.cons.injEq,cdB]
  refine⟨Int.le_refl _,fun h=>h.elim,fun _=>⟨by omega,hq _ _ ?_⟩⟩
  rw [lk_cons,if_neg (by decide),lk_hd]
  simp [Srt.ins]
 ·have hlt:i<l.length:=by omega
  refine ACall.opn 0 rfl (by rw [chs_length];omega) fun c hc hcm=> ?_
  refine ACall.sld ?_
  rw [chs_length]at hc
  refine ac155 lins_T2_ok (Nat.le_of_ble_eq_true rfl) ?_
  have e1:IntKind.i64.wrap ((l.length:Int)+1)=((l.length+1:Nat):Int):=by rw [i64_in _ (by omega)];omega
  have e2:IntKind.i64.wrap ((i:Int)+1)=((i+1:Nat):Int):=by rw [i64_in _ (by omega)];omega
  have e3:((i:Int)=(l.length:Int))=False:=eq_false (by omega)
  have e4:((1:Int)=0)=False:=eq_false (by decide)
  have e5:IntKind.i64.wrap ((l.length:Int)+1 - (i:Int))=((l.length+1 - i:Nat):Int):=by rw [i64_in _ (by omega)];omega
  have e6:((l.length:Int)+1).toNat=l.length+1:=by omega
  have e7:((i:Int)+1).toNat=i+1:=by omega
  have e8:i+(l.length+1 - i)=l.length+1:=by omega
  simp -implicitDefEqProofs only [cdA,go_sem,Go.Proofs.Tryz.f155,e3,e4,e1,e2,e5,e6,e7,e8,decide_false,reduceIte,reduceCtorEq,Nat.reduceEqDiff,Nat.reduceAdd,Nat.reduceLeDiff,Nat.reduceSub,Nat.reduceMul,Nat.reduceLT,Nat.reduceShiftRight,Nat.reduceMod,Int.reduceLE,Int.reduceLT,Int.reduceToNat,List.cons.injEq,cdB]
  refine⟨by omega,fun _=>⟨fun h1=>⟨by omega,by omega,fun c1 h2 h3=>⟨by omega, ?_⟩⟩,fun h1=>⟨by omega,by omega, ?_, ?_⟩⟩⟩
  ·refine ADraw.run us155_11 lins_T2_ok follows_mixed (by kernel_rfl) (by kernel_rfl) ?_
   simp -implicitDefEqProofs only [cdA,go_sem,e1,e2,e5,e6,e7,e8,reduceIte,reduceCtorEq,Nat.reduceEqDiff,Nat.reduceAdd,Nat.reduceLeDiff,Nat.reduceSub,Nat.reduceMul,Nat.reduceLT,Nat.reduceShiftRight,Nat.reduceMod,Int.reduceLE,Int.reduceLT,Int.reduceToNat,List.cons.injEq,cdB]
   refine⟨by omega,by omega,fun y hy=>fit_wide (lins_wide l) y (List.mem_of_mem_take (List.mem_of_mem_drop hy)), ?_⟩
   have:=ins_new (sz:=7) (c:=c) (c1:=c1) (i:=i) (E:=chs l) (x:=x.enc) (z:=[C.int .u64 0,C.int .u64 0,C.int .u64 0,C.int .u64 0,C.int .u64 0,C.sl [],C.bool false]) (by rw [chs_length];exact hlt) (by rw [chs_length];exact hc) (by rw [chs_length];exact h2)
   rw [chs_length]at this
   refine hq _ _ ?_
   rw [lk_hd]
   congr 2
   rw [show chs (List.take (l.length+1 - i) [x])=List.take (l.length+1 - i) [x.enc] by simp [chs],this]
   simp [chs,Srt.ins]
  ·exact⟨_,22,4,_,rfl,rfl,rfl,rfl,by kernel_rfl,elOf_22⟩
  ·refine ADraw.run us155_15 lins_T2_ok follows_mixed (by kernel_rfl) (by kernel_rfl) ?_
   simp -implicitDefEqProofs only [cdA,go_sem,e1,e2,e5,e6,e7,e8,reduceIte,reduceCtorEq,Nat.reduceEqDiff,Nat.reduceAdd,Nat.reduceLeDiff,Nat.reduceSub,Nat.reduceMul,Nat.reduceLT,Nat.reduceShiftRight,Nat.reduceMod,Int.reduceLE,Int.reduceLT,Int.reduceToNat,List.cons.injEq,cdB]
   refine⟨by omega,by omega,fun y hy=>fit_wide (lins_wide l) y (List.mem_of_mem_take (List.mem_of_mem_drop hy)),by omega, ?_⟩
   have:=ins_old (sz:=7) (c:=c) (i:=i) (E:=chs l) (x:=x.enc) (by rw [chs_length];exact hlt) (by rw [chs_length];omega)
   rw [chs_length]at this
   refine hq _ _ ?_
   rw [lk_hd]
   congr 2
   rw [show chs (List.take (l.length+1 - i) [x])=List.take (l.length+1 - i) [x.enc] by simp [chs],this]
   simp [chs,Srt.ins]
def chkC (c:Ch):Int:=if okCh c then 0 else 1
attribute [go_sem] Tryz.f152
@[go_sem] def c_ccheck:Ct Tryz.prog:=⟨152,arg kCh fun c=>pu (.int .i64 (chkC c)),arg_ok fun c=>ret_ok fun _=>by
 refine run [c_csums] Tryz.f152 lv152 fun hT=>vc ?_
 unfold sumsC chkC
 split<;>rfl⟩
def openL (l:List Ch) (c:Ch):List Ch×Int:=
 if¬okCh c∨c.op=false∨0<c.holds.length∨¬okLd l then([],1)else if Srt.thr Ch.id ltN l c.id=true then([],6)else if l.length=32 then([],7)else if okLd (Srt.ins l (Srt.pos Ch.id ltN l c.id) c)then(Srt.ins l (Srt.pos Ch.id ltN l c.id) c,0)else([],8)
attribute [go_sem] Tryz.f78 Tryz.f153
@[go_sem] def c_lopen:Ct Tryz.prog:=⟨78,arg kChs fun l=>arg kCh fun c=>pu (.tup [.sl (chs (openL l c).1), .int .i64 (openL l c).2]),arg_ok fun l=>arg_ok fun c=>ret_ok fun _=>by
 refine run [c_ccheck,c_lcheck,c_lorder,c_own,c_owns] Tryz.f78 lv78 fun hT=>vc ?_
 have hbad:(¬okCh c∨c.op=false∨0<c.holds.length∨¬okLd l)→chs (openL l c).1=[]∧1=(openL l c).2:=fun h=>by rw [openL,if_pos h];exact⟨rfl,rfl⟩
 have hc0:chkC c=0↔okCh c:=by unfold chkC;split<;>rename_i h<;>simp only [h]<;>decide
 have hl0:chkL l=0↔okLd l:=by unfold chkL;split<;>rename_i h<;>simp only [h]<;>decide
 refine⟨fun h1=>⟨fun h2 _=>⟨fun h3=>⟨fun h4=> ?_,fun h4=>hbad (.inr (.inr (.inr fun h=>h4 (hl0.2 h))))⟩,fun h3=>hbad (.inr (.inr (.inl (by omega))))⟩,fun h2=>hbad (.inr (.inl (by simpa using h2)))⟩,fun h1=>hbad (.inl fun h=>h1 (hc0.2 h))⟩
 have hok:=hl0.1 h4
 have hcc:=hc0.1 h1
 have hop:c.op=true:=by simpa using h2
 have hA:¬(¬okCh c∨c.op=false∨0<c.holds.length∨¬okLd l):=by
  rintro(h|h|h|h)
  ·exact h hcc
  ·rw [hop]at h;cases h
  ·omega
  ·exact h hok
 have hu:Srt.Up Ch.id ltN l:=(Srt.chn_up (lt:=ltN) Srt.totNat).1 hok.2.2.1
 have hl32:=hok.1
 refine cl hT Tryz.f153 lv153 (vc ?_)
 refine fun _=>SWp.loop (ι:={x:Nat×Nat // x.1≤x.2∧x.2≤l.length∧(∀k,k<x.1→(l.getD k default).id<c.id)∧∀k,x.2≤k→k<l.length→¬(l.getD k default).id<c.id}) (fun x=>⟨[(0, .sl (chs l)),(1, .c (.int .u64 c.id)),(2, .fn (.func 154) [] []),(8, .int .i64 l.length),(9, .int .i64 x.1.1),(10, .int .i64 x.1.2)],
  [(0, .box [.c (.int .u64 c.id), .c (.int .u64 c.loc), .c (.int .u64 c.rem), .c (.int .u64 c.res), .c (.int .u64 c.most), .sl (hds c.holds), .c (.bool c.op)])],1⟩) (fun x=>x.1.2 - x.1.1) ⟨(0,l.length),by simp,by simp,fun k hk=>absurd hk (by simp),fun k h1 h2=>absurd h1 (by simpa using h2)⟩ ?_ ?_
 ·simp [go_sem]
 ·rintro⟨⟨i,j⟩,hij,hj,hlo,hup⟩
  dsimp only at hij hj hlo hup
  refine aw hT lv153 (vc ?_)
  rw [mid_eq hij hj ‹_›]
  refine⟨fun h4=> ?_,fun h4=> ?_⟩
  ·have hm:(i+j) / 2<l.length:=by omega
   rw [cmpS_neg,Int.toNat_natCast]
   refine⟨by omega,fun h5=>⟨⟨((i+j) / 2+1,j),by dsimp only;omega,hj,fun k hk=> ?_,hup⟩,by dsimp only;omega,i64_in _ (by omega),rfl⟩,fun h5=>⟨⟨(i,(i+j) / 2),by dsimp only;omega,by dsimp only;omega,hlo,fun k hk1 hk2=> ?_⟩,by dsimp only;omega,rfl,rfl⟩⟩
   ·dsimp only at hk
    by_cases hkm:k=(i+j) / 2
    ·rw [hkm];omega
    ·have:=Srt.up_get.1 hu k _ (by omega) hm
     simp only [ltN]at this;omega
   ·dsimp only at hk1
    by_cases hkm:k=(i+j) / 2
    ·rw [hkm];omega
    ·have:=Srt.up_get.1 hu ((i+j) / 2) k (by omega) hk2
     simp only [ltN]at this;omega
  ·have hp:Srt.pos Ch.id ltN l c.id=i:=Srt.pos_eq (by omega) hlo (fun h=>hup i (by omega) h)
   have hth:Srt.thr Ch.id ltN l c.id=decide (i<l.length∧(l.getD i default).id=c.id):=by rw [Srt.thr,hp]
   refine⟨fun h5=>⟨by omega,fun h6=> ?_,fun h6 _=>⟨fun h7=> ?_,fun h7=> ?_⟩⟩,fun h5 _=>⟨fun h7=> ?_,fun h7=> ?_⟩⟩
   ·rw [openL,if_neg hA,if_pos (by rw [hth];exact decide_eq_true ⟨by omega,by have:=cmpS_0.1 h6;omega⟩)];exact⟨rfl,rfl⟩
   ·have ht:¬Srt.thr Ch.id ltN l c.id=true:=by rw [hth,decide_eq_true_eq];rintro⟨h8,h9⟩;exact h6 (cmpS_0.2 (by omega))
    rw [openL,if_neg hA,if_neg ht,if_pos (by omega)];exact⟨rfl,rfl⟩
   ·have ht:¬Srt.thr Ch.id ltN l c.id=true:=by rw [hth,decide_eq_true_eq];rintro⟨h8,h9⟩;exact h6 (cmpS_0.2 (by omega))
    refine ADraw.tail 6 us78_8 hT follows_mixed (by kernel_rfl) (by kernel_rfl) (by kernel_rfl) (by kernel_rfl) ?_
    simp -implicitDefEqProofs only [cdA,go_sem,List.take_succ_cons,List.take_zero,List.drop_succ_cons,List.drop_zero,simprocAttr, -Int.reduceEq,List.cons.injEq,cdB]
    refine⟨⟨by omega,fun d hd=>by have:=(hok.2.1 d hd).2.2.1;omega⟩,by omega, ?_⟩
    refine ACall.grow (mid:=[.int .i64 _]) (lins_ok l c i (by omega) (by omega)) rfl rfl (by decide) (by simp [Srt.ins_len]) (fun d hd g g' w v hv=> ?_) ?_
    ·simp at hd;subst hd
     cases hv with
     |c _ _ h=>cases h;exact .c _ _ (.int _ _)
    ·refine vc ?_
     have hl0':chkL (Srt.ins l i c)=0↔okLd (Srt.ins l i c):=by unfold chkL;split<;>rename_i h<;>simp only [h]<;>decide
     refine⟨fun h8=> ?_,fun h8=> ?_⟩
     ·rw [openL,if_neg hA,if_neg ht,if_neg (by omega),hp,if_pos (hl0'.1 h8)];exact⟨⟨rfl,_,_,_,rfl⟩,rfl⟩
     ·rw [openL,if_neg hA,if_neg ht,if_neg (by omega),hp,if_neg fun h=>h8 (hl0'.2 h)];exact⟨rfl,rfl⟩
   ·have ht:¬Srt.thr Ch.id ltN l c.id=true:=by rw [hth,decide_eq_true_eq];omega
    rw [openL,if_neg hA,if_neg ht,if_pos (by omega)];exact⟨rfl,rfl⟩
   ·have ht:¬Srt.thr Ch.id ltN l c.id=true:=by rw [hth,decide_eq_true_eq];omega
    refine ADraw.tail 6 us78_8 hT follows_mixed (by kernel_rfl) (by kernel_rfl) (by kernel_rfl) (by kernel_rfl) ?_
    simp -implicitDefEqProofs only [cdA,go_sem,List.take_succ_cons,List.take_zero,List.drop_succ_cons,List.drop_zero,simprocAttr, -Int.reduceEq,List.cons.injEq,cdB]
    refine⟨⟨by omega,fun d hd=>by have:=(hok.2.1 d hd).2.2.1;omega⟩,by omega, ?_⟩
    refine ACall.grow (mid:=[.int .i64 _]) (lins_ok l c i (by omega) (by omega)) rfl rfl (by decide) (by simp [Srt.ins_len]) (fun d hd g g' w v hv=> ?_) ?_
    ·simp at hd;subst hd
     cases hv with
     |c _ _ h=>cases h;exact .c _ _ (.int _ _)
    ·refine vc ?_
     have hl0':chkL (Srt.ins l i c)=0↔okLd (Srt.ins l i c):=by unfold chkL;split<;>rename_i h<;>simp only [h]<;>decide
     refine⟨fun h8=> ?_,fun h8=> ?_⟩
     ·rw [openL,if_neg hA,if_neg ht,if_neg (by omega),hp,if_pos (hl0'.1 h8)];exact⟨⟨rfl,_,_,_,rfl⟩,rfl⟩
     ·rw [openL,if_neg hA,if_neg ht,if_neg (by omega),hp,if_neg fun h=>h8 (hl0'.2 h)];exact⟨rfl,rfl⟩⟩
open Go Go.Proofs Go.IntWalk
def cenC (c:Ch) (id:Nat) (paid:Bool):Ch×Nat×Int:=
 if okCh c then(if Srt.thr Hd.key ltN c.holds id=true then
  (⟨c.id,if paid=true then c.loc else c.loc+(c.holds.getD (Srt.pos Hd.key ltN c.holds id) default).n,if paid=true then c.rem+(c.holds.getD (Srt.pos Hd.key ltN c.holds id) default).n else c.rem,c.res,c.most,c.holds.eraseIdx (Srt.pos Hd.key ltN c.holds id),c.op⟩,(c.holds.getD (Srt.pos Hd.key ltN c.holds id) default).n,0)
  else(default,0,5))else(default,0,1)
theorem hds_erase (l:List Hd) (i:Nat):(hds l).eraseIdx i=hds (l.eraseIdx i):=by
 simp [hds,List.eraseIdx_eq_take_drop_succ]
theorem erase_perm {l:List Hd} {q:Nat} {x:Hd} (hq:q<l.length) (hx:l.getD q default=x):l.Perm (x::l.eraseIdx q):=by
 rw [getD_lt hq]at hx
 subst hx
 rw [List.eraseIdx_eq_take_drop_succ]
 conv=>lhs;rw [show l=l.take q++l[q]::l.drop (q+1) by rw [List.getElem_cons_drop,List.take_append_drop]]
 exact List.perm_middle
theorem held_ge {l:List Hd} {q:Nat} (hq:q<l.length):(l.getD q default).n≤held l:=by
 have hpm:=erase_perm hq rfl
 unfold held
 rw [(hpm.map Hd.n).sum_nat,List.map_cons,List.sum_cons]
 exact Nat.le_add_right _ _
attribute [go_sem] Tryz.f133 Tryz.f207 Tryz.f195 Tryz.f236 Tryz.f208
@[go_sem] def c_cfail:Ct Tryz.prog:=⟨133,arg kCh fun c=>arg kU64 fun id=>pu (.tup [.agg [.int .u64 (cenC c id false).1.id, .int .u64 (cenC c id false).1.loc, .int .u64 (cenC c id false).1.rem, .int .u64 (cenC c id false).1.res, .int .u64 (cenC c id false).1.most, .sl (hds (cenC c id false).1.holds), .bool (cenC c id false).1.op], .int .u64 (cenC c id false).2.1, .int .i64 (cenC c id false).2.2]),arg_ok fun c=>arg_ok fun id=>ret_ok fun _=>by
 refine run [c_ccheck,c_hclonef,c_horder,fgC 13] Tryz.f133 lv133 fun hT=>vc ?_
 refine cl hT Tryz.f207 lv207 (vc ?_)
 have hc0:chkC c=0↔okCh c:=by unfold chkC;split<;>rename_i h<;>simp only [h]<;>decide
 refine⟨fun h0=> ?_,fun h0=>by
  have hno:¬okCh c:=fun h=>h0 (hc0.2 h)
  rw [cenC,chkC,if_neg hno,if_neg hno];exact⟨⟨rfl,rfl,rfl,rfl,rfl,rfl,rfl⟩,rfl,rfl⟩⟩
 have hok:=hc0.1 h0
 have hu:Srt.Up Hd.key ltN c.holds:=(Srt.chn_up (lt:=ltN) Srt.totNat).1 hok.2.2.2.2.2.1
 have h64:=hok.2.2.1
 refine cl hT Tryz.f195 lv195 (vc ?_)
 refine fun _=>SWp.loop (ι:={x:Nat×Nat // x.1≤x.2∧x.2≤c.holds.length∧(∀k,k<x.1→(c.holds.getD k default).id<id)∧∀k,x.2≤k→k<c.holds.length→¬(c.holds.getD k default).id<id}) (fun x=>⟨[(0, .sl (hds c.holds)),(1, .c (.int .u64 id)),(2, .fn (.func 196) [] []),(8, .int .i64 c.holds.length),(9, .int .i64 x.1.1),(10, .int .i64 x.1.2)],
  [(3, .box [.c (.int .u64 0), .c (.int .u64 0), .c (.int .u64 0), .c (.int .u64 0), .c (.int .u64 0), .nil, .c (.bool false)]),(2, .box [.c (.int .u64 c.id), .c (.int .u64 c.loc), .c (.int .u64 c.rem), .c (.int .u64 c.res), .c (.int .u64 c.most), .sl (hds c.holds), .c (.bool c.op)]),(1, .box [.c (.int .u64 0), .c (.int .u64 0), .c (.int .u64 0), .c (.int .u64 0), .c (.int .u64 0), .nil, .c (.bool false)]),(0, .box [.c (.int .u64 c.id), .c (.int .u64 c.loc), .c (.int .u64 c.rem), .c (.int .u64 c.res), .c (.int .u64 c.most), .sl (hds c.holds), .c (.bool c.op)])],4⟩) (fun x=>x.1.2 - x.1.1) ⟨(0,c.holds.length),by simp,by simp,fun k hk=>absurd hk (by simp),fun k h1 h2=>absurd h1 (by simpa using h2)⟩ ?_ ?_
 ·simp [go_sem]
 ·rintro⟨⟨i,j⟩,hij,hj,hlo,hup⟩
  dsimp only at hij hj hlo hup
  refine aw hT lv195 (vc ?_)
  rw [mid_eq hij hj ‹_›]
  refine⟨fun h4=> ?_,fun h4=> ?_⟩
  ·have hm:(i+j) / 2<c.holds.length:=by omega
   rw [cmpS_neg,Int.toNat_natCast]
   refine⟨⟨by omega,by omega⟩,fun h5=>⟨⟨((i+j) / 2+1,j),by dsimp only;omega,hj,fun k hk=> ?_,hup⟩,by dsimp only;omega,i64_in _ (by omega),rfl⟩,fun h5=>⟨⟨(i,(i+j) / 2),by dsimp only;omega,by dsimp only;omega,hlo,fun k hk1 hk2=> ?_⟩,by dsimp only;omega,rfl,rfl⟩⟩
   ·dsimp only at hk
    by_cases hkm:k=(i+j) / 2
    ·rw [hkm];omega
    ·have:=Srt.up_get.1 hu k _ (by omega) hm
     simp only [ltN,Hd.key]at this;omega
   ·dsimp only at hk1
    by_cases hkm:k=(i+j) / 2
    ·rw [hkm];omega
    ·have:=Srt.up_get.1 hu ((i+j) / 2) k (by omega) hk2
     simp only [ltN,Hd.key]at this;omega
  ·have hp:Srt.pos Hd.key ltN c.holds id=i:=Srt.pos_eq (by omega) hlo (fun h=>hup i (by omega) h)
   have hth:Srt.thr Hd.key ltN c.holds id=decide (i<c.holds.length∧(c.holds.getD i default).id=id):=by rw [Srt.thr,hp];rfl
   have hno:¬(i<c.holds.length∧(c.holds.getD i default).id=id)→cenC c id false=(default,0,5):=fun h=>by
    rw [cenC,if_pos hok,if_neg (by rw [hth,decide_eq_true_eq];exact h)]
   refine⟨fun h5=>⟨by omega,fun h6=>⟨by omega,by omega, ?_⟩,fun h6=> ?_⟩,fun h5=> ?_⟩
   rotate_left 1
   ·rw [hno fun h=>h6 (cmpS_0.2 (by omega))];exact⟨⟨rfl,rfl,rfl,rfl,rfl,rfl,rfl⟩,rfl,rfl⟩
   ·rw [hno fun h=>h5 (by omega)];exact⟨⟨rfl,rfl,rfl,rfl,rfl,rfl,rfl⟩,rfl,rfl⟩
   have hi':i<c.holds.length:=by omega
   have ht:Srt.thr Hd.key ltN c.holds id=true:=by rw [hth];exact decide_eq_true ⟨hi',by have:=cmpS_0.1 h6;omega⟩
   rw [i64_in _ (by omega)]
   refine ACall.opn 4 rfl (by rw [hds_length];omega) fun cp hc hcm=> ?_
   refine ACall.sld ?_
   rw [hds_length]at hc
   refine cl hT Tryz.f236 lv236 (vc ?_)
   refine fun _=>⟨⟨by omega,by omega,by omega⟩,fun h=>absurd h (by omega),fun _ _=> ?_⟩
   refine dr us236_5 hT (vc ?_)
   have eF:List.take c.holds.length (fit cp 2 (hds c.holds))=hds c.holds:=by rw [fit_take (by rw [hds_length];exact Nat.le_refl _) hc,List.take_of_length_le (by rw [hds_length];exact Nat.le_refl _)]
   have e2:((i:Int)+1).toNat=i+1:=by omega
   rw [eF,e2]
   have hD:((hds c.holds).drop (i+1)).length=c.holds.length - (i+1):=by rw [List.length_drop,hds_length]
   have e3:((i:Int)+(((hds c.holds).drop (i+1)).length:Int)).toNat=i+((hds c.holds).drop (i+1)).length:=by omega
   simp only [e3]
   have hE:∀Z:List (List C),(fit cp 2 ((fit cp 2 ((fit cp 2 (hds c.holds)).take i++((hds c.holds).drop (i+1)++(fit cp 2 (hds c.holds)).drop (i+((hds c.holds).drop (i+1)).length)))).take (i+((hds c.holds).drop (i+1)).length)++Z)).take (i+((hds c.holds).drop (i+1)).length)=hds (c.holds.eraseIdx i):=fun Z=>by
    rw [del_old (by rw [hds_length];exact hi') (by rw [hds_length];exact hc),hds_erase]
   rw [hE,hD]
   have hl1:i+(c.holds.length - (i+1))=(c.holds.eraseIdx i).length:=by rw [List.length_eraseIdx_of_lt hi'];omega
   rw [hl1]
   have hl2:(c.holds.eraseIdx i).length=c.holds.length - 1:=List.length_eraseIdx_of_lt hi'
   refine⟨by omega,⟨by omega,by omega⟩,⟨fun x hx=>(of_eq_true (hds_wide c.holds)) x (List.mem_of_mem_drop hx),by omega⟩,fun _=>⟨⟨by omega,by omega,by omega⟩, ?_⟩⟩
   refine cl hT Tryz.f208 lv208 (vc ?_)
   have ec:cenC c id false=(⟨c.id,if(false:Bool)=true then c.loc else c.loc+(c.holds.getD i default).n,if(false:Bool)=true then c.rem+(c.holds.getD i default).n else c.rem,c.res,c.most,c.holds.eraseIdx i,c.op⟩,(c.holds.getD i default).n,0):=by
    rw [cenC,if_pos hok,if_pos ht,hp]
   have hge:=held_ge hi'
   have hsum:=hok.2.2.2.2.2.2.2.2.2
   unfold MM at hsum
   rw [ec]
   dsimp only
   rw [if_neg (by decide),if_neg (by decide),u64_in _ (by omega)]
   exact⟨⟨rfl,by omega,by omega,rfl,rfl,⟨rfl,_,_,_,rfl⟩,rfl⟩,rfl,rfl⟩⟩
attribute [go_sem] Tryz.f134 Tryz.f209
@[go_sem] def c_csettle:Ct Tryz.prog:=⟨134,arg kCh fun c=>arg kU64 fun id=>pu (.tup [.agg [.int .u64 (cenC c id true).1.id, .int .u64 (cenC c id true).1.loc, .int .u64 (cenC c id true).1.rem, .int .u64 (cenC c id true).1.res, .int .u64 (cenC c id true).1.most, .sl (hds (cenC c id true).1.holds), .bool (cenC c id true).1.op], .int .u64 (cenC c id true).2.1, .int .i64 (cenC c id true).2.2]),arg_ok fun c=>arg_ok fun id=>ret_ok fun _=>by
 refine run [c_ccheck,c_hclonef,c_horder,fgC 13] Tryz.f134 lv134 fun hT=>vc ?_
 refine cl hT Tryz.f207 lv207 (vc ?_)
 have hc0:chkC c=0↔okCh c:=by unfold chkC;split<;>rename_i h<;>simp only [h]<;>decide
 refine⟨fun h0=> ?_,fun h0=>by
  have hno:¬okCh c:=fun h=>h0 (hc0.2 h)
  rw [cenC,chkC,if_neg hno,if_neg hno];exact⟨⟨rfl,rfl,rfl,rfl,rfl,rfl,rfl⟩,rfl,rfl⟩⟩
 have hok:=hc0.1 h0
 have hu:Srt.Up Hd.key ltN c.holds:=(Srt.chn_up (lt:=ltN) Srt.totNat).1 hok.2.2.2.2.2.1
 have h64:=hok.2.2.1
 refine cl hT Tryz.f195 lv195 (vc ?_)
 refine fun _=>SWp.loop (ι:={x:Nat×Nat // x.1≤x.2∧x.2≤c.holds.length∧(∀k,k<x.1→(c.holds.getD k default).id<id)∧∀k,x.2≤k→k<c.holds.length→¬(c.holds.getD k default).id<id}) (fun x=>⟨[(0, .sl (hds c.holds)),(1, .c (.int .u64 id)),(2, .fn (.func 196) [] []),(8, .int .i64 c.holds.length),(9, .int .i64 x.1.1),(10, .int .i64 x.1.2)],
  [(3, .box [.c (.int .u64 0), .c (.int .u64 0), .c (.int .u64 0), .c (.int .u64 0), .c (.int .u64 0), .nil, .c (.bool false)]),(2, .box [.c (.int .u64 c.id), .c (.int .u64 c.loc), .c (.int .u64 c.rem), .c (.int .u64 c.res), .c (.int .u64 c.most), .sl (hds c.holds), .c (.bool c.op)]),(1, .box [.c (.int .u64 0), .c (.int .u64 0), .c (.int .u64 0), .c (.int .u64 0), .c (.int .u64 0), .nil, .c (.bool false)]),(0, .box [.c (.int .u64 c.id), .c (.int .u64 c.loc), .c (.int .u64 c.rem), .c (.int .u64 c.res), .c (.int .u64 c.most), .sl (hds c.holds), .c (.bool c.op)])],4⟩) (fun x=>x.1.2 - x.1.1) ⟨(0,c.holds.length),by simp,by simp,fun k hk=>absurd hk (by simp),fun k h1 h2=>absurd h1 (by simpa using h2)⟩ ?_ ?_
 ·simp [go_sem]
 ·rintro⟨⟨i,j⟩,hij,hj,hlo,hup⟩
  dsimp only at hij hj hlo hup
  refine aw hT lv195 (vc ?_)
  rw [mid_eq hij hj ‹_›]
  refine⟨fun h4=> ?_,fun h4=> ?_⟩
  ·have hm:(i+j) / 2<c.holds.length:=by omega
   rw [cmpS_neg,Int.toNat_natCast]
   refine⟨⟨by omega,by omega⟩,fun h5=>⟨⟨((i+j) / 2+1,j),by dsimp only;omega,hj,fun k hk=> ?_,hup⟩,by dsimp only;omega,i64_in _ (by omega),rfl⟩,fun h5=>⟨⟨(i,(i+j) / 2),by dsimp only;omega,by dsimp only;omega,hlo,fun k hk1 hk2=> ?_⟩,by dsimp only;omega,rfl,rfl⟩⟩
   ·dsimp only at hk
    by_cases hkm:k=(i+j) / 2
    ·rw [hkm];omega
    ·have:=Srt.up_get.1 hu k _ (by omega) hm
     simp only [ltN,Hd.key]at this;omega
   ·dsimp only at hk1
    by_cases hkm:k=(i+j) / 2
    ·rw [hkm];omega
    ·have:=Srt.up_get.1 hu ((i+j) / 2) k (by omega) hk2
     simp only [ltN,Hd.key]at this;omega
  ·have hp:Srt.pos Hd.key ltN c.holds id=i:=Srt.pos_eq (by omega) hlo (fun h=>hup i (by omega) h)
   have hth:Srt.thr Hd.key ltN c.holds id=decide (i<c.holds.length∧(c.holds.getD i default).id=id):=by rw [Srt.thr,hp];rfl
   have hno:¬(i<c.holds.length∧(c.holds.getD i default).id=id)→cenC c id true=(default,0,5):=fun h=>by
    rw [cenC,if_pos hok,if_neg (by rw [hth,decide_eq_true_eq];exact h)]
   refine⟨fun h5=>⟨by omega,fun h6=>⟨by omega,by omega, ?_⟩,fun h6=> ?_⟩,fun h5=> ?_⟩
   rotate_left 1
   ·rw [hno fun h=>h6 (cmpS_0.2 (by omega))];exact⟨⟨rfl,rfl,rfl,rfl,rfl,rfl,rfl⟩,rfl,rfl⟩
   ·rw [hno fun h=>h5 (by omega)];exact⟨⟨rfl,rfl,rfl,rfl,rfl,rfl,rfl⟩,rfl,rfl⟩
   have hi':i<c.holds.length:=by omega
   have ht:Srt.thr Hd.key ltN c.holds id=true:=by rw [hth];exact decide_eq_true ⟨hi',by have:=cmpS_0.1 h6;omega⟩
   rw [i64_in _ (by omega)]
   refine ACall.opn 4 rfl (by rw [hds_length];omega) fun cp hc hcm=> ?_
   refine ACall.sld ?_
   rw [hds_length]at hc
   refine cl hT Tryz.f236 lv236 (vc ?_)
   refine fun _=>⟨⟨by omega,by omega,by omega⟩,fun h=>absurd h (by omega),fun _ _=> ?_⟩
   refine dr us236_5 hT (vc ?_)
   have eF:List.take c.holds.length (fit cp 2 (hds c.holds))=hds c.holds:=by rw [fit_take (by rw [hds_length];exact Nat.le_refl _) hc,List.take_of_length_le (by rw [hds_length];exact Nat.le_refl _)]
   have e2:((i:Int)+1).toNat=i+1:=by omega
   rw [eF,e2]
   have hD:((hds c.holds).drop (i+1)).length=c.holds.length - (i+1):=by rw [List.length_drop,hds_length]
   have e3:((i:Int)+(((hds c.holds).drop (i+1)).length:Int)).toNat=i+((hds c.holds).drop (i+1)).length:=by omega
   simp only [e3]
   have hE:∀Z:List (List C),(fit cp 2 ((fit cp 2 ((fit cp 2 (hds c.holds)).take i++((hds c.holds).drop (i+1)++(fit cp 2 (hds c.holds)).drop (i+((hds c.holds).drop (i+1)).length)))).take (i+((hds c.holds).drop (i+1)).length)++Z)).take (i+((hds c.holds).drop (i+1)).length)=hds (c.holds.eraseIdx i):=fun Z=>by
    rw [del_old (by rw [hds_length];exact hi') (by rw [hds_length];exact hc),hds_erase]
   rw [hE,hD]
   have hl1:i+(c.holds.length - (i+1))=(c.holds.eraseIdx i).length:=by rw [List.length_eraseIdx_of_lt hi'];omega
   rw [hl1]
   have hl2:(c.holds.eraseIdx i).length=c.holds.length - 1:=List.length_eraseIdx_of_lt hi'
   refine⟨by omega,⟨by omega,by omega⟩,⟨fun x hx=>(of_eq_true (hds_wide c.holds)) x (List.mem_of_mem_drop hx),by omega⟩,fun _=>⟨⟨by omega,by omega,by omega⟩, ?_⟩⟩
   refine cl hT Tryz.f209 lv209 (vc ?_)
   have ec:cenC c id true=(⟨c.id,if(true:Bool)=true then c.loc else c.loc+(c.holds.getD i default).n,if(true:Bool)=true then c.rem+(c.holds.getD i default).n else c.rem,c.res,c.most,c.holds.eraseIdx i,c.op⟩,(c.holds.getD i default).n,0):=by
    rw [cenC,if_pos hok,if_pos ht,hp]
   have hge:=held_ge hi'
   have hsum:=hok.2.2.2.2.2.2.2.2.2
   unfold MM at hsum
   rw [ec]
   dsimp only
   rw [if_pos (by decide),if_pos (by decide),u64_in _ (by omega)]
   exact⟨⟨rfl,by omega,by omega,rfl,rfl,⟨rfl,_,_,_,rfl⟩,rfl⟩,rfl,rfl⟩⟩
open Go Go.Proofs Go.IntWalk
theorem thr_at {α κ:Type} [Inhabited α] [DecidableEq κ] {key:α→κ} {lt:κ→κ→Prop} [DecidableRel lt] {l:List α} {k:κ} (h:Srt.thr key lt l k=true):Srt.pos key lt l k<l.length∧key (l.getD (Srt.pos key lt l k) default)=k:=by
 unfold Srt.thr at h;exact of_decide_eq_true h
theorem hm_in:∀{l:List Ch} {s:Int} {k:Nat} {a:Int},(k,a)∈hm s l→∃i:Nat,i<l.length∧a=s+i∧∃x∈(l.getD i default).holds,x.id=k
 |[],_,_,_,h=>absurd h (by simp [hm])
 |c::l,s,k,a,h=>by
  rw [hm,List.mem_append]at h
  rcases h with h|h
  ·obtain⟨x,hx,he⟩:=List.mem_map.1 h
   rw [Prod.mk.injEq]at he
   exact⟨0,by simp,by rw [←he.2];simp,x,by simpa using hx,he.1⟩
  ·obtain⟨i,hi,ha,x,hx,hk⟩:=hm_in h
   exact⟨i+1,by simpa using hi,by omega,x,by simpa using hx,hk⟩
theorem where_at {l:List Ch} {h:Nat} (h0:(whereI l h).2=0):okLd l∧∃c∈l,(whereI l h).1=c.id∧∃x∈c.holds,x.id=h:=by
 unfold whereI at h0⊢
 split at h0
 ·rename_i hok
  rw [if_pos hok]
  refine⟨hok, ?_⟩
  split at h0
  ·rename_i a ha
   have hnd:((hm 0 l).map (·.1)).Nodup:=by rw [hm_keys];exact hok.2.2.2.1
   obtain⟨i,hi,rfl,x,hx,hk⟩:=hm_in ((nlk_some hnd).1 ha)
   refine⟨l.getD i default,mem_getD.2 ⟨i,hi,rfl⟩, ?_,x,hx,hk⟩
   simp only [ha]
   rw [show((0:Int)+(i:Int)).toNat=i by omega]
  ·cases h0
 ·cases h0
theorem cen_at {c:Ch} {h:Nat} {paid:Bool} {x:Hd} (hok:okCh c) (hx:x∈c.holds) (hk:x.id=h):∃q,q=Srt.pos Hd.key ltN c.holds h∧q<c.holds.length∧c.holds.getD q default=x∧
 cenC c h paid=(⟨c.id,if paid=true then c.loc else c.loc+x.n,if paid=true then c.rem+x.n else c.rem,c.res,c.most,c.holds.eraseIdx q,c.op⟩,x.n,0):=by
 have hu:Srt.Up Hd.key ltN c.holds:=(Srt.chn_up (lt:=ltN) Srt.totNat).1 hok.2.2.2.2.2.1
 have ht:Srt.thr Hd.key ltN c.holds h=true:=(Srt.thr_iff Srt.totNat hu).2 ⟨x,hx,hk⟩
 obtain⟨h1,h2⟩:=thr_at ht
 have h3:=Srt.up_inj (key:=Hd.key) (lt:=ltN) Srt.totNat hu (mem_getD.2 ⟨_,h1,rfl⟩) hx (h2.trans hk.symm)
 refine⟨_,rfl,h1,h3, ?_⟩
 rw [cenC,if_pos hok,if_pos ht,h3]
theorem place_at {l:List Ch} {c:Ch} (hok:okLd l) (hc:c∈l):∃p:Nat,p=Srt.pos Ch.id ltN l c.id∧p<l.length∧l.getD p default=c∧placeL l c.id=((p:Int),0):=by
 have hu:Srt.Up Ch.id ltN l:=(Srt.chn_up (lt:=ltN) Srt.totNat).1 hok.2.2.1
 have ht:Srt.thr Ch.id ltN l c.id=true:=(Srt.thr_iff Srt.totNat hu).2 ⟨c,hc,rfl⟩
 obtain⟨h1,h2⟩:=thr_at ht
 have h3:=Srt.up_inj (key:=Ch.id) (lt:=ltN) Srt.totNat hu (mem_getD.2 ⟨_,h1,rfl⟩) hc h2
 exact⟨_,rfl,h1,h3,by rw [placeL,if_pos hok,if_pos ht]⟩
def lendL (l:List Ch) (h:Nat) (paid:Bool):List Ch×Nat×Int:=
 if(whereI l h).2=0 then(if(placeL l (whereI l h).1).2=0 then(if(cenC (l.getD (placeL l (whereI l h).1).1.toNat default) h paid).2.2=0 then(l.set (placeL l (whereI l h).1).1.toNat (cenC (l.getD (placeL l (whereI l h).1).1.toNat default) h paid).1,(cenC (l.getD (placeL l (whereI l h).1).1.toNat default) h paid).2.1,0)else([],0,(cenC (l.getD (placeL l (whereI l h).1).1.toNat default) h paid).2.2))else([],0,(placeL l (whereI l h).1).2))else([],0,(whereI l h).2)
attribute [go_sem] Tryz.f56 Tryz.f114 Tryz.f132
@[go_sem] def c_lendc:Ct Tryz.prog:=⟨56,arg kChs fun l=>arg kU64 fun h=>arg kBool fun paid=>pu (.tup [.sl (chs (lendL l h paid).1), .int .u64 ((lendL l h paid).2.1:Int), .int .i64 (lendL l h paid).2.2]),arg_ok fun l=>arg_ok fun h=>arg_ok fun paid=>ret_ok fun _=>by
 refine run [c_lwhere,c_place,c_cfail,c_csettle,c_owns] Tryz.f56 lv56 fun hT=>vc ?_
 refine⟨fun hw=> ?_,fun hw=>by rw [lendL,if_neg hw];exact⟨rfl,rfl,rfl⟩⟩
 rw [lendL,if_pos hw]
 obtain⟨hok,c,hc,hwc,x,hx,hk⟩:=where_at hw
 rw [hwc]
 obtain⟨p,hpp,hp,hpc,ep⟩:=place_at hok hc
 have hcc:=hok.2.1 c hc
 rw [ep]
 dsimp only
 rw [if_pos rfl,Int.toNat_natCast,hpc]
 have e2:(cenC c h paid).2.2=0:=by
  obtain⟨q,_,_,_,e⟩:=cen_at (paid:=paid) hcc hx hk
  rw [e]
 rw [if_pos e2]
 refine cl hT Tryz.f114 lv114 (vc ?_)
 rw [ep]
 refine⟨fun _=>⟨⟨by omega,by omega⟩, ?_⟩,fun h=>absurd rfl h⟩
 refine cl hT Tryz.f132 lv132 (vc ?_)
 rw [hpc]
 have h32:l.length≤1000000∧∀c∈l,c.holds.length≤1000000:=⟨by have:=hok.1;omega,fun c hc=>by have:=(hok.2.1 c hc).2.2.1;omega⟩
 refine⟨fun hpd=> ?_,fun hpd=> ?_⟩
 ·subst hpd
  refine⟨fun _=>⟨h32,by omega,hp, ?_⟩,fun h=>absurd e2 h⟩
  refine dr us56_5 hT (vc ?_)
  exact⟨_,_,_,rfl⟩
 ·subst hpd
  refine⟨fun _=>⟨h32,by omega,hp, ?_⟩,fun h=>absurd e2 h⟩
  refine dr us56_5 hT (vc ?_)
  exact⟨_,_,_,rfl⟩⟩
open Go Go.Proofs Go.IntWalk
theorem pend_len {l:List Py} {id:Nat} {paid:Bool} (h:(pendL l id paid).2=0):(pendL l id paid).1.length≤256:=by
 unfold pendL at h⊢
 split at h
 ·rename_i h1
  split at h
  ·rename_i h2
   split at h
   ·rename_i h3
    rw [if_pos h1,if_pos h2,if_pos h3,List.length_set];exact h1.1
   ·cases h
  ·cases h
 ·cases h
theorem cen_ok {c:Ch} {h:Nat} {paid:Bool} {x:Hd} (hok:okCh c) (hx:x∈c.holds) (hk:x.id=h):okCh (cenC c h paid).1∧allC (cenC c h paid).1=allC c∧(cenC c h paid).1.id=c.id∧c.holds.Perm (x::(cenC c h paid).1.holds):=by
 obtain⟨q,hq,hl,hg,e⟩:=cen_at (paid:=paid) hok hx hk
 have hpm:=erase_perm hl hg
 obtain⟨o1,o2,o3,o4,o5,o6,o7,o8,o9,o10⟩:=hok
 have hok:okCh c:=⟨o1,o2,o3,o4,o5,o6,o7,o8,o9,o10⟩
 have hh:held c.holds=x.n+held (c.holds.eraseIdx q):=by
  unfold held
  rw [(hpm.map Hd.n).sum_nat,List.map_cons,List.sum_cons]
 have hop:¬c.op=false:=fun h=>by rw [o4 h]at hx;cases hx
 rw [e]
 dsimp only
 have hok2:okCh (⟨c.id,if paid=true then c.loc else c.loc+x.n,if paid=true then c.rem+x.n else c.rem,c.res,c.most,c.holds.eraseIdx q,c.op⟩:Ch):=by
  refine⟨o1,o2, ?_,fun h=>absurd h hop,fun y hy=>o5 y (List.mem_of_mem_eraseIdx hy),(Srt.chn_up (lt:=ltN) Srt.totNat).2 ?_, ?_, ?_, ?_, ?_⟩
  ·show(c.holds.eraseIdx q).length≤64
   rw [List.length_eraseIdx_of_lt hl];omega
  ·exact List.Pairwise.sublist (List.eraseIdx_sublist _ _) ((Srt.chn_up (lt:=ltN) Srt.totNat).1 o6)
  ·show held (c.holds.eraseIdx q)≤c.most;omega
  ·show(if paid=true then c.loc else c.loc+x.n)≤MM
   unfold MM at*;split<;>omega
  ·show(if paid=true then c.rem+x.n else c.rem)≤MM
   unfold MM at*;split<;>omega
  ·show held (c.holds.eraseIdx q)+(if paid=true then c.loc else c.loc+x.n)+(if paid=true then c.rem+x.n else c.rem)≤MM
   unfold MM at*;split<;>omega
 refine⟨hok2, ?_,rfl,hpm⟩
 unfold allC sumsC
 rw [if_pos hok2,if_pos hok]
 show held (c.holds.eraseIdx q)+(if paid=true then c.loc else c.loc+x.n)+(if paid=true then c.rem+x.n else c.rem)=held c.holds+c.loc+c.rem
 split<;>omega
theorem lend_at {l:List Ch} {h:Nat} (paid:Bool) (h0:(whereI l h).2=0):okLd l∧∃c∈l,∃x∈c.holds,x.id=h∧∃p,p<l.length∧p=Srt.pos Ch.id ltN l c.id∧l.getD p default=c∧okCh c∧lendL l h paid=(l.set p (cenC c h paid).1,x.n,0):=by
 obtain⟨hok,c,hc,hw,x,hx,hk⟩:=where_at h0
 obtain⟨p,hp,hpl,hpc,e⟩:=place_at hok hc
 have hcc:=hok.2.1 c hc
 obtain⟨q,_,_,_,e2⟩:=cen_at (paid:=paid) hcc hx hk
 refine⟨hok,c,hc,x,hx,hk,p,hpl,hp,hpc,hcc, ?_⟩
 have e3:(placeL l c.id).1.toNat=p:=by rw [e];rfl
 rw [lendL,if_pos h0,hw,if_pos (by rw [e]),e3,hpc,if_pos (by rw [e2])]
 rw [e2]
theorem lend_0 {l:List Ch} {h:Nat} {paid:Bool}:(lendL l h paid).2.2=0↔(whereI l h).2=0:=by
 refine⟨fun h0=>Decidable.byContradiction fun hn=> ?_,fun h0=> ?_⟩
 ·rw [lendL,if_neg hn]at h0;exact hn h0
 ·obtain⟨_,c,_,x,_,_,p,_,_,_,_,e⟩:=lend_at paid h0
  rw [e]
theorem set_set_self {l:List Ch} {p:Nat} {d:Ch} (hp:p<l.length):(l.set p d).set p (l.getD p default)=l:=by
 rw [List.set_set,getD_lt hp];exact List.set_getElem_self hp
theorem lend_all {l:List Ch} {h:Nat} {paid:Bool} (h0:(lendL l h paid).2.2=0):okLd l∧okLd (lendL l h paid).1∧totL (lendL l h paid).1=totL l∧∃c∈l,∃x∈c.holds,x.id=h∧(lendL l h paid).2.1=x.n∧(hlL l).Perm ((c.id,h,x.n)::hlL (lendL l h paid).1)∧(hidL l).Perm (h::hidL (lendL l h paid).1):=by
 obtain⟨hok,c,hc,x,hx,hk,p,hp,hpp,hpc,hcc,e⟩:=lend_at paid (lend_0.1 h0)
 obtain⟨c1,c2,c3,c4⟩:=cen_ok (paid:=paid) hcc hx hk
 have hu:Srt.Up Ch.id ltN l:=(Srt.chn_up (lt:=ltN) Srt.totNat).1 hok.2.2.1
 rw [e]
 dsimp only
 generalize (cenC c h paid).1=d at*
 have hpl:p<(l.set p d).length:=by rw [List.length_set];exact hp
 have hgd:(l.set p d).getD p default=d:=by rw [Srt.set_getD hp,if_pos rfl]
 have hss:=set_set_self (d:=d) hp
 rw [hpc]at hss
 have hh:=hlL_set (l:=l.set p d) (p:=p) (d:=c) (x:=x) hpl (by rw [hgd];exact c3.symm) (by rw [hgd];exact c4)
 have hi:=hidL_set (l:=l.set p d) (p:=p) (d:=c) (x:=x) hpl (by rw [hgd];exact c4)
 rw [hss]at hh hi
 rw [hk]at hh hi
 have ht:=totL_set (l:=l) (p:=p) (d:=d) hp (by rw [hpc];exact c2)
 refine⟨hok,⟨by rw [List.length_set];exact hok.1,fun y hy=> ?_, ?_, ?_,by rw [ht];exact hok.2.2.2.2⟩,ht,c,hc,x,hx,hk,rfl,hh,hi⟩
 ·rcases List.mem_or_eq_of_mem_set hy with h|rfl
  ·exact hok.2.1 y h
  ·exact c1
 ·exact(Srt.chn_up (lt:=ltN) Srt.totNat).2 (Srt.set_up hu hp (by rw [hpc];exact c3))
 ·have:=hok.2.2.2.1
  rw [hi.nodup_iff,List.nodup_cons]at this
  exact this.2
theorem lend_fine {l:List Ch} {h:Nat} {paid:Bool} (h0:((lendL l h paid).1,(lendL l h paid).2.2).2=0):okLd (lendL l h paid).1:=(lend_all h0).2.1
open Go Go.Proofs Go.IntWalk
theorem mem_pend {l:List Py} {q:Py}:q∈pend l↔q∈l∧q.state=1:=by
 unfold pend;rw [List.mem_filter,decide_eq_true_eq]
end Dm
