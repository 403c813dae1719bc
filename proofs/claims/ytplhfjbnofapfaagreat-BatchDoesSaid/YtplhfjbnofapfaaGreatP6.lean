import Derived.Test.YtplhfjbnofapfaaGreatP5
import Derived.Ground.NamesProg
import Derived.Lib.ItoaNum
import Derived.Shelf.Bits.Mul64
import Derived.Shelf.Small.Bits
set_option linter.unusedSimpArgs false
set_option linter.unusedVariables false
set_option linter.unusedSectionVars false
set_option linter.defProp false
set_option maxRecDepth 20000
set_option maxHeartbeats 4000000
noncomputable section
namespace Dm
open Go Go.Proofs Go.IntWalk
structure It where
 hash:Nat
 n:Nat
deriving DecidableEq,Inhabited
@[go_sem] def It.enc (e:It):List C:=[.int .u64 (e.hash:Int), .int .u64 (e.n:Int)]
@[go_sem] def It.dec:List C→It
 |[.int .u64 z84, .int .u64 z85]=>(⟨z84.toNat,z85.toNat⟩:It)
 |_=>default
def its (l:List It):List (List C):=l.map It.enc
def dits (l:List (List C)):List It:=l.map It.dec
abbrev kIts:=kSl its dits
@[simp,go_sem] theorem its_length (l:List It):(its l).length=l.length:=by simp [its]
@[go_sem] theorem its_get (l:List It) (i:Nat):(its l).getD i [.int .u64 0, .int .u64 0]=(l.getD i default).enc:=by
 simp only [its,List.getD_eq_getElem?_getD,List.getElem?_map]
 cases l[i]? <;>rfl
@[go_sem] theorem its_wide (l:List It):Wide 2 (its l)=True:=by
 simp [Wide,its,It.enc]
theorem It.dec_enc (e:It):It.dec e.enc=e:=by
 simp [It.enc,It.dec]
@[go_sem] theorem dits_its (l:List It):dits (its l)=l:=by
 simp only [dits,its,List.map_map]
 exact List.map_id'' (fun e=>It.dec_enc e) l
@[go_sem] theorem its_app (a b:List It):its a++its b=its (a++b):=by simp [its]
@[go_sem] theorem its_drop (l:List It) (k:Nat):(its l).drop k=its (l.drop k):=by simp [its]
@[go_sem] theorem its_take (l:List It) (k:Nat):(its l).take k=its (l.take k):=by simp [its]
@[go_sem] theorem its_one (z86:Int) (z87:Int) (hz86:0≤z86) (hz87:0≤z87):[[C.int .u64 z86,C.int .u64 z87]]=its [⟨z86.toNat,z87.toNat⟩]:=by simp [its,It.enc,Int.toNat_of_nonneg hz86,Int.toNat_of_nonneg hz87]
@[go_sem] theorem its_set (l:List It) (i:Nat) (z86:Int) (z87:Int) (hz86:0≤z86) (hz87:0≤z87):(its l).set i [C.int .u64 z86,C.int .u64 z87]=its (l.set i ⟨z86.toNat,z87.toNat⟩):=by simp [its,List.map_set,It.enc,Int.toNat_of_nonneg hz86,Int.toNat_of_nonneg hz87]
@[go_sem] theorem its_cons (l:List It) (z86:Int) (z87:Int) (hz86:0≤z86) (hz87:0≤z87):[C.int .u64 z86,C.int .u64 z87]::its l=its (⟨z86.toNat,z87.toNat⟩::l):=by simp [its,It.enc,Int.toNat_of_nonneg hz86,Int.toNat_of_nonneg hz87]
@[go_sem] theorem its_flat (l:List It):flatE (its l)=True:=eq_true fun x hx c hc=>by
 obtain⟨e,_,rfl⟩:=List.mem_map.1 hx
 simp only [It.enc,List.mem_cons,List.not_mem_nil,or_false]at hc
 rcases hc with rfl|rfl<;>rfl
@[go_sem] theorem It.eta {e:It}:(⟨e.hash,e.n⟩:It)=e:=rfl
@[go_sem] theorem It.eqD {a b:It}:eqD Tryz.prog 55 [D.c (.int .u64 (a.hash:Int)),D.c (.int .u64 (a.n:Int))] [D.c (.int .u64 (b.hash:Int)),D.c (.int .u64 (b.n:Int))]=some (decide (a=b)):=by
 cases a;cases b
 simp only [Dm.eqD,eqOf_55,eqCells,eqC,List.getElem?_cons_zero,List.getElem?_cons_succ,if_true,Option.some.injEq,It.mk.injEq]
 rw [Bool.eq_iff_iff]
 simp [Int.ofNat_inj]
def okIt (x:It):Prop:=x.n≠0∧x.n≤MM
instance (x:It):Decidable (okIt x):=by unfold okIt;infer_instance
def totI (l:List It):Nat:=(l.map It.n).sum
def sumB (l:List It):Nat×Int:=if l.length≠0∧l.length≤16∧∀x∈l,okIt x then(if totI l≤MM then(totI l,0)else(0,8))else(0,1)
theorem totI_succ {l:List It} {i:Nat} (h:i<l.length):totI (l.take (i+1))=totI (l.take i)+(l.getD i default).n:=by
 rw [take_succ h,totI,List.map_append,List.sum_append];simp [totI]
theorem totI_le {l:List It} {i:Nat}:totI (l.take i)≤totI l:=by
 conv=>rhs;rw [←List.take_append_drop i l,totI,List.map_append,List.sum_append]
 exact Nat.le_add_right _ _
attribute [go_sem] Tryz.f7 Tryz.f22 Tryz.f45 Tryz.f20
@[go_sem] def c_bsum:Ct Tryz.prog:=⟨7,arg kIts fun l=>pu (.tup [.int .u64 ((sumB l).1:Int), .int .i64 (sumB l).2]),arg_ok fun l=>ret_ok fun _=>by
 refine run [c_moncheck,c_monadd] Tryz.f7 lv7 fun hT=>vc ?_
 have hbad:¬(l.length≠0∧l.length≤16∧∀x∈l,okIt x)→0=((sumB l).1:Int)∧1=(sumB l).2:=fun h=>by rw [sumB,if_neg h];exact⟨rfl,rfl⟩
 refine fun _=>⟨fun h1 _=>⟨fun h2=> ?_,fun h2=>hbad fun h=>by omega⟩,fun h1=>hbad fun h=>by omega⟩
 refine cl hT Tryz.f22 lv22 (vc ?_)
 refine cl hT Tryz.f45 lv45 (vc ?_)
 refine fun _=>SWp.loop (ι:={i:Nat // i≤l.length∧∀j,j<i→okIt (l.getD j default)}) (fun i=>⟨[(0, .sl (its l)),(1, .fn (.func 20) [] []),(7, .int .i64 l.length),(8, .int .i64 i.1)],[],0⟩) (fun i=>l.length - i.1) ⟨0,by simp⟩ ?_ ?_
 ·simp [go_sem]
 ·rintro⟨i,hi,hall⟩
  refine aw hT lv45 (vc ?_)
  refine⟨fun h4=>⟨by omega, ?_⟩,fun h4=> ?_⟩
  ·skip
   refine cl hT Tryz.f20 lv20 (vc ?_)
   have hi':i<l.length:=by omega
   have hin:=mem_getD.2 ⟨i,hi',rfl⟩
   rw [mon1_0]
   refine⟨fun h5=>⟨fun h6=>⟨⟨i+1,by omega,fun j hj=> ?_⟩,by dsimp only;omega,i64_in _ (by omega)⟩,fun h6=>hbad fun h=>h6 (h.2.2 _ hin).2⟩,fun h5=>hbad fun h=>(h.2.2 _ hin).1 (by omega)⟩
   by_cases hji:j=i
   ·subst hji;exact⟨by omega,h6⟩
   ·exact hall j (by omega)
  ·have hi':i=l.length:=by omega
   subst hi'
   have hok:∀x∈l,okIt x:=fun x hx=>by obtain⟨j,hj,rfl⟩:=mem_getD.1 hx;exact hall j hj
   have hsum:sumB l=if totI l≤MM then(totI l,0)else(0,8):=by rw [sumB,if_pos ⟨by omega,by omega,hok⟩]
   refine⟨fun h=>h.elim,fun _=>SWp.loop (ι:={i:Nat // i≤l.length∧totI (l.take i)≤MM}) (fun i=>⟨[(2, .int .u64 (totI (l.take i.1):Nat)),(20, .sl (its l)),(21, .int .i64 l.length),(22, .int .i64 i.1)],[],0⟩) (fun i=>l.length - i.1) ⟨0,by simp [totI]⟩ ?_ ?_⟩
   ·simp [go_sem,totI]
   ·rintro⟨i,hi,hs⟩
    refine aw hT lv7 (vc ?_)
    unfold MM at*
    refine⟨fun h5=>⟨by omega,fun h6=> ?_,fun h6=> ?_⟩,fun h5=> ?_⟩
    ·have hi':i<l.length:=by omega
     have h7:=addM_1 h6
     have h8:=(addM_0.1 h6).2
     simp only [List.sum_cons,List.sum_nil,Nat.add_zero]at h7 h8
     refine⟨⟨i+1,hi',by rw [totI_succ hi'];exact h8⟩,by dsimp only;omega, ?_,i64_in _ (by omega)⟩
     rw [h7];dsimp only;rw [totI_succ hi']
    ·have hi':i<l.length:=by omega
     have hn:=(hok _ (mem_getD.2 ⟨i,hi',rfl⟩)).2
     unfold MM at hn
     have hle:=totI_le (l:=l) (i:=i+1)
     rw [totI_succ hi']at hle
     have h7:addM [totI (l.take i),(l.getD i default).n]=(0,8):=by
      have hm:monS [totI (l.take i),(l.getD i default).n]=0:=by rw [mon2,if_pos ⟨hs,hn⟩]
      have hns:¬[totI (l.take i),(l.getD i default).n].sum≤4611686018427387904:=fun h=>h6 (addM_0.2 ⟨fun x hx=>by
       simp only [List.mem_cons,List.not_mem_nil,or_false]at hx
       rcases hx with rfl|rfl
       ·exact hs
       ·exact hn,h⟩)
      rw [addM,if_pos hm,if_neg hns]
     have h8:¬totI l≤4611686018427387904:=fun h=>h6 (addM_0.2 ⟨fun x hx=>by
      simp only [List.mem_cons,List.not_mem_nil,or_false]at hx
      rcases hx with rfl|rfl
      ·exact hs
      ·exact hn,by simp only [List.sum_cons,List.sum_nil,Nat.add_zero];omega⟩)
     rw [h7,hsum,if_neg h8];exact⟨rfl,rfl⟩
    ·have hi':i=l.length:=by omega
     subst hi'
     rw [List.take_length]at hs⊢
     rw [hsum,if_pos hs];exact⟨rfl,rfl⟩⟩
def payB:Wl→List It→Wl×List Nat×Nat×Int
 |w,[]=>(w,[],0,0)
 |w,x::l=>if(payW w x.hash x.n).2.2=0 then(let r:=payB (payW w x.hash x.n).1 l;if r.2.2.2=0 then(r.1,(payW w x.hash x.n).2.1::r.2.1,0,0)else(zeroW,[],r.2.2.1+1,r.2.2.2))else(zeroW,[],0,(payW w x.hash x.n).2.2)
def batW (w:Wl) (l:List It):Wl×List Nat×Nat×Int:=if(sumB l).2=0 then payB w l else(zeroW,[],0,(sumB l).2)
def seqW:Wl→List It→Wl
 |w,[]=>w
 |w,x::l=>seqW (payW w x.hash x.n).1 l
def seqI:Wl→List It→List Nat
 |_,[]=>[]
 |w,x::l=>(payW w x.hash x.n).2.1::seqI (payW w x.hash x.n).1 l
def seqOk:Wl→List It→Prop
 |_,[]=>True
 |w,x::l=>(payW w x.hash x.n).2.2=0∧seqOk (payW w x.hash x.n).1 l
theorem seqI_len:∀{l:List It} {w:Wl},(seqI w l).length=l.length
 |[],_=>rfl
 |x::l,w=>by rw [seqI,List.length_cons,seqI_len,List.length_cons]
theorem seq_app:∀{l:List It} {w:Wl} {m:List It},seqW w (l++m)=seqW (seqW w l) m∧seqI w (l++m)=seqI w l++seqI (seqW w l) m∧(seqOk w (l++m)↔seqOk w l∧seqOk (seqW w l) m)
 |[],w,m=>⟨rfl,rfl,by simp [seqOk,seqW]⟩
 |x::l,w,m=>by
  obtain⟨h1,h2,h3⟩:=seq_app (l:=l) (w:=(payW w x.hash x.n).1) (m:=m)
  refine⟨h1, ?_, ?_⟩
  ·show _::seqI _ (l++m)=_
   rw [h2];rfl
  ·show _∧seqOk _ (l++m)↔_
   rw [h3]
   show _↔(_∧seqOk _ l)∧_
   rw [and_assoc];rfl
theorem payB_ok:∀{l:List It} {w:Wl},seqOk w l→payB w l=(seqW w l,seqI w l,0,0)
 |[],_,_=>rfl
 |x::l,w,h=>by
  rw [payB,if_pos h.1]
  simp only [payB_ok h.2,if_true];rfl
theorem payB_at:∀{l:List It} {w:Wl} {i:Nat} {x:It},l[i]? =some x→seqOk w (l.take i)→¬(payW (seqW w (l.take i)) x.hash x.n).2.2=0→payB w l=(zeroW,[],i,(payW (seqW w (l.take i)) x.hash x.n).2.2)
 |[],_,_,_,h,_,_=>by simp at h
 |y::l,w,0,x,h,_,he=>by
  simp only [List.getElem?_cons_zero,Option.some.injEq]at h
  subst h
  rw [payB,if_neg (show¬(payW w y.hash y.n).2.2=0 from he)];rfl
 |y::l,w,i+1,x,h,ho,he=>by
  simp only [List.getElem?_cons_succ]at h
  rw [List.take_succ_cons]at ho he
  have:=payB_at h ho.2 he
  rw [payB,if_pos ho.1]
  simp only [this]
  rw [if_neg (show¬(payW (seqW (payW w y.hash y.n).1 (l.take i)) x.hash x.n).2.2=0 from he)];rfl
theorem payE_okW {v:Wl} {hash n:Nat} (h:payE v hash n=0):okW v∧n≠0∧n≤MM∧(firstL v.c v.w n).2=0∧v.next≠MM∧(payP v hash n).2=0∧(payC v n).2=0∧(payF v n).2.2=0:=by
 unfold payE at h
 split at h
 ·cases h
 rename_i h1
 split at h
 ·cases h
 rename_i h2
 split at h
 ·cases h
 rename_i h3
 split at h
 ·rename_i h4;exact absurd h h4
 rename_i h4
 split at h
 ·rename_i h5;exact absurd h h5
 rename_i h5
 refine⟨Decidable.byContradiction fun h=>h1 (.inl h),fun h=>h1 (.inr (.inl h)),Decidable.byContradiction fun h=>h1 (.inr (.inr h)),Decidable.byContradiction h2,h3,Decidable.byContradiction h4,Decidable.byContradiction h5,h⟩
theorem payW_err {v:Wl} {hash n:Nat}:(payW v hash n).2.2=payE v hash n:=by
 unfold payW
 split
 ·rename_i h;exact h.symm
 ·rfl
theorem payW_fnext {v:Wl} {hash n:Nat} (h:(payW v hash n).2.2=0):(payW v hash n).1.f.next≤18446744073709551615:=by
 rw [payW_err]at h
 have h1:=(payE_okW h).1.2.2.1
 have h2:=h1.2.1
 have h3:=(payE_okW h).2.2.2.2.2.2.2
 rw [payW,if_pos h]
 show(payF v n).1.next≤_
 unfold MM at h2
 unfold payF addF at h3⊢
 split
 ·split
  ·dsimp only;omega
  ·dsimp only;omega
 ·dsimp only;omega
theorem seq_fnext:∀{l:List It} {w:Wl},w.f.next≤18446744073709551615→seqOk w l→(seqW w l).f.next≤18446744073709551615
 |[],_,h,_=>h
 |x::l,w,_,h=>seq_fnext (l:=l) (payW_fnext h.1) h.2
attribute [go_sem] Tryz.f9
theorem bpayf_ok (w:Wl) (l:List It) (h:w.f.next≤18446744073709551615):FreshFn Tryz.prog 9 [.agg [.sl (chs w.c), .sl (wts w.w), .sl (ivs w.i), .sl (pys w.p), .c (.int .u64 (w.f.next:Int)), .sl (evs w.f.l), .c (.int .u64 (w.next:Int)), .c (.int .u64 (w.tick:Int))], .sl (its l)] (.tup [.agg [.sl (chs (batW w l).1.c), .sl (wts (batW w l).1.w), .sl (ivs (batW w l).1.i), .sl (pys (batW w l).1.p), .int .u64 (batW w l).1.f.next, .sl (evs (batW w l).1.f.l), .int .u64 (batW w l).1.next, .int .u64 (batW w l).1.tick], .vec 0 (batW w l).2.1.length, .int .i64 (batW w l).2.2.1, .int .i64 (batW w l).2.2.2]) ([(1,26,true,u64s (batW w l).2.1)]):=by
 refine runF [c_bsum,c_wpay] Tryz.f9 lv9 fun hT=>vc ?_
 refine⟨fun h1 _=> ?_,fun h1=> ?_⟩
 rotate_left 1
 ·rw [batW,if_neg h1]
  exact⟨[none],by simp [go_sem,u64s],⟨rfl,rfl,rfl,rfl,rfl,rfl,rfl,rfl⟩,⟨rfl,rfl⟩,rfl,rfl⟩
 have hs:sumB l=sumB l:=rfl
 have hl:l.length≤16:=by
  unfold sumB at h1
  split at h1
  ·rename_i h;exact h.2.1
  ·cases h1
 have hb:batW w l=payB w l:=by rw [batW,if_pos h1]
 rw [hb]
 refine⟨by omega,fun _=>SWp.loop (ι:={i:Nat // i≤l.length∧seqOk w (l.take i)}) (fun i=>⟨[(2, .ref 0 0),(4, .ref 1 0),(10, .vec 2 l.length),(28, .sl (its l)),(29, .int .i64 l.length),(30, .int .i64 i.1)],
  [(2, .vec true 1 26 (u64s (seqI w (l.take i.1)++List.replicate (l.length - i.1) 0))),(1, .box [.nil, .nil, .nil, .nil, .c (.int .u64 0), .nil, .c (.int .u64 0), .c (.int .u64 0)]),
    (0, .box [.sl (chs (seqW w (l.take i.1)).c), .sl (wts (seqW w (l.take i.1)).w), .sl (ivs (seqW w (l.take i.1)).i), .sl (pys (seqW w (l.take i.1)).p), .int .u64 (seqW w (l.take i.1)).f.next, .sl (evs (seqW w (l.take i.1)).f.l), .int .u64 (seqW w (l.take i.1)).next, .int .u64 (seqW w (l.take i.1)).tick])],3⟩) (fun i=>l.length - i.1) ⟨0,by omega,trivial⟩ ?_ ?_⟩
 ·simp [go_sem,seqW,seqI,u64s]
 ·rintro⟨i,hi,hok⟩
  have hfn:=seq_fnext h hok
  refine aw hT lv9 (vc ?_)
  refine⟨fun h2=>⟨by omega,hfn,fun h3=> ?_,fun h3=> ?_⟩,fun h2=> ?_⟩
  ·have hi':i<l.length:=by omega
   obtain⟨a1,a2,a3⟩:=seq_app (l:=l.take i) (w:=w) (m:=[l.getD i default])
   rw [←take_succ hi']at a1 a2 a3
   have hsl:(seqI w (l.take i)).length=i:=by rw [seqI_len,List.length_take];omega
   refine⟨by omega,⟨by rw [hsl,List.length_replicate];omega,hi'⟩,⟨i+1,hi',a3.2 ⟨hok,h3,trivial⟩⟩,by dsimp only;omega,i64_in _ (by omega), ?_, ?_⟩
   ·dsimp only
    rw [a2]
    congr 2
    rw [List.set_append_right _ _ (by omega),hsl,Nat.sub_self,show l.length - i=(l.length - (i+1))+1 by omega,List.replicate_succ,List.set_cons_zero,List.append_assoc]
    rfl
   ·dsimp only
    rw [a1]
    exact⟨rfl,rfl,rfl,rfl,rfl,rfl,rfl,rfl⟩
  ·have hi':i<l.length:=by omega
   have hx:l[i]? =some (l.getD i default):=by rw [getD_lt hi'];exact List.getElem?_eq_getElem hi'
   rw [payB_at hx hok h3]
   exact⟨[none],by simp [go_sem,u64s],⟨rfl,rfl,rfl,rfl,rfl,rfl,rfl,rfl⟩,⟨rfl,rfl⟩,rfl,rfl⟩
  ·have hi':i=l.length:=by omega
   subst hi'
   rw [List.take_length]at hok⊢
   rw [payB_ok hok,Nat.sub_self,List.replicate_zero,List.append_nil]
   exact⟨[some 2],by simp [go_sem],⟨rfl,rfl,rfl,rfl,rfl,rfl,rfl,rfl⟩,⟨rfl,seqI_len.symm⟩,rfl,rfl⟩
@[go_sem] def c_bpay:Ct Tryz.prog:=⟨9,arg kWl fun w=>arg kIts fun l=>ret (w.f.next≤18446744073709551615) (.tup [.agg [.sl (chs (batW w l).1.c), .sl (wts (batW w l).1.w), .sl (ivs (batW w l).1.i), .sl (pys (batW w l).1.p), .int .u64 (batW w l).1.f.next, .sl (evs (batW w l).1.f.l), .int .u64 (batW w l).1.next, .int .u64 (batW w l).1.tick], .sl (u64s (batW w l).2.1), .int .i64 (batW w l).2.2.1, .int .i64 (batW w l).2.2.2]) [],arg_ok fun w=>arg_ok fun l=>ret_ok fun h=>by
 refine FreshFn.toPure (bpayf_ok w l h) ?_
 simp [go_sem,pur3,pur2,pur1,pw,news,lk]⟩
open Go Go.Proofs Go.IntWalk
def emptyW:Wl:=⟨[],[],[],[],⟨1,[]⟩,1,0⟩
def liveC:Ch:=⟨1,10,0,0,10,[],true⟩
theorem live1:(wopW emptyW liveC).2=0:=by decide
theorem live2:(wopW emptyW liveC).1.f.next≤18446744073709551615:=by decide
set_option maxRecDepth 100000 in
theorem live3:(batW (wopW emptyW liveC).1 [⟨1,6⟩,⟨2,5⟩]).2.2=(1,9):=by decide
attribute [go_sem] Tryz.f4
@[go_sem] def c_live:Ct Tryz.prog:=⟨4,pu (.bool true),ret_ok fun _=>by
 refine run [c_wnew,c_wopen,c_bpay] Tryz.f4 lv4 fun hT=>vc ?_
 refine⟨rfl,⟨rfl,live2⟩,fun _=> ?_,fun h=>absurd live1 h⟩
 have e:(batW (wopW emptyW liveC).1 [⟨1,6⟩,⟨2,5⟩]).2.2=(1,9):=live3
 have e1:(batW (wopW emptyW liveC).1 [⟨1,6⟩,⟨2,5⟩]).2.2.2=9:=congrArg Prod.snd e
 have e2:(batW (wopW emptyW liveC).1 [⟨1,6⟩,⟨2,5⟩]).2.2.1=1:=congrArg Prod.fst e
 have e3:decide ((((batW (wopW emptyW liveC).1 [⟨1,6⟩,⟨2,5⟩]).2.2.1:Nat):Int)=1)=true:=decide_eq_true (by rw [e2];rfl)
 exact⟨fun _=>e3,fun h=>h e1⟩⟩
attribute [go_sem] Tryz.f5
@[go_sem] def c_few17:Ct Tryz.prog:=⟨5,arg kWl fun w=>pu (.bool (decide (((∀c∈w.c,c.holds.length≤20)∧w.c.length≤34)∧w.w.length≤40∧w.i.length≤40∧(w.p.length≤40∨256≤w.p.length∧w.p.length≤258)∧w.f.l.length≤70))),arg_ok fun w=>ret_ok fun _=>by
 refine run [c_few] Tryz.f5 lv5 fun hT=>vc ?_
 refine⟨fun hq _=>⟨fun h1 _=>⟨fun h2 _=>⟨fun h3 _=>⟨fun h4 _=>⟨fun h5 _=> ?_,fun h5=>(decide_eq_false fun h=>by have:=h.2;omega).symm⟩,fun h4=>(decide_eq_false fun h=>by have:=h.2;omega).symm⟩,fun h3 _=> ?_⟩,fun h2=>(decide_eq_false fun h=>by have:=h.2;omega).symm⟩,fun h1=>(decide_eq_false fun h=>by have:=h.2;omega).symm⟩,fun hq=>(decide_eq_false fun h=>hq h.1).symm⟩
 ·rw [decide_eq_decide];exact⟨fun h=>⟨hq,by omega,by omega,by omega,by omega⟩,fun h=>by have:=h.2;omega⟩
 ·rw [decide_eq_decide];exact⟨fun h=>⟨hq,by omega,by omega,by omega,by omega⟩,fun h=>by have:=h.2;omega⟩⟩
open Go Go.Proofs
theorem wf_u64 {n:Int} (h:(Lit.int .u64 n).wf=true):0≤n∧n≤18446744073709551615:=by
 simp [Lit.wf,IntKind.min,IntKind.max,IntKind.bits,IntKind.signed]at h
 omega
theorem wf_i64 {n:Int} (h:(Lit.int .i64 n).wf=true): -9223372036854775808≤n∧n≤9223372036854775807:=by
 simp [Lit.wf,IntKind.min,IntKind.max,IntKind.bits,IntKind.signed]at h
 omega
theorem typ26 {k:Nat} {xs:List C} (h:Typ Tryz.prog (k+1) 26 xs):∃n:Nat,xs=[.int .u64 (n:Int)]∧n≤18446744073709551615:=by
 simp only [Typ,Tryz.underlying26]at h
 obtain⟨n,rfl,h1⟩:=h
 have:=wf_u64 h1
 exact⟨n.toNat,by rw [Int.toNat_of_nonneg (by omega)],by omega⟩
theorem typ33 {k:Nat} {xs:List C} (h:Typ Tryz.prog (k+2) 33 xs):∃l,xs=[.sl (u64s l)]∧∀e∈l,e≤18446744073709551615:=by
 simp only [Typ,Tryz.underlying33]at h
 obtain⟨els,rfl,_,h2⟩:=h
 have h3:=fun x hx=>typ26 (k:=k) (h2 x hx)
 have:∀els:List (List C),(∀x∈els,Typ Tryz.prog (k+1) 26 x)→∃l:List Nat,els=u64s l∧∀e∈l,e≤18446744073709551615:=by
  intro els
  induction els with
  |nil=>exact fun _=>⟨[],rfl,by simp⟩
  |cons x t ih=>
   intro h3
   obtain⟨l,h4,h5⟩:=ih (fun y hy=>h3 y (List.mem_cons_of_mem _ hy))
   obtain⟨n,rfl,h6⟩:=typ26 (k:=k) (h3 x (List.mem_cons_self ..))
   subst h4
   exact⟨n::l,rfl,fun e he=>(List.mem_cons.1 he).elim (fun h=>by rw [h];exact h6) (h5 e)⟩
 obtain⟨l,rfl,h⟩:=this els h2
 exact⟨l,rfl,h⟩
def Hd.rng (e:Hd):Prop:=e.id≤18446744073709551615∧e.n≤18446744073709551615
theorem typ157 {k:Nat} {xs:List C} (h:Typ Tryz.prog (k+2) 157 xs):(Hd.dec xs).enc=xs∧(Hd.dec xs).rng:=by
 simp only [Typ,Tryz.underlying157,TypFs,Tryz.underlying26]at h
 obtain⟨_,_,rfl,⟨s0,rfl,h0⟩,_,_,rfl,⟨s1,rfl,h1⟩,rfl⟩:=h
 have q0:=wf_u64 h0
 have q1:=wf_u64 h1
 simp only [List.cons_append,List.nil_append,List.append_nil]
 refine⟨by simp [Hd.dec,Hd.enc,Int.toNat_of_nonneg q0.1,Int.toNat_of_nonneg q1.1], ?_⟩
 simp only [Hd.dec,Hd.rng]
 exact⟨by omega,by omega⟩
theorem hds_dhds {els:List (List C)} (h:∀x∈els,(Hd.dec x).enc=x):hds (dhds els)=els:=by
 simp only [hds,dhds,List.map_map]
 refine(List.map_congr_left fun x hx=> ?_).trans (List.map_id _)
 exact h x hx
theorem typ51 {k:Nat} {xs:List C} (h:Typ Tryz.prog (k+3) 51 xs):∃l,xs=[.sl (hds l)]∧∀e∈l,e.rng:=by
 simp only [Typ,Tryz.underlying51]at h
 obtain⟨els,rfl,_,h2⟩:=h
 have h3:∀x∈els,(Hd.dec x).enc=x∧(Hd.dec x).rng:=fun x hx=>typ157 (k:=k) (h2 x hx)
 refine⟨dhds els,by rw [hds_dhds fun x hx=>(h3 x hx).1],fun e he=> ?_⟩
 obtain⟨x,hx,rfl⟩:=List.mem_map.1 he
 exact(h3 x hx).2
def Ch.rng (e:Ch):Prop:=e.id≤18446744073709551615∧e.loc≤18446744073709551615∧e.rem≤18446744073709551615∧e.res≤18446744073709551615∧e.most≤18446744073709551615∧(∀q∈e.holds,q.rng)∧True
theorem typ53 {k:Nat} {xs:List C} (h:Typ Tryz.prog (k+4) 53 xs):(Ch.dec xs).enc=xs∧(Ch.dec xs).rng:=by
 simp only [Typ,Tryz.underlying53,TypFs,Tryz.underlying4,Tryz.underlying26]at h
 obtain⟨_,_,rfl,⟨s0,rfl,h0⟩,_,_,rfl,⟨s1,rfl,h1⟩,_,_,rfl,⟨s2,rfl,h2⟩,_,_,rfl,⟨s3,rfl,h3⟩,_,_,rfl,⟨s4,rfl,h4⟩,_,_,rfl,hs5,_,_,rfl,⟨s6,rfl⟩,rfl⟩:=h
 have q0:=wf_u64 h0
 have q1:=wf_u64 h1
 have q2:=wf_u64 h2
 have q3:=wf_u64 h3
 have q4:=wf_u64 h4
 obtain⟨s5,rfl,q5⟩:=typ51 (k:=k+0) hs5
 simp only [List.cons_append,List.nil_append,List.append_nil]
 refine⟨by simp [Ch.dec,Ch.enc,Int.toNat_of_nonneg q0.1,Int.toNat_of_nonneg q1.1,Int.toNat_of_nonneg q2.1,Int.toNat_of_nonneg q3.1,Int.toNat_of_nonneg q4.1,dhds_hds], ?_⟩
 simp only [Ch.dec,Ch.rng,dhds_hds]
 exact⟨by omega,by omega,by omega,by omega,by omega,q5,trivial⟩
theorem chs_dchs {els:List (List C)} (h:∀x∈els,(Ch.dec x).enc=x):chs (dchs els)=els:=by
 simp only [chs,dchs,List.map_map]
 refine(List.map_congr_left fun x hx=> ?_).trans (List.map_id _)
 exact h x hx
theorem typ22 {k:Nat} {xs:List C} (h:Typ Tryz.prog (k+5) 22 xs):∃l,xs=[.sl (chs l)]∧∀e∈l,e.rng:=by
 simp only [Typ,Tryz.underlying22]at h
 obtain⟨els,rfl,_,h2⟩:=h
 have h3:∀x∈els,(Ch.dec x).enc=x∧(Ch.dec x).rng:=fun x hx=>typ53 (k:=k) (h2 x hx)
 refine⟨dchs els,by rw [chs_dchs fun x hx=>(h3 x hx).1],fun e he=> ?_⟩
 obtain⟨x,hx,rfl⟩:=List.mem_map.1 he
 exact(h3 x hx).2
def Wt.rng (e:Wt):Prop:=e.id≤18446744073709551615∧True
theorem typ74 {k:Nat} {xs:List C} (h:Typ Tryz.prog (k+2) 74 xs):(Wt.dec xs).enc=xs∧(Wt.dec xs).rng:=by
 simp only [Typ,Tryz.underlying74,TypFs,Tryz.underlying26,Tryz.underlying72]at h
 obtain⟨_,_,rfl,⟨s0,rfl,h0⟩,_,_,rfl,⟨s1,rfl,h1⟩,rfl⟩:=h
 have q0:=wf_u64 h0
 simp only [List.cons_append,List.nil_append,List.append_nil]
 refine⟨by simp [Wt.dec,Wt.enc,Int.toNat_of_nonneg q0.1], ?_⟩
 simp only [Wt.dec,Wt.rng]
 exact⟨by omega,trivial⟩
theorem wts_dwts {els:List (List C)} (h:∀x∈els,(Wt.dec x).enc=x):wts (dwts els)=els:=by
 simp only [wts,dwts,List.map_map]
 refine(List.map_congr_left fun x hx=> ?_).trans (List.map_id _)
 exact h x hx
theorem typ23 {k:Nat} {xs:List C} (h:Typ Tryz.prog (k+3) 23 xs):∃l,xs=[.sl (wts l)]∧∀e∈l,e.rng:=by
 simp only [Typ,Tryz.underlying23]at h
 obtain⟨els,rfl,_,h2⟩:=h
 have h3:∀x∈els,(Wt.dec x).enc=x∧(Wt.dec x).rng:=fun x hx=>typ74 (k:=k) (h2 x hx)
 refine⟨dwts els,by rw [wts_dwts fun x hx=>(h3 x hx).1],fun e he=> ?_⟩
 obtain⟨x,hx,rfl⟩:=List.mem_map.1 he
 exact(h3 x hx).2
def Iv.rng (e:Iv):Prop:=e.hash≤18446744073709551615∧e.n≤18446744073709551615∧e.till≤18446744073709551615∧(-9223372036854775808≤e.state∧e.state≤9223372036854775807)
theorem typ112 {k:Nat} {xs:List C} (h:Typ Tryz.prog (k+2) 112 xs):(Iv.dec xs).enc=xs∧(Iv.dec xs).rng:=by
 simp only [Typ,Tryz.underlying112,TypFs,Tryz.underlying3,Tryz.underlying26]at h
 obtain⟨_,_,rfl,⟨s0,rfl,h0⟩,_,_,rfl,⟨s1,rfl,h1⟩,_,_,rfl,⟨s2,rfl,h2⟩,_,_,rfl,⟨s3,rfl,h3⟩,rfl⟩:=h
 have q0:=wf_u64 h0
 have q1:=wf_u64 h1
 have q2:=wf_u64 h2
 have q3:=wf_i64 h3
 simp only [List.cons_append,List.nil_append,List.append_nil]
 refine⟨by simp [Iv.dec,Iv.enc,Int.toNat_of_nonneg q0.1,Int.toNat_of_nonneg q1.1,Int.toNat_of_nonneg q2.1], ?_⟩
 simp only [Iv.dec,Iv.rng]
 exact⟨by omega,by omega,by omega,⟨by omega,by omega⟩⟩
theorem ivs_divs {els:List (List C)} (h:∀x∈els,(Iv.dec x).enc=x):ivs (divs els)=els:=by
 simp only [ivs,divs,List.map_map]
 refine(List.map_congr_left fun x hx=> ?_).trans (List.map_id _)
 exact h x hx
theorem typ24 {k:Nat} {xs:List C} (h:Typ Tryz.prog (k+3) 24 xs):∃l,xs=[.sl (ivs l)]∧∀e∈l,e.rng:=by
 simp only [Typ,Tryz.underlying24]at h
 obtain⟨els,rfl,_,h2⟩:=h
 have h3:∀x∈els,(Iv.dec x).enc=x∧(Iv.dec x).rng:=fun x hx=>typ112 (k:=k) (h2 x hx)
 refine⟨divs els,by rw [ivs_divs fun x hx=>(h3 x hx).1],fun e he=> ?_⟩
 obtain⟨x,hx,rfl⟩:=List.mem_map.1 he
 exact(h3 x hx).2
def Py.rng (e:Py):Prop:=e.id≤18446744073709551615∧e.hash≤18446744073709551615∧e.chan≤18446744073709551615∧e.n≤18446744073709551615∧(-9223372036854775808≤e.state∧e.state≤9223372036854775807)
theorem typ98 {k:Nat} {xs:List C} (h:Typ Tryz.prog (k+2) 98 xs):(Py.dec xs).enc=xs∧(Py.dec xs).rng:=by
 simp only [Typ,Tryz.underlying98,TypFs,Tryz.underlying3,Tryz.underlying26]at h
 obtain⟨_,_,rfl,⟨s0,rfl,h0⟩,_,_,rfl,⟨s1,rfl,h1⟩,_,_,rfl,⟨s2,rfl,h2⟩,_,_,rfl,⟨s3,rfl,h3⟩,_,_,rfl,⟨s4,rfl,h4⟩,rfl⟩:=h
 have q0:=wf_u64 h0
 have q1:=wf_u64 h1
 have q2:=wf_u64 h2
 have q3:=wf_u64 h3
 have q4:=wf_i64 h4
 simp only [List.cons_append,List.nil_append,List.append_nil]
 refine⟨by simp [Py.dec,Py.enc,Int.toNat_of_nonneg q0.1,Int.toNat_of_nonneg q1.1,Int.toNat_of_nonneg q2.1,Int.toNat_of_nonneg q3.1], ?_⟩
 simp only [Py.dec,Py.rng]
 exact⟨by omega,by omega,by omega,by omega,⟨by omega,by omega⟩⟩
theorem pys_dpys {els:List (List C)} (h:∀x∈els,(Py.dec x).enc=x):pys (dpys els)=els:=by
 simp only [pys,dpys,List.map_map]
 refine(List.map_congr_left fun x hx=> ?_).trans (List.map_id _)
 exact h x hx
theorem typ25 {k:Nat} {xs:List C} (h:Typ Tryz.prog (k+3) 25 xs):∃l,xs=[.sl (pys l)]∧∀e∈l,e.rng:=by
 simp only [Typ,Tryz.underlying25]at h
 obtain⟨els,rfl,_,h2⟩:=h
 have h3:∀x∈els,(Py.dec x).enc=x∧(Py.dec x).rng:=fun x hx=>typ98 (k:=k) (h2 x hx)
 refine⟨dpys els,by rw [pys_dpys fun x hx=>(h3 x hx).1],fun e he=> ?_⟩
 obtain⟨x,hx,rfl⟩:=List.mem_map.1 he
 exact(h3 x hx).2
def Ev.rng (e:Ev):Prop:=e.seq≤18446744073709551615∧(-9223372036854775808≤e.kind∧e.kind≤9223372036854775807)∧e.a≤18446744073709551615∧e.n≤18446744073709551615
theorem typ159 {k:Nat} {xs:List C} (h:Typ Tryz.prog (k+2) 159 xs):(Ev.dec xs).enc=xs∧(Ev.dec xs).rng:=by
 simp only [Typ,Tryz.underlying159,TypFs,Tryz.underlying3,Tryz.underlying26]at h
 obtain⟨_,_,rfl,⟨s0,rfl,h0⟩,_,_,rfl,⟨s1,rfl,h1⟩,_,_,rfl,⟨s2,rfl,h2⟩,_,_,rfl,⟨s3,rfl,h3⟩,rfl⟩:=h
 have q0:=wf_u64 h0
 have q1:=wf_i64 h1
 have q2:=wf_u64 h2
 have q3:=wf_u64 h3
 simp only [List.cons_append,List.nil_append,List.append_nil]
 refine⟨by simp [Ev.dec,Ev.enc,Int.toNat_of_nonneg q0.1,Int.toNat_of_nonneg q2.1,Int.toNat_of_nonneg q3.1], ?_⟩
 simp only [Ev.dec,Ev.rng]
 exact⟨by omega,⟨by omega,by omega⟩,by omega,by omega⟩
theorem evs_devs {els:List (List C)} (h:∀x∈els,(Ev.dec x).enc=x):evs (devs els)=els:=by
 simp only [evs,devs,List.map_map]
 refine(List.map_congr_left fun x hx=> ?_).trans (List.map_id _)
 exact h x hx
theorem typ27 {k:Nat} {xs:List C} (h:Typ Tryz.prog (k+3) 27 xs):∃l,xs=[.sl (evs l)]∧∀e∈l,e.rng:=by
 simp only [Typ,Tryz.underlying27]at h
 obtain⟨els,rfl,_,h2⟩:=h
 have h3:∀x∈els,(Ev.dec x).enc=x∧(Ev.dec x).rng:=fun x hx=>typ159 (k:=k) (h2 x hx)
 refine⟨devs els,by rw [evs_devs fun x hx=>(h3 x hx).1],fun e he=> ?_⟩
 obtain⟨x,hx,rfl⟩:=List.mem_map.1 he
 exact(h3 x hx).2
def Fd.rng (e:Fd):Prop:=e.next≤18446744073709551615∧(∀q∈e.l,q.rng)
theorem typ29 {k:Nat} {xs:List C} (h:Typ Tryz.prog (k+4) 29 xs):(Fd.dec xs).enc=xs∧(Fd.dec xs).rng:=by
 simp only [Typ,Tryz.underlying29,TypFs,Tryz.underlying26]at h
 obtain⟨_,_,rfl,⟨s0,rfl,h0⟩,_,_,rfl,hs1,rfl⟩:=h
 have q0:=wf_u64 h0
 obtain⟨s1,rfl,q1⟩:=typ27 (k:=k+0) hs1
 simp only [List.cons_append,List.nil_append,List.append_nil]
 refine⟨by simp [Fd.dec,Fd.enc,Int.toNat_of_nonneg q0.1,devs_evs], ?_⟩
 simp only [Fd.dec,Fd.rng,devs_evs]
 exact⟨by omega,q1⟩
def Wl.rng (w:Wl):Prop:=(∀e∈w.c,e.rng)∧(∀e∈w.w,e.rng)∧(∀e∈w.i,e.rng)∧(∀e∈w.p,e.rng)∧w.f.rng∧w.next≤18446744073709551615∧w.tick≤18446744073709551615
theorem typ31x {k:Nat} {xs:List C} (h:Typ Tryz.prog (k+6) 31 xs):∃w:Wl,xs=w.enc∧w.rng:=by
 rw [show k+6=(k+5)+1 from rfl,Typ,Tryz.underlying31]at h
 simp only [TypFs]at h
 obtain⟨_,_,rfl,h0,_,_,rfl,h1,_,_,rfl,h2,_,_,rfl,h3,_,_,rfl,h4,_,_,rfl,h5,_,_,rfl,h6,rfl⟩:=h
 obtain⟨c,rfl,q0⟩:=typ22 (k:=k) h0
 obtain⟨w,rfl,q1⟩:=typ23 (k:=k+2) h1
 obtain⟨i,rfl,q2⟩:=typ24 (k:=k+2) h2
 obtain⟨p,rfl,q3⟩:=typ25 (k:=k+2) h3
 obtain⟨e4,q4⟩:=typ29 (k:=k+1) h4
 obtain⟨n,rfl,q5⟩:=typ26 (k:=k+4) h5
 obtain⟨t,rfl,q6⟩:=typ26 (k:=k+4) h6
 refine⟨⟨c,w,i,p,Fd.dec _,n,t⟩, ?_,q0,q1,q2,q3,q4,q5,q6⟩
 rw [←e4]
 simp [Wl.enc,Fd.enc,Fd.dec,devs_evs]
def It.rng (e:It):Prop:=e.hash≤18446744073709551615∧e.n≤18446744073709551615
theorem typ55 {k:Nat} {xs:List C} (h:Typ Tryz.prog (k+2) 55 xs):(It.dec xs).enc=xs∧(It.dec xs).rng:=by
 simp only [Typ,Tryz.underlying55,TypFs,Tryz.underlying26]at h
 obtain⟨_,_,rfl,⟨s0,rfl,h0⟩,_,_,rfl,⟨s1,rfl,h1⟩,rfl⟩:=h
 have q0:=wf_u64 h0
 have q1:=wf_u64 h1
 simp only [List.cons_append,List.nil_append,List.append_nil]
 refine⟨by simp [It.dec,It.enc,Int.toNat_of_nonneg q0.1,Int.toNat_of_nonneg q1.1], ?_⟩
 simp only [It.dec,It.rng]
 exact⟨by omega,by omega⟩
theorem its_dits {els:List (List C)} (h:∀x∈els,(It.dec x).enc=x):its (dits els)=els:=by
 simp only [its,dits,List.map_map]
 refine(List.map_congr_left fun x hx=> ?_).trans (List.map_id _)
 exact h x hx
theorem typ32 {k:Nat} {xs:List C} (h:Typ Tryz.prog (k+3) 32 xs):∃l,xs=[.sl (its l)]∧∀e∈l,e.rng:=by
 simp only [Typ,Tryz.underlying32]at h
 obtain⟨els,rfl,_,h2⟩:=h
 have h3:∀x∈els,(It.dec x).enc=x∧(It.dec x).rng:=fun x hx=>typ55 (k:=k) (h2 x hx)
 refine⟨dits els,by rw [its_dits fun x hx=>(h3 x hx).1],fun e he=> ?_⟩
 obtain⟨x,hx,rfl⟩:=List.mem_map.1 he
 exact(h3 x hx).2
open Go Go.Proofs Go.IntWalk
theorem pos_last {l:List Py} {k:Nat} (h:∀x∈l,x.id<k):Srt.pos Py.id ltN l k=l.length:=
 Srt.pos_eq (Nat.le_refl _) (fun j hj=>h _ (mem_getD.2 ⟨j,hj,rfl⟩)) (fun h=>absurd h (by omega))
theorem ins_last {l:List Py} {x:Py}:Srt.ins l l.length x=l++[x]:=by
 unfold Srt.ins;rw [List.take_length,List.drop_length]
theorem pend_app {a b:List Py}:pend (a++b)=pend a++pend b:=by simp [pend]
theorem okPy_up {l:List Py} (h:okPy l):Srt.Up Py.id ltN l:=(Srt.chn_up (lt:=ltN) Srt.totNat).1 h.2.2
theorem up_last {l:List Py} {k:Nat} (hu:Srt.Up Py.id ltN l) (h:0<l.length→(l.getD (l.length - 1) default).id<k):∀x∈l,x.id<k:=fun x hx=>by
 obtain⟨i,hi,rfl⟩:=mem_getD.1 hx
 by_cases hl:i=l.length - 1
 ·rw [hl];exact h (by omega)
 ·have:=Srt.up_get.1 hu i (l.length - 1) (by omega) (by omega)
  have h2:=h (by omega)
  simp only [ltN]at this;omega
theorem hlL_app {a b:List Ch}:hlL (a++b)=hlL a++hlL b:=by simp [hlL]
theorem agr_parts {p:List Py} {c:List Ch}:agrL p c=(true,0)↔okPy p∧c.length≤32∧(c.map Ch.id).Nodup∧(∀q∈pend p,(q.chan,q.id,q.n)∈hlL c)∧(hlL c).length=(pend p).length:=by
 unfold agrL
 split
 ·rename_i h
  rw [Prod.mk.injEq]
  refine⟨fun h1=>⟨h.1,h.2.1,h.2.2,of_decide_eq_true h1.1⟩,fun h1=>⟨decide_eq_true h1.2.2.2,rfl⟩⟩
 ·rename_i h
  refine⟨fun h1=>(by cases h1),fun h1=>absurd ⟨h1.1,h1.2.1,h1.2.2.1⟩ h⟩
theorem okW_ids {w:Wl} (h:okW w):∀x∈w.p,x.id<w.next:=by
 have h1:=(agr_parts.1 h.2.2.2.2.2.2.2).1
 exact up_last (okPy_up h1) h.2.2.2.2.2.2.1
open Go Go.Proofs Go.IntWalk
def getP (l:List Py) (id:Nat):Py×Int:=if okPy l then(if Srt.thr Py.id ltN l id=true then(l.getD (Srt.pos Py.id ltN l id) default,0)else(default,5))else(default,1)
theorem getP_mem' {l:List Py} {p:Py} (h:okPy l) (hp:p∈l):getP l p.id=(p,0):=by
 have hu:=okPy_up h
 have ht:Srt.thr Py.id ltN l p.id=true:=(Srt.thr_iff Srt.totNat hu).2 ⟨p,hp,rfl⟩
 have h2:=ht
 unfold Srt.thr at h2
 obtain⟨h3,h4⟩:=of_decide_eq_true h2
 have h5:=Srt.up_inj (key:=Py.id) (lt:=ltN) Srt.totNat hu (mem_getD.2 ⟨_,h3,rfl⟩) hp h4
 rw [getP,if_pos h,if_pos ht,h5]
open Go Go.Proofs Go.IntWalk
attribute [go_sem] Tryz.f98
@[go_sem] def c_r13may:Ct Tryz.prog:=⟨98,arg kPy fun p=>pu (.bool (decide (okPy1 p))),arg_ok fun p=>ret_ok fun _=>by
 refine run [c_r4check] Tryz.f98 lv98 fun hT=>vc ?_
 have hm:monS [p.n]=0↔p.n≤MM:=mon1_0
 rw [hm]
 have ho:okPy1 p↔(p.n≠0∧p.n≤MM)∧1≤p.state∧p.state≤3:= .rfl
 rw [show decide (okPy1 p)=decide ((p.n≠0∧p.n≤MM)∧1≤p.state∧p.state≤3)from decide_eq_decide.2 ho]
 refine⟨fun h=>⟨fun h2=>⟨fun h3=> ?_,fun h3=> ?_⟩,fun h2=> ?_⟩,fun h=> ?_⟩
 ·rw [decide_eq_decide];exact⟨fun h4=>⟨⟨by omega,h2⟩,h3,h4⟩,fun h4=>h4.2.2⟩
 ·exact(decide_eq_false fun h4=>h3 h4.2.1).symm
 ·exact(decide_eq_false fun h4=>h2 h4.1.2).symm
 ·exact(decide_eq_false fun h4=>h4.1.1 (by omega)).symm⟩
attribute [go_sem] Tryz.f94
@[go_sem] def c_r13check:Ct Tryz.prog:=⟨94,arg kPys fun l=>pu (.int .i64 (chkP l)),arg_ok fun l=>ret_ok fun _=>by
 refine run [c_r13may] Tryz.f94 lv94 fun hT=>vc ?_
 have hbad:¬okPy l→1=chkP l:=fun h=>by rw [chkP,if_neg h]
 refine fun _=>⟨fun h=>hbad fun ho=> ?_,fun h _=> ?_⟩
 ·have:=ho.1;omega
 refine SWp.loop (ι:={i:Nat // i≤l.length∧(∀j,j<i→okPy1 (l.getD j default)∧(0<j→(l.getD (j - 1) default).id<(l.getD j default).id))}) (fun i=>⟨[(0, .sl (pys l)),(8, .sl (pys l)),(9, .int .i64 l.length),(10, .int .i64 i.1)],[],0⟩) (fun i=>l.length - i.1) ⟨0,by simp⟩ ?_ ?_
 ·simp [go_sem]
 ·rintro⟨i,hi,hall⟩
  refine aw hT lv94 (vc ?_)
  refine⟨fun h1=>⟨by omega, ?_⟩,fun h1=> ?_⟩
  ·refine dr us94_6 hT (vc ?_)
   have hi':i<l.length:=by omega
   have hm:okPy l→okPy1 (l.getD i default):=fun h=>h.2.1 _ (mem_getD.2 ⟨i,hi',rfl⟩)
   have hnext:(0<i→(l.getD (i - 1) default).id<(l.getD i default).id)→okPy1 (l.getD i default)→∃i_1:{i:Nat // i≤l.length∧(∀j,j<i→okPy1 (l.getD j default)∧(0<j→(l.getD (j - 1) default).id<(l.getD j default).id))},l.length - i_1.val<l.length - i∧IntKind.i64.wrap ((i:Int)+1)=i_1.val:=fun ho h2=>by
    refine⟨⟨i+1,hi',fun j hj=> ?_⟩,by dsimp only;omega,i64_in _ (by omega)⟩
    by_cases hji:j=i
    ·subst hji;exact⟨h2,ho⟩
    ·exact hall j (by omega)
   refine⟨fun h3=> ?_,fun h3=>⟨hnext fun h=>absurd h (by omega),fun h4=>hbad fun h=>h4 (hm h)⟩⟩
   rw [i64_in _ (by omega),show((i:Int) - 1).toNat=i - 1 by omega]
   exact⟨by omega,fun h4=>⟨hnext fun _=>by omega,fun h5=>hbad fun h=>h5 (hm h)⟩,fun h4=>hbad fun h=>by have:=h.2.2 i hi' (by omega);simp only [ltN]at this;omega⟩
  ·have hi':i=l.length:=by omega
   subst hi'
   rw [chkP,if_pos]
   exact⟨by omega,fun x hx=>by obtain⟨j,hj,rfl⟩:=mem_getD.1 hx;exact(hall j hj).1,fun j hj h0=>(hall j hj).2 h0⟩⟩
attribute [go_sem] Tryz.f99
@[go_sem] def c_r13get:Ct Tryz.prog:=⟨99,arg kPys fun l=>arg kU64 fun id=>pu (.tup [.agg [.int .u64 (getP l id).1.id, .int .u64 (getP l id).1.hash, .int .u64 (getP l id).1.chan, .int .u64 (getP l id).1.n, .int .i64 (getP l id).1.state], .int .i64 (getP l id).2]),arg_ok fun l=>arg_ok fun id=>ret_ok fun _=>by
 refine run [c_r13check] Tryz.f99 lv99 fun hT=>vc ?_
 have hcz:chkP l=0↔okPy l:=by unfold chkP;split<;>rename_i h<;>simp only [h]<;>decide
 refine⟨fun h0 _=> ?_,fun h0=>by
  rw [getP,if_neg fun h=>h0 (hcz.2 h)];exact⟨⟨rfl,rfl,rfl,rfl,rfl⟩,rfl⟩⟩
 have hok:=hcz.1 h0
 refine SWp.loop (ι:={i:Nat // i≤l.length∧∀j,j<i→(l.getD j default).id≠id}) (fun i=>⟨[(1, .c (.int .u64 id)),(4, .ref 0 0),(12, .sl (pys l)),(13, .int .i64 l.length),(14, .int .i64 i.1)],
  [(0, .box [.c (.int .u64 0), .c (.int .u64 0), .c (.int .u64 0), .c (.int .u64 0), .c (.int .i64 0)])],1⟩) (fun i=>l.length - i.1) ⟨0,by simp⟩ ?_ ?_
 ·simp [go_sem]
 ·rintro⟨i,hi,hall⟩
  refine aw hT lv99 (vc ?_)
  have hu:=okPy_up hok
  refine⟨fun h1=>⟨by omega,fun h2=> ?_,fun h2=>⟨⟨i+1,by omega,fun j hj=> ?_⟩,by dsimp only;omega,i64_in _ (by have:=hok.1;omega)⟩⟩,fun h1=> ?_⟩
  ·have hi':i<l.length:=by omega
   have hg:=getP_mem' hok (mem_getD.2 ⟨i,hi',rfl⟩)
   rw [show(l.getD i default).id=id by omega]at hg
   rw [hg]
   exact⟨⟨rfl,rfl,rfl,rfl,rfl⟩,rfl⟩
  ·by_cases hji:j=i
   ·subst hji;omega
   ·exact hall j (by omega)
  ·have ht:¬Srt.thr Py.id ltN l id=true:=fun ht=>by
    obtain⟨x,hx,hk⟩:=(Srt.thr_iff Srt.totNat hu).1 ht
    obtain⟨j,hj,rfl⟩:=mem_getD.1 hx
    exact hall j (by omega) hk
   rw [getP,if_pos hok,if_neg ht]
   exact⟨⟨rfl,rfl,rfl,rfl,rfl⟩,rfl⟩⟩
open Go Go.Proofs Go.IntWalk
attribute [go_sem] Tryz.f93
@[go_sem] def c_r12check:Ct Tryz.prog:=⟨93,arg kIvs fun l=>pu (.int .i64 (chkI l)),arg_ok fun l=>ret_ok fun _=>by
 refine run [c_r4check] Tryz.f93 lv93 fun hT=>vc ?_
 have hbad:¬okIv l→1=chkI l:=fun h=>by rw [chkI,if_neg h]
 refine fun _=>⟨fun h=>hbad fun ho=> ?_,fun h _=> ?_⟩
 ·have:=ho.1;omega
 refine SWp.loop (ι:={i:Nat // i≤l.length∧(∀j,j<i→okIv1 (l.getD j default)∧(0<j→(l.getD (j - 1) default).hash<(l.getD j default).hash))}) (fun i=>⟨[(0, .sl (ivs l)),(8, .sl (ivs l)),(9, .int .i64 l.length),(10, .int .i64 i.1)],[],0⟩) (fun i=>l.length - i.1) ⟨0,by simp⟩ ?_ ?_
 ·simp [go_sem]
 ·rintro⟨i,hi,hall⟩
  refine aw hT lv93 (vc ?_)
  refine⟨fun h1=>⟨by omega, ?_⟩,fun h1=> ?_⟩
  ·refine dr us93_6 hT (vc ?_)
   have hi':i<l.length:=by omega
   have hmn:monS [(l.getD i default).n]=0↔(l.getD i default).n≤MM:=mon1_0
   have hm:okIv l→okIv1 (l.getD i default):=fun h=>h.2.1 _ (mem_getD.2 ⟨i,hi',rfl⟩)
   rw [hmn]
   have hnext:(0<i→(l.getD (i - 1) default).hash<(l.getD i default).hash)→
    (¬((l.getD i default).n:Int)=0→((l.getD i default).n≤MM→(¬(l.getD i default).state<1→(3<(l.getD i default).state→1=chkI l)∧(¬3<(l.getD i default).state→
        ∃i_1:{i:Nat // i≤l.length∧(∀j,j<i→okIv1 (l.getD j default)∧(0<j→(l.getD (j - 1) default).hash<(l.getD j default).hash))},l.length - i_1.val<l.length - i∧IntKind.i64.wrap ((i:Int)+1)=i_1.val))∧((l.getD i default).state<1→1=chkI l))∧
     (¬(l.getD i default).n≤MM→1=chkI l))∧(((l.getD i default).n:Int)=0→1=chkI l):=fun ho=>by
    refine⟨fun h2=>⟨fun h5=>⟨fun h3=>⟨fun h4=>hbad fun h=> ?_,fun h4=>⟨⟨i+1,hi',fun j hj=> ?_⟩,by dsimp only;omega,i64_in _ (by omega)⟩⟩,fun h3=>hbad fun h=> ?_⟩,fun h5=>hbad fun h=>h5 (hm h).1.2⟩,fun h2=>hbad fun h=>(hm h).1.1 (by omega)⟩
    ·have:=(hm h).2.2;omega
    ·by_cases hji:j=i
     ·subst hji;exact⟨⟨⟨by omega,h5⟩,by omega,by omega⟩,ho⟩
     ·exact hall j (by omega)
    ·have:=(hm h).2.1;omega
   refine⟨fun h2=> ?_,fun h2=>hnext fun h=>absurd h (by omega)⟩
   rw [i64_in _ (by omega),show((i:Int) - 1).toNat=i - 1 by omega]
   exact⟨by omega,fun h3=>hnext fun _=>by omega,fun h3=>hbad fun h=>by have:=h.2.2 i hi' (by omega);simp only [ltN]at this;omega⟩
  ·have hi':i=l.length:=by omega
   subst hi'
   rw [chkI,if_pos]
   exact⟨by omega,fun x hx=>by obtain⟨j,hj,rfl⟩:=mem_getD.1 hx;exact(hall j hj).1,fun j hj h0=>(hall j hj).2 h0⟩⟩
attribute [go_sem] Tryz.f95
@[go_sem] def c_r16check:Ct Tryz.prog:=⟨95,arg kFd fun f=>ret (f.next≤18446744073709551615) (.int .i64 (chkF f)) [],arg_ok fun f=>ret_ok fun h=>by
 refine run [] Tryz.f95 lv95 fun hT=>vc ?_
 have hbad:¬okFd f→1=chkF f:=fun h=>by rw [chkF,if_neg h]
 refine⟨fun h1=>⟨fun h2 hl=>⟨fun h3 _=> ?_,fun h3=>hbad fun ho=>h3 ?_⟩,fun h2=>hbad fun ho=> ?_⟩,fun h1=>hbad fun ho=> ?_⟩
 rotate_left 1
 ·have:=ho.2.2.1
  rw [u64_in f.l.length (by omega),u64_in ((f.next:Int) - 1) (by omega)];omega
 ·have:=ho.2.1;unfold MM at this;omega
 ·have:=ho.1;omega
 rw [u64_in f.l.length (by omega),u64_in ((f.next:Int) - 1) (by omega)]at h3
 refine SWp.loop (ι:={i:Nat // i≤f.l.length∧∀j:Nat,j<i→((f.l.getD j default).seq:Int)=f.next - (f.l.length - j:Int)∧kindS (f.l.getD j default).kind=true}) (fun i=>⟨[(1, .ref 0 0),(25, .sl (evs f.l)),(26, .int .i64 f.l.length),(27, .int .i64 i.1)],
  [(0, .box [.c (.int .u64 f.next), .sl (evs f.l)])],1⟩) (fun i=>f.l.length - i.1) ⟨0,by simp⟩ ?_ ?_
 ·simp [go_sem]
 ·rintro⟨i,hi,hall⟩
  refine aw hT lv95 (vc ?_)
  have hMM:f.next≤4611686018427387904:=by omega
  refine⟨fun h4=>⟨by omega,fun _=> ?_⟩,fun h4=> ?_⟩
  ·have hi':i<f.l.length:=by omega
   have hg:okFd f→((f.l.getD i default).seq:Int)=f.next - (f.l.length - i:Int)∧kindS (f.l.getD i default).kind=true:=fun ho=>(okEv_get f.next f.l).1 ho.2.2.2 i hi'
   rw [i64_in ((f.l.length:Int) - (i:Nat)) (by omega),u64_in ((f.l.length:Int) - (i:Nat)) (by omega),u64_in ((f.next:Int) - _) (by omega)]
   have hk:kindS (f.l.getD i default).kind=true↔0≤(f.l.getD i default).kind∧(f.l.getD i default).kind<16:=decide_eq_true_iff
   refine⟨fun h5=>⟨fun h6=>⟨fun h7=>hbad fun ho=> ?_,fun h7=>⟨⟨i+1,hi',fun j hj=> ?_⟩,by dsimp only;omega,i64_in _ (by omega)⟩⟩,fun h6=>hbad fun ho=> ?_⟩,fun h5=>hbad fun ho=>h5 (hg ho).1⟩
   ·have:=hk.1 (hg ho).2;omega
   ·by_cases hji:j=i
    ·subst hji;exact⟨h5,hk.2 ⟨by omega,by omega⟩⟩
    ·exact hall j (by omega)
   ·have:=hk.1 (hg ho).2;omega
  ·have hi':i=f.l.length:=by omega
   subst hi'
   rw [chkF,if_pos]
   exact⟨by omega,by unfold MM;omega,by omega,(okEv_get f.next f.l).2 hall⟩⟩
open Go Go.Proofs Go.IntWalk
@[go_sem] theorem Hd.eqD {a b:Hd}:eqD Tryz.prog 157 [D.c (.int .u64 (a.id:Int)),D.c (.int .u64 (a.n:Int))] [D.c (.int .u64 (b.id:Int)),D.c (.int .u64 (b.n:Int))]=some (decide (a=b)):=by
 cases a;cases b
 simp only [Dm.eqD,eqOf_157,eqCells,eqC,List.getElem?_cons_zero,List.getElem?_cons_succ,if_true,Option.some.injEq,Hd.mk.injEq]
 rw [Bool.eq_iff_iff]
 simp [Int.ofNat_inj]
theorem mem_pend {l:List Py} {q:Py}:q∈pend l↔q∈l∧q.state=1:=by
 unfold pend;rw [List.mem_filter,decide_eq_true_eq]
open Go Go.Proofs Go.IntWalk
attribute [go_sem] Tryz.f145
@[go_sem] def c_r13holds:Ct Tryz.prog:=⟨145,arg kChs fun cs=>arg kU64 fun id=>arg kHd fun h=>pu (.bool (decide ((id,h.id,h.n)∈hlL cs))),arg_ok fun cs=>arg_ok fun id=>arg_ok fun h=>ret_ok fun _=>by
 refine run [] Tryz.f145 lv145 fun hT=>vc ?_
 refine fun hl=>SWp.loop (ι:={i:Nat // i≤cs.length∧(id,h.id,h.n)∉hlL (cs.take i)}) (fun i=>⟨[(1, .c (.int .u64 id)),(5, .ref 0 0),(11, .sl (chs cs)),(12, .int .i64 cs.length),(13, .int .i64 i.1)],[(0, .box [.c (.int .u64 h.id), .c (.int .u64 h.n)])],1⟩) (fun i=>cs.length - i.1) ⟨0,by simp [hlL]⟩ ?_ ?_
 ·simp [go_sem]
 ·rintro⟨i,hi,hnot⟩
  refine aw hT lv145 (vc ?_)
  refine⟨fun h1=>⟨by omega,fun hhl=> ?_⟩,fun h1=> ?_⟩
  ·have hi':i<cs.length:=by omega
   have hsu:hlL (cs.take (i+1))=hlL (cs.take i)++hlC (cs.getD i default):=by
    rw [take_succ hi',hlL_app];simp [hlL]
   generalize hc:cs.getD i default=c at*
   refine SWp.loop (ι:={k:Nat // k≤c.holds.length∧∀j,j<k→¬(c.id=id∧c.holds.getD j default=h)}) (fun k=>⟨[(1, .c (.int .u64 id)),(5, .ref 0 0),(8, .ref 1 0),(11, .sl (chs cs)),(12, .int .i64 cs.length),(13, .int .i64 i),(18, .c (.sl (hds c.holds))),(19, .int .i64 c.holds.length),(20, .int .i64 k.1)],
    [(1, .box [.c (.int .u64 c.id), .c (.int .u64 c.loc), .c (.int .u64 c.rem), .c (.int .u64 c.res), .c (.int .u64 c.most), .c (.sl (hds c.holds)), .c (.bool c.op)]),(0, .box [.c (.int .u64 h.id), .c (.int .u64 h.n)])],2⟩) (fun k=>c.holds.length - k.1) ⟨0,by simp⟩ ?_ ?_
   ·simp [go_sem]
   ·rintro⟨k,hk,hin⟩
    refine aw hT lv145 (vc ?_)
    have hin1:∀a b n,(a,b,n)∈hlC c↔c.id=a∧∃x∈c.holds,x.id=b∧x.n=n:=fun a b n=>by
     unfold hlC
     rw [List.mem_map]
     constructor
     ·rintro⟨x,hx,he⟩
      simp only [Prod.mk.injEq]at he
      exact⟨he.1,x,hx,he.2⟩
     ·rintro⟨he,x,hx,h1,h2⟩
      exact⟨x,hx,by rw [he,h1,h2]⟩
    have hgo:(¬(c.id=id∧c.holds.getD k default=h))→k<c.holds.length→∃j:{k:Nat // k≤c.holds.length∧∀j,j<k→¬(c.id=id∧c.holds.getD j default=h)},c.holds.length - j.1<c.holds.length - k∧IntKind.i64.wrap ((k:Int)+1)=j.1:=fun hn hk'=>by
     refine⟨⟨k+1,hk',fun j hj=> ?_⟩,by dsimp only;omega,i64_in _ (by omega)⟩
     by_cases hji:j=k
     ·subst hji;exact hn
     ·exact hin j (by omega)
    refine⟨fun h2=>⟨by omega,fun h3=>⟨fun h4=>(decide_eq_true ?_).symm,fun h4=>hgo (fun h=>h4 h.2) (by omega)⟩,fun h3=>hgo (fun h=>h3 (by omega)) (by omega)⟩,fun h2=>⟨⟨i+1,hi', ?_⟩,by dsimp only;omega,i64_in _ (by omega)⟩⟩
    ·refine List.mem_flatMap.2 ⟨c,by rw [←hc];exact mem_getD.2 ⟨i,hi',rfl⟩,(hin1 _ _ _).2 ⟨by omega,h, ?_,rfl,rfl⟩⟩
     rw [←h4];exact mem_getD.2 ⟨k,by omega,rfl⟩
    ·rw [hsu,List.mem_append,not_or]
     refine⟨hnot,fun hm=> ?_⟩
     obtain⟨g1,x,hx,g2,g3⟩:=(hin1 _ _ _).1 hm
     obtain⟨j,hj,rfl⟩:=mem_getD.1 hx
     refine hin j (by omega) ⟨g1, ?_⟩
     cases hh:c.holds.getD j default with
     |mk a b=>rw [hh]at g2 g3;cases h;simp_all
  ·have hi':i=cs.length:=by omega
   subst hi'
   rw [List.take_length]at hnot
   exact(decide_eq_false hnot).symm⟩
attribute [go_sem] Tryz.f96
@[go_sem] def c_r13agree:Ct Tryz.prog:=⟨96,arg kPys fun l=>arg kChs fun cs=>ret (∀c∈cs,c.holds.length≤1000000) (.tup [.bool (agrL l cs).1, .int .i64 (agrL l cs).2]) [],arg_ok fun l=>arg_ok fun cs=>ret_ok fun hs=>by
 refine run [c_r13check,c_r13holds] Tryz.f96 lv96 fun hT=>vc ?_
 have hbad:¬(okPy l∧cs.length≤32∧(cs.map Ch.id).Nodup)→false=(agrL l cs).1∧1=(agrL l cs).2:=fun h=>by rw [agrL,if_neg h];exact⟨rfl,rfl⟩
 have hcz:chkP l=0↔okPy l:=by unfold chkP;split<;>rename_i h<;>simp only [h]<;>decide
 refine⟨fun h0 hl=>⟨fun h=>hbad fun ho=> ?_,fun hle _=> ?_⟩,fun h0=>hbad fun h=>h0 (hcz.2 h.1)⟩
 ·have:=ho.2.1;omega
 have hok:=hcz.1 h0
 refine SWp.loop (ι:={i:Nat // i≤cs.length∧((cs.take i).map Ch.id).Nodup}) (fun i=>⟨[(0, .sl (pys l)),(1, .sl (chs cs)),(6, .int .i64 (hlL (cs.take i.1)).length),(22, .sl (chs cs)),(23, .int .i64 cs.length),(24, .int .i64 i.1)],[],0⟩) (fun i=>cs.length - i.1) ⟨0,by simp⟩ ?_ ?_
 ·simp [go_sem,hlL]
 ·rintro⟨i,hi,hnd⟩
  refine aw hT lv96 (vc ?_)
  refine⟨fun h1=>⟨by omega,by omega,fun _=> ?_⟩,fun h1 _=> ?_⟩
  ·have hi':i<cs.length:=by omega
   have hlen:(cs.take i).length=i:=by rw [List.length_take];omega
   have hidl:(cs.take (i+1)).map Ch.id=(cs.take i).map Ch.id++[(cs.getD i default).id]:=by rw [take_succ hi',List.map_append];rfl
   have hsu:(hlL (cs.take (i+1))).length=(hlL (cs.take i)).length+(cs.getD i default).holds.length:=by
    rw [take_succ hi',hlL_app,List.length_append];simp [hlL,hlC]
   have hb1:=hs _ (mem_getD.2 ⟨i,hi',rfl⟩)
   have hb2:=hl_len (cs:=cs.take i) (n:=32) (fun c hc=>hs c (List.mem_of_mem_take hc)) (by omega)
   generalize hc:cs.getD i default=c at*
   refine SWp.loop (ι:={k:Nat // k≤(cs.take i).length∧∀j,j<k→((cs.take i).getD j default).id≠c.id}) (fun k=>⟨[(0, .sl (pys l)),(1, .sl (chs cs)),(6, .int .i64 (hlL (cs.take i)).length),(8, .ref 0 0),(22, .sl (chs cs)),(23, .int .i64 cs.length),(24, .int .i64 i),(31, .c (.sl (chs (cs.take i)))),(32, .int .i64 (cs.take i).length),(33, .int .i64 k.1)],
    [(0, .box [.c (.int .u64 c.id), .c (.int .u64 c.loc), .c (.int .u64 c.rem), .c (.int .u64 c.res), .c (.int .u64 c.most), .c (.sl (hds c.holds)), .c (.bool c.op)])],1⟩) (fun k=>(cs.take i).length - k.1) ⟨0,by simp⟩ ?_ ?_
   ·simp [go_sem]
   ·rintro⟨k,hk,hin⟩
    refine aw hT lv96 (vc ?_)
    refine⟨fun h2=>⟨by omega,fun h3=>hbad fun ho=> ?_,fun h3=>⟨⟨k+1,by omega,fun j hj=> ?_⟩,by dsimp only;omega,i64_in _ (by omega)⟩⟩,fun h2 _=>⟨⟨i+1,hi', ?_⟩,by dsimp only;omega,by rw [i64_in _ (by omega),hsu];omega,i64_in _ (by omega)⟩⟩
    ·have h4:(cs.map Ch.id).Nodup:=ho.2.2
     rw [←List.take_append_drop (i+1) cs,List.map_append]at h4
     have h5:=(List.nodup_append.1 h4).1
     rw [hidl,List.nodup_append]at h5
     exact h5.2.2 _ (List.mem_map.2 ⟨_,mem_getD.2 ⟨k,by omega,rfl⟩,rfl⟩) _ (.head _) (by omega)
    ·by_cases hji:j=k
     ·subst hji;omega
     ·exact hin j (by omega)
    ·rw [hidl,List.nodup_append]
     refine⟨hnd,List.nodup_cons.2 ⟨by simp,List.nodup_nil⟩,fun a ha b hb=> ?_⟩
     rw [List.mem_singleton]at hb
     obtain⟨x,hx,rfl⟩:=List.mem_map.1 ha
     obtain⟨j,hj,rfl⟩:=mem_getD.1 hx
     rw [hb];exact hin j (by omega)
  ·have hi':i=cs.length:=by omega
   subst hi'
   rw [List.take_length]at hnd⊢
   have hb2:=hl_len (cs:=cs) (n:=32) hs (by omega)
   have hA:agrL l cs=(decide ((∀p∈pend l,(p.chan,p.id,p.n)∈hlL cs)∧(hlL cs).length=(pend l).length),0):=by rw [agrL,if_pos ⟨hok,by omega,hnd⟩]
   have hl256:=hok.1
   refine SWp.loop (ι:={i:Nat // i≤l.length∧∀q∈pend (l.take i),(q.chan,q.id,q.n)∈hlL cs}) (fun i=>⟨[(1, .sl (chs cs)),(6, .int .i64 (hlL cs).length),(11, .int .i64 (pend (l.take i.1)).length),(49, .sl (pys l)),(50, .int .i64 l.length),(51, .int .i64 i.1)],[],0⟩) (fun i=>l.length - i.1) ⟨0,by simp,by simp [pend]⟩ ?_ ?_
   ·simp [go_sem,pend]
   ·rintro⟨i,hi,hall⟩
    refine aw hT lv96 (vc ?_)
    rw [hA]
    have hple:(pend (l.take i)).length≤i:=Nat.le_trans List.filter_sublist.length_le (by rw [List.length_take];exact Nat.min_le_left _ _)
    refine⟨fun h2=> ?_,fun h2=> ?_⟩
    ·have hi':i<l.length:=by omega
     have hsp:pend (l.take (i+1))=pend (l.take i)++(if(l.getD i default).state=1 then [l.getD i default]else []):=by
      rw [take_succ hi',pend_app]
      congr 1
      unfold pend
      split
      ·rename_i h;rw [List.filter_cons_of_pos (by simpa using h),List.filter_nil]
      ·rename_i h;rw [List.filter_cons_of_neg (by simpa using h),List.filter_nil]
     refine⟨by omega,fun h3=>⟨fun h4=>⟨⟨i+1,hi',fun q hq=> ?_⟩,by dsimp only;omega,by rw [i64_in _ (by omega),hsp,if_pos h3,List.length_append,List.length_singleton];omega,i64_in _ (by omega)⟩,fun h4=>⟨(decide_eq_false fun h=>h4 (h.1 _ (mem_pend.2 ⟨mem_getD.2 ⟨i,hi',rfl⟩,h3⟩))).symm,rfl⟩⟩,fun h3=>⟨⟨i+1,hi',fun q hq=> ?_⟩,by dsimp only;omega,by rw [hsp,if_neg h3,List.append_nil],i64_in _ (by omega)⟩⟩
     ·rw [hsp,if_pos h3,List.mem_append,List.mem_singleton]at hq
      rcases hq with hq|rfl
      ·exact hall q hq
      ·exact h4
     ·rw [hsp,if_neg h3,List.append_nil]at hq;exact hall q hq
    ·have hi':i=l.length:=by omega
     subst hi'
     rw [List.take_length]at hall⊢
     refine⟨decide_eq_decide.2 ⟨fun h=>⟨hall,by omega⟩,fun h=>by rw [h.2]⟩,rfl⟩⟩
open Go Go.Proofs Go.IntWalk
attribute [go_sem] Tryz.f54
@[go_sem] def c_r17check:Ct Tryz.prog:=⟨54,arg kWl fun w=>ret (w.f.next≤18446744073709551615) (.int .i64 (chkW w)) [],arg_ok fun w=>ret_ok fun h=>by
 refine run [c_r10check,c_r12check,c_r13check,c_r16check,c_r13agree] Tryz.f54 lv54 fun hT=>vc ?_
 have hbad:¬okW w→1=chkW w:=fun h=>by rw [chkW,if_neg h]
 have hl0:chkL w.c=0↔okLd w.c:=by unfold chkL;split<;>rename_i h<;>simp only [h]<;>decide
 have hi0:chkI w.i=0↔okIv w.i:=by unfold chkI;split<;>rename_i h<;>simp only [h]<;>decide
 have hp0:chkP w.p=0↔okPy w.p:=by unfold chkP;split<;>rename_i h<;>simp only [h]<;>decide
 refine⟨fun h1=>⟨fun h2=>⟨fun h3=>⟨h,fun h4 _=>⟨fun h5=>⟨fun h6=>⟨fun h7=>hbad fun ho=> ?_,fun h7 _=> ?_⟩,fun h6=>hbad fun ho=> ?_⟩,fun h5=>hbad fun ho=> ?_⟩,fun h4=>hbad fun ho=>h4 (chkF_0.2 ho.2.2.1)⟩,fun h3=>hbad fun ho=>h3 (hp0.2 (agr_parts.1 ho.2.2.2.2.2.2.2).1)⟩,fun h2=>hbad fun ho=>h2 (hi0.2 ho.2.1)⟩,fun h1=>hbad fun ho=>h1 (hl0.2 ho.1)⟩
 ·have:=ho.2.2.2.2.2.1;unfold MM at this;omega
 rotate_left 1
 ·have:=ho.2.2.2.2.1;omega
 ·have:=ho.2.2.2.1;omega
 have hpok:=hp0.1 h3
 have hp256:=hpok.1
 have hL:=hl0.1 h1
 refine SWp.loop (ι:={i:Nat // i≤w.p.length∧∀j,j<i→(w.p.getD j default).id<w.next}) (fun i=>⟨[(1, .ref 0 0),(46, .sl (pys w.p)),(47, .int .i64 w.p.length),(48, .int .i64 i.1)],
  [(0, .box [.sl (chs w.c), .sl (wts w.w), .sl (ivs w.i), .sl (pys w.p), .c (.int .u64 w.f.next), .sl (evs w.f.l), .c (.int .u64 w.next), .c (.int .u64 w.tick)])],1⟩) (fun i=>w.p.length - i.1) ⟨0,by simp⟩ ?_ ?_
 ·simp [go_sem]
 ·rintro⟨i,hi,hall⟩
  refine aw hT lv54 (vc ?_)
  refine⟨fun h8=>⟨by omega,fun h9=>hbad fun ho=> ?_,fun h9=>⟨⟨i+1,by omega,fun j hj=> ?_⟩,by dsimp only;omega,i64_in _ (by omega)⟩⟩,fun h8=>⟨fun c hc=>by have:=(hL.2.1 c hc).2.2.1;omega,fun h9=> ?_,fun h9=>hbad fun ho=> ?_⟩⟩
  ·have:=okW_ids ho _ (mem_getD.2 ⟨i,by omega,rfl⟩);omega
  ·by_cases hji:j=i
   ·subst hji;omega
   ·exact hall j (by omega)
  ·have ha:agrL w.p w.c=(true,0):=by
    refine Prod.ext h9 ?_
    unfold agrL at h9⊢
    split at h9
    ·rename_i h;rw [if_pos h]
    ·cases h9
   rw [chkW,if_pos]
   exact⟨hL,hi0.1 h2,chkF_0.1 h4,by omega,by omega,by unfold MM;omega,fun _=>hall _ (by omega),ha⟩
  ·rw [ho.2.2.2.2.2.2.2]at h9;cases h9⟩
attribute [go_sem] Tryz.f106
@[go_sem] def c_r16add:Ct Tryz.prog:=⟨106,arg kFd fun f=>arg kI64 fun k=>arg kU64 fun a=>arg kU64 fun n=>ret (f.next≤18446744073709551615) (.tup [.agg [.int .u64 (addF f k a n).1.next, .sl (evs (addF f k a n).1.l)], .int .u64 (addF f k a n).2.1, .int .i64 (addF f k a n).2.2]) [],arg_ok fun f=>arg_ok fun k=>arg_ok fun a=>arg_ok fun n=>ret_ok fun h=>by
 refine run [c_r16check] Tryz.f106 lv106 fun hT=>vc ?_
 have hbad:∀e:Int,addF f k a n=(⟨0,[]⟩,0,e)→(0=((addF f k a n).1.next:Int)∧evs (addF f k a n).1.l=[])∧0=((addF f k a n).2.1:Int)∧e=(addF f k a n).2.2:=fun e he=>by rw [he];exact⟨⟨rfl,rfl⟩,rfl,rfl⟩
 have hk:kindS k=true↔0≤k∧k<16:=decide_eq_true_iff
 have hno:¬(okFd f∧kindS k=true)→addF f k a n=(⟨0,[]⟩,0,1):=fun h=>by rw [addF,if_neg h]
 refine⟨h,fun h1=>⟨fun h2=>⟨fun h3=>hbad 1 (hno fun h=>by have:=hk.1 h.2;omega),fun h3=>⟨fun h4=>hbad 7 ?_,fun h4=> ?_⟩⟩,fun h2=>hbad 1 (hno fun h=>by have:=hk.1 h.2;omega)⟩,fun h1=>hbad 1 (hno fun h=>h1 (chkF_0.2 h.1))⟩
 ·rw [addF,if_pos ⟨chkF_0.1 h1,hk.2 ⟨by omega,by omega⟩⟩,if_pos (by unfold MM;omega)]
 refine dr us106_5 hT (vc ?_)
 have ho:=chkF_0.1 h1
 have hl64:f.l.length≤64:=by have:=ho.2.2.1;omega
 have hnm:f.next≤4611686018427387904:=ho.2.1
 rw [addF,if_pos ⟨ho,hk.2 ⟨by omega,by omega⟩⟩,if_neg (by unfold MM;omega)]
 refine⟨by omega,by omega,fun _=>⟨fun h5=>⟨by omega, ?_⟩,fun h5=> ?_⟩⟩
 ·refine dr us106_8 hT (vc ?_)
  rw [show f.l.length - 63=1 by omega]
  exact⟨u64_in _ (by omega),rfl,_,_,_,rfl⟩
 ·refine dr us106_8 hT (vc ?_)
  rw [show f.l.length - 63=0 by omega,List.drop_zero,List.length_append]
  exact⟨u64_in _ (by omega),rfl,_,_,_,rfl⟩⟩
open Go Go.Proofs Go.IntWalk
attribute [go_sem] Tryz.f43
@[go_sem] def c_r9copy:Ct Tryz.prog:=⟨43,arg kCh fun c=>ret (c.holds.length≤1000000) (.agg [.int .u64 c.id, .int .u64 c.loc, .int .u64 c.rem, .int .u64 c.res, .int .u64 c.most, .sl (hds c.holds), .bool c.op]) [],arg_ok fun c=>ret_ok fun h=>by
 refine run [] Tryz.f43 lv43 fun hT=>vc ?_
 exact⟨by omega,_,_,_,rfl⟩⟩
attribute [go_sem] Tryz.f19
theorem r10copyg_ok (l:List Ch) (h:l.length≤1000000∧∀c∈l,c.holds.length≤1000000):FreshFn Tryz.prog 19 [.sl (chs l)] (.vec 0 l.length) ([(7,53,true,chs l)]):=by
 refine runF [c_r9copy] Tryz.f19 lv19 fun hT=>vc ?_
 refine fun _=>SWp.nilvec 3 7 53 rfl (Nat.zero_le _) ?_
 refine SWp.loop (ι:={i:Nat // i≤l.length}) (fun i=>⟨[(3, .vec 0 i.1),(6, .sl (chs l)),(7, .int .i64 l.length),(8, .int .i64 i.1)],[(0, .vec true 7 53 (chs (l.take i.1)))],1⟩) (fun i=>l.length - i.1) ⟨0,by simp⟩ ?_ ?_
 ·simp [go_sem];rfl
 ·rintro⟨i,hi⟩
  refine aw hT lv19 (vc ?_)
  refine⟨fun h1=>⟨h1,h.2 _ (mem_getD.2 ⟨i,by omega,rfl⟩),⟨by rw [List.length_take];omega,by rw [List.length_take];omega⟩,⟨i+1,by omega⟩,by dsimp only;omega,⟨rfl,i64_in _ (by omega)⟩,by dsimp only;rw [take_succ (by omega)]⟩,fun h1=> ?_⟩
  have hi':i=l.length:=by omega
  subst hi'
  rw [List.take_length]
  exact⟨[some 0],by simp [go_sem],rfl,rfl⟩
@[go_sem] def c_r10copyp:Ct Tryz.prog:=⟨19,arg kChs fun l=>ret (l.length≤1000000∧∀c∈l,c.holds.length≤1000000) (.sl (chs l)) [],arg_ok fun l=>ret_ok fun h=>by
 refine FreshFn.toPure (r10copyg_ok l h) ?_
 simp [go_sem,pur3,pur2,pur1,pw,news,lk]⟩
attribute [go_sem] Tryz.f6
@[go_sem] def c_r17copyg:Ct Tryz.prog:=⟨6,arg kWl fun w=>ret (smallW w) (.agg [.sl (chs w.c), .sl (wts w.w), .sl (ivs w.i), .sl (pys w.p), .int .u64 w.f.next, .sl (evs w.f.l), .int .u64 w.next, .int .u64 w.tick]) [],arg_ok fun w=>ret_ok fun h=>by
 refine run [c_r10copyp] Tryz.f6 lv6 fun hT=>vc ?_
 refine dr us6_1 hT (vc ?_)
 obtain⟨h1,h2,h3,h4,h5,h6⟩:=h
 exact⟨⟨h1,h2⟩,by omega,by omega,by omega,by omega,⟨_,_,_,rfl⟩,⟨_,_,_,rfl⟩,⟨_,_,_,rfl⟩,_,_,_,rfl⟩⟩
open Go Go.Proofs Go.IntWalk
theorem pos_first {α:Type} [Inhabited α] {key:α→Nat} {l:List α} {i id:Nat} (hu:Srt.Up key ltN l) (hi:i<l.length) (h:key (l.getD i default)=id):Srt.pos key ltN l id=i∧Srt.thr key ltN l id=true:=by
 have h1:Srt.pos key ltN l id=i:=Srt.pos_eq (by omega) (fun j hj=>by have:=Srt.up_get.1 hu j i hj hi;rw [h]at this;exact this) fun _ h2=>by rw [h]at h2;exact absurd h2 (Nat.lt_irrefl _)
 exact⟨h1,(Srt.thr_iff Srt.totNat hu).2 ⟨_,mem_getD.2 ⟨i,hi,rfl⟩,h⟩⟩
theorem thr_no {α:Type} [Inhabited α] {key:α→Nat} {l:List α} {id:Nat} (hu:Srt.Up key ltN l) (h:∀j,j<l.length→key (l.getD j default)≠id):Srt.thr key ltN l id=false:=by
 rw [Bool.eq_false_iff]
 intro ht
 obtain⟨x,hx,hk⟩:=(Srt.thr_iff Srt.totNat hu).1 ht
 obtain⟨j,hj,rfl⟩:=mem_getD.1 hx
 exact h j hj hk
theorem okLd_up {l:List Ch} (h:okLd l):Srt.Up Ch.id ltN l:=(Srt.chn_up (lt:=ltN) Srt.totNat).1 (by exact h.2.2.1)
attribute [go_sem] Tryz.f149
@[go_sem] def c_r10find:Ct Tryz.prog:=⟨149,arg kChs fun l=>arg kU64 fun id=>ret (okLd l) (.int .i64 (if Srt.thr Ch.id ltN l id=true then((Srt.pos Ch.id ltN l id:Nat):Int)else -1)) [],arg_ok fun l=>arg_ok fun id=>ret_ok fun h=>by
 refine run [] Tryz.f149 lv149 fun hT=>vc ?_
 have hu:=okLd_up h
 have h32:=h.1
 refine fun _=>ixl 9 l.length (fun i=>∀j,j<i→(l.getD j default).id≠id) (by simp) fun i hi hall=> ?_
 refine aw hT lv149 (vc ?_)
 refine⟨fun h1=>⟨by omega,fun h2=> ?_,fun h2=>⟨⟨i+1,by omega,fun j hj=> ?_⟩,by dsimp only;omega,i64_in _ (by omega)⟩⟩,fun h1=> ?_⟩
 ·have:=pos_first (id:=id) hu (show i<l.length by omega) (by omega)
  rw [if_pos this.2,this.1]
 ·by_cases hji:j=i
  ·subst hji;omega
  ·exact hall j (by omega)
 ·rw [thr_no hu fun j hj=>hall j (by omega)];rfl⟩
attribute [go_sem] Tryz.f151
@[go_sem] def c_r9find:Ct Tryz.prog:=⟨151,arg kHds fun l=>arg kU64 fun id=>ret (l.length≤64∧Srt.Up Hd.key ltN l) (.tup [.agg [.int .u64 (if Srt.thr Hd.key ltN l id=true then l.getD (Srt.pos Hd.key ltN l id) default else default:Hd).id, .int .u64 (if Srt.thr Hd.key ltN l id=true then l.getD (Srt.pos Hd.key ltN l id) default else default:Hd).n], .bool (Srt.thr Hd.key ltN l id)]) [],arg_ok fun l=>arg_ok fun id=>ret_ok fun h=>by
 refine run [] Tryz.f151 lv151 fun hT=>vc ?_
 obtain⟨h64,hu⟩:=h
 refine fun _=>ixl 10 l.length (fun i=>∀j,j<i→(l.getD j default).id≠id) (by simp) fun i hi hall=> ?_
 refine aw hT lv151 (vc ?_)
 refine⟨fun h1=>⟨by omega,fun h2=> ?_,fun h2=>⟨⟨i+1,by omega,fun j hj=> ?_⟩,by dsimp only;omega,i64_in _ (by omega)⟩⟩,fun h1=> ?_⟩
 ·have:=pos_first (key:=Hd.key) (id:=id) hu (show i<l.length by omega) (show(l.getD i default).id=id by omega)
  rw [if_pos this.2,this.1,this.2];exact⟨⟨rfl,rfl⟩,rfl⟩
 ·by_cases hji:j=i
  ·subst hji;omega
  ·exact hall j (by omega)
 ·rw [thr_no (key:=Hd.key) hu fun j hj=>hall j (by omega)];exact⟨⟨rfl,rfl⟩,rfl⟩⟩
attribute [go_sem] Tryz.f100
@[go_sem] def c_r13forget:Ct Tryz.prog:=⟨100,arg kPys fun l=>ret (l.length≤256) (.sl (pys (match idle l with|some k=>l.eraseIdx k|none=>l))) [],arg_ok fun l=>ret_ok fun hl=>by
 refine run [] Tryz.f100 lv100 fun hT=>vc ?_
 refine fun _=>ixl 7 l.length (fun i=>∀j,j<i→(l.getD j default).state=1) (by simp) fun i hi hall=> ?_
 refine aw hT lv100 (vc ?_)
 refine⟨fun h1=>⟨by omega,fun h2=>⟨⟨i+1,by omega,fun j hj=> ?_⟩,by dsimp only;omega,i64_in _ (by omega)⟩,fun h2=> ?_⟩,fun h1=> ?_⟩
 ·by_cases hji:j=i
  ·subst hji;exact h2
  ·exact hall j (by omega)
 ·refine dr us100_5 hT (vc ?_)
  have hid:idle l=some i:=by
   rw [idle,List.findIdx?_eq_some_iff_getElem]
   refine⟨by omega,by rw [←getD_lt (by omega)];simpa using h2,fun j hj=> ?_⟩
   have:=hall j hj
   rw [getD_lt (by omega)]at this
   simpa using this
  have hin:IntKind.i64.wrap ((i:Int)+1)=((i+1:Nat):Int):=by rw [i64_in _ (by omega)];omega
  rw [hin,hid,Int.toNat_natCast]
  dsimp only
  have hlt:(List.take i l).length=i:=by rw [List.length_take];omega
  rw [List.eraseIdx_eq_take_drop_succ,List.length_append,hlt,List.length_drop]
  exact⟨by omega,by omega,by omega,by omega,rfl,_,_,_,rfl⟩
 ·have:idle l=none:=by
   rw [idle,List.findIdx?_eq_none_iff]
   intro x hx
   obtain⟨j,hj,rfl⟩:=mem_getD.1 hx
   simpa using hall j (by omega)
  rw [this]⟩
attribute [go_sem] Tryz.f101
@[go_sem] def c_r13with:Ct Tryz.prog:=⟨101,arg kPys fun l=>arg kPy fun r=>ret (l.length≤256∧Srt.Up Py.id ltN l) (.sl (pys (Srt.put Py.id ltN l r))) [],arg_ok fun l=>arg_ok fun r=>ret_ok fun hl=>by
 refine run [] Tryz.f101 lv101 fun hT=>vc ?_
 have hu:=hl.2
 have hl1:=hl.1
 rw [←Srt.put_filter Srt.totNat hu]
 refine fun _=>nv 5 5 98 ?_
 refine lpl (ι:={i:Nat // i≤l.length}) (fun s i=>((s.up 5 (.vec 1 ((l.take i.1).filter (fun e=>decide (e.id<r.id))).length)).up 12 (.int .i64 i.1)).uo 1 (.vec true 5 98 (pys ((l.take i.1).filter (fun e=>decide (e.id<r.id)))))) (fun i=>l.length - i.1) ⟨0,by simp⟩ ?_ (by simp [go_sem];rfl)
 rintro⟨i,hi⟩
 refine aw hT lv101 (vc ?_)
 have hf:∀h:i<l.length,(l.take (i+1)).filter (fun e=>decide (e.id<r.id))=(l.take i).filter (fun e=>decide (e.id<r.id))++if(l.getD i default).id<r.id then [l.getD i default]else []:=fun h=>by
  rw [take_succ h,List.filter_append]
  congr 1
  by_cases hx:(l.getD i default).id<r.id
  ·rw [if_pos hx,List.filter_cons_of_pos (by simpa using hx)];rfl
  ·rw [if_neg hx,List.filter_cons_of_neg (by simpa using hx)];rfl
 have hlen:((l.take i).filter (fun e=>decide (e.id<r.id))).length≤i:=Nat.le_trans (List.length_filter_le _ _) (by rw [List.length_take];omega)
 refine⟨fun h2=>⟨h2,fun h3=>⟨by omega,⟨i+1,by omega⟩,by dsimp only;omega,⟨?_,i64_in _ (by omega)⟩, ?_⟩,fun h3=>⟨⟨i+1,by omega⟩,by dsimp only;omega,⟨?_,i64_in _ (by omega)⟩, ?_⟩⟩,fun h2=>⟨by omega,fun _=> ?_⟩⟩
 ·dsimp only;rw [hf (by omega),if_pos (by omega),List.length_append];rfl
 ·dsimp only;rw [hf (by omega),if_pos (by omega)]
 ·dsimp only;rw [hf (by omega),if_neg (by omega),List.append_nil]
 ·dsimp only;rw [hf (by omega),if_neg (by omega),List.append_nil]
 have hi':i=l.length:=by omega
 subst hi'
 rw [List.take_length]at hlen⊢
 clear hf
 have hA:l.filter (fun e=>decide (ltN e.id r.id))=l.filter (fun e=>decide (e.id<r.id)):=rfl
 rw [hA]
 have hm:∀x∈l.filter (fun e=>decide (e.id<r.id)),x∈l:=fun x hx=>(List.mem_filter.1 hx).1
 generalize l.filter (fun e=>decide (e.id<r.id))=A at*
 refine lpl (ι:={i:Nat // i≤l.length}) (fun s i=>((s.up 5 (.vec 1 (A++r::(l.take i.1).filter (fun e=>decide (r.id<e.id))).length)).up 32 (.int .i64 i.1)).uo 1 (.vec true 5 98 (pys (A++r::(l.take i.1).filter (fun e=>decide (r.id<e.id)))))) (fun i=>l.length - i.1) ⟨0,by simp⟩ ?_
 rintro⟨i,hi⟩
 refine aw hT lv101 (vc ?_)
 have hf:∀h:i<l.length,(l.take (i+1)).filter (fun e=>decide (r.id<e.id))=(l.take i).filter (fun e=>decide (r.id<e.id))++if r.id<(l.getD i default).id then [l.getD i default]else []:=fun h=>by
  rw [take_succ h,List.filter_append]
  congr 1
  by_cases hx:r.id<(l.getD i default).id
  ·rw [if_pos hx,List.filter_cons_of_pos (by simpa using hx)];rfl
  ·rw [if_neg hx,List.filter_cons_of_neg (by simpa using hx)];rfl
 have hlen2:((l.take i).filter (fun e=>decide (r.id<e.id))).length≤i:=Nat.le_trans (List.length_filter_le _ _) (by rw [List.length_take];omega)
 refine⟨fun h2=>⟨h2,fun h3=>⟨by omega,⟨i+1,by omega⟩,by dsimp only;omega,⟨?_,i64_in _ (by omega)⟩, ?_⟩,fun h3=>⟨⟨i+1,by omega⟩,by dsimp only;omega,⟨?_,i64_in _ (by omega)⟩, ?_⟩⟩,fun h2=> ?_⟩
 ·dsimp only;rw [hf (by omega),if_pos (by omega),List.length_append];rfl
 ·dsimp only;rw [hf (by omega),if_pos (by omega)]
 ·dsimp only;rw [hf (by omega),if_neg (by omega),List.append_nil]
 ·dsimp only;rw [hf (by omega),if_neg (by omega),List.append_nil]
 ·have hi':i=l.length:=by omega
  subst hi'
  rw [List.take_length]at hlen2⊢
  exact⟨rfl,_,_,_,rfl⟩⟩
attribute [go_sem] Tryz.f105
@[go_sem] def c_r10with:Ct Tryz.prog:=⟨105,arg kChs fun l=>arg kCh fun r=>ret ((l.length≤256∧r.holds.length≤1000000∧∀c∈l,c.holds.length≤1000000)∧Srt.Up Ch.id ltN l) (.sl (chs (Srt.put Ch.id ltN l r))) [],arg_ok fun l=>arg_ok fun r=>ret_ok fun hl=>by
 refine run [c_r10copyp] Tryz.f105 lv105 fun hT=>vc ?_
 have hu:=hl.2
 have hl1:=hl.1
 rw [←Srt.put_filter Srt.totNat hu]
 refine fun _=>nv 5 7 53 ?_
 refine lpl (ι:={i:Nat // i≤l.length}) (fun s i=>((s.up 5 (.vec 1 ((l.take i.1).filter (fun e=>decide (e.id<r.id))).length)).up 12 (.int .i64 i.1)).uo 1 (.vec true 7 53 (chs ((l.take i.1).filter (fun e=>decide (e.id<r.id)))))) (fun i=>l.length - i.1) ⟨0,by simp⟩ ?_ (by simp [go_sem];rfl)
 rintro⟨i,hi⟩
 refine aw hT lv105 (vc ?_)
 have hf:∀h:i<l.length,(l.take (i+1)).filter (fun e=>decide (e.id<r.id))=(l.take i).filter (fun e=>decide (e.id<r.id))++if(l.getD i default).id<r.id then [l.getD i default]else []:=fun h=>by
  rw [take_succ h,List.filter_append]
  congr 1
  by_cases hx:(l.getD i default).id<r.id
  ·rw [if_pos hx,List.filter_cons_of_pos (by simpa using hx)];rfl
  ·rw [if_neg hx,List.filter_cons_of_neg (by simpa using hx)];rfl
 have hlen:((l.take i).filter (fun e=>decide (e.id<r.id))).length≤i:=Nat.le_trans (List.length_filter_le _ _) (by rw [List.length_take];omega)
 refine⟨fun h2=>⟨h2,fun h3=>⟨by omega,⟨i+1,by omega⟩,by dsimp only;omega,⟨?_,i64_in _ (by omega)⟩, ?_⟩,fun h3=>⟨⟨i+1,by omega⟩,by dsimp only;omega,⟨?_,i64_in _ (by omega)⟩, ?_⟩⟩,fun h2=>⟨by omega,fun _=> ?_⟩⟩
 ·dsimp only;rw [hf (by omega),if_pos (by omega),List.length_append];rfl
 ·dsimp only;rw [hf (by omega),if_pos (by omega)]
 ·dsimp only;rw [hf (by omega),if_neg (by omega),List.append_nil]
 ·dsimp only;rw [hf (by omega),if_neg (by omega),List.append_nil]
 have hi':i=l.length:=by omega
 subst hi'
 rw [List.take_length]at hlen⊢
 clear hf
 have hA:l.filter (fun e=>decide (ltN e.id r.id))=l.filter (fun e=>decide (e.id<r.id)):=rfl
 rw [hA]
 have hm:∀x∈l.filter (fun e=>decide (e.id<r.id)),x∈l:=fun x hx=>(List.mem_filter.1 hx).1
 generalize l.filter (fun e=>decide (e.id<r.id))=A at*
 refine lpl (ι:={i:Nat // i≤l.length}) (fun s i=>((s.up 5 (.vec 1 (A++r::(l.take i.1).filter (fun e=>decide (r.id<e.id))).length)).up 32 (.int .i64 i.1)).uo 1 (.vec true 7 53 (chs (A++r::(l.take i.1).filter (fun e=>decide (r.id<e.id)))))) (fun i=>l.length - i.1) ⟨0,by simp⟩ ?_
 rintro⟨i,hi⟩
 refine aw hT lv105 (vc ?_)
 have hf:∀h:i<l.length,(l.take (i+1)).filter (fun e=>decide (r.id<e.id))=(l.take i).filter (fun e=>decide (r.id<e.id))++if r.id<(l.getD i default).id then [l.getD i default]else []:=fun h=>by
  rw [take_succ h,List.filter_append]
  congr 1
  by_cases hx:r.id<(l.getD i default).id
  ·rw [if_pos hx,List.filter_cons_of_pos (by simpa using hx)];rfl
  ·rw [if_neg hx,List.filter_cons_of_neg (by simpa using hx)];rfl
 have hlen2:((l.take i).filter (fun e=>decide (r.id<e.id))).length≤i:=Nat.le_trans (List.length_filter_le _ _) (by rw [List.length_take];omega)
 refine⟨fun h2=>⟨h2,fun h3=>⟨by omega,⟨i+1,by omega⟩,by dsimp only;omega,⟨?_,i64_in _ (by omega)⟩, ?_⟩,fun h3=>⟨⟨i+1,by omega⟩,by dsimp only;omega,⟨?_,i64_in _ (by omega)⟩, ?_⟩⟩,fun h2=> ?_⟩
 ·dsimp only;rw [hf (by omega),if_pos (by omega),List.length_append];rfl
 ·dsimp only;rw [hf (by omega),if_pos (by omega)]
 ·dsimp only;rw [hf (by omega),if_neg (by omega),List.append_nil]
 ·dsimp only;rw [hf (by omega),if_neg (by omega),List.append_nil]
 ·have hi':i=l.length:=by omega
  subst hi'
  rw [List.take_length]at hlen2⊢
  refine⟨⟨by omega,fun c hc=> ?_⟩,rfl⟩
  rcases List.mem_append.1 hc with h|h
  ·exact hl1.2.2 c (hm c h)
  ·rcases List.mem_cons.1 h with rfl|h
   ·exact hl1.2.1
   ·exact hl1.2.2 c (List.mem_filter.1 h).1⟩
open Go Go.Proofs Go.IntWalk
attribute [go_sem] Tryz.f56
@[go_sem] def c_r13start:Ct Tryz.prog:=⟨56,arg kPys fun l=>arg kPy fun p=>ret (∀x∈l,x.id<p.id) (.tup [.sl (pys (startP l p).1), .int .i64 (startP l p).2]) [],arg_ok fun l=>arg_ok fun p=>ret_ok fun hlt=>by
 refine run [c_r13check,c_r13may,c_r13get,c_r13forget,c_r13with] Tryz.f56 lv56 fun hT=>vc ?_
 have hcz:chkP l=0↔okPy l:=by unfold chkP;split<;>rename_i h<;>simp only [h]<;>decide
 have hbad:(¬okPy l∨¬okPy1 p∨p.state≠1)→pys (startP l p).1=[]∧1=(startP l p).2:=fun h=>by rw [startP,if_pos h];exact⟨rfl,rfl⟩
 refine⟨fun h0=>⟨fun h1=>⟨fun h2=> ?_,fun h2=>hbad (.inr (.inr h2))⟩,fun h1=>hbad (.inr (.inl h1))⟩,fun h0=>hbad (.inl fun h=>h0 (hcz.2 h))⟩
 have hok:=hcz.1 h0
 have hu:=okPy_up hok
 have hl:=hok.1
 have hn:¬(¬okPy l∨¬okPy1 p∨p.state≠1):=by simp [hok,h1,h2]
 have hthr:∀b:List Py,b.Sublist l→¬Srt.thr Py.id ltN b p.id=true:=fun b hb ht=>by
  obtain⟨x,hx,hk⟩:=(Srt.thr_iff Srt.totNat (List.Pairwise.sublist hb hu)).1 ht
  have:=hlt x (hb.subset hx);omega
 have ht:=hthr l (List.Sublist.refl _)
 have hg:(getP l p.id).2=5:=by rw [getP,if_pos hok,if_neg ht]
 rw [hg]
 have hput:∀b:List Py,b.Sublist l→Srt.put Py.id ltN b p=b++[p]:=fun b hb=>by
  rw [Srt.put,if_neg (hthr b hb),pos_last fun x hx=>hlt x (hb.subset hx),ins_last]
 refine⟨fun h3=>absurd h3 (by decide),fun _ _=>⟨fun h4=>⟨hl, ?_⟩,fun h4 _=>⟨fun h5=>absurd h5 h4,fun _=>⟨⟨hl,hu⟩, ?_⟩⟩⟩⟩
 ·have h4':l.length=256:=by omega
  rw [startP,if_neg hn,if_neg ht,if_pos h4']
  cases hi:idle l with
  |none=>exact fun _=>⟨fun _=>⟨rfl,rfl⟩,fun h=>absurd h4 h⟩
  |some k=>
   dsimp only
   have hk:k<l.length:=by unfold idle at hi;exact(List.findIdx?_eq_some_iff_getElem.1 hi).1
   have hsub:(l.eraseIdx k).Sublist l:=List.eraseIdx_sublist ..
   have hlen:(l.eraseIdx k).length=l.length - 1:=List.length_eraseIdx_of_lt hk
   refine fun _=>⟨fun h=>by omega,fun _=>⟨⟨by omega,List.Pairwise.sublist hsub hu⟩, ?_,rfl⟩⟩
   rw [hput _ hsub,pos_last hlt,if_pos hk,←hlen,ins_last]
 ·rw [startP,if_neg hn,if_neg ht,if_neg (by omega),hput _ (List.Sublist.refl _),pos_last hlt,ins_last]
  exact⟨rfl,rfl⟩⟩
attribute [go_sem] Tryz.f104
@[go_sem] def c_r9hold:Ct Tryz.prog:=⟨104,arg kCh fun c=>arg kU64 fun id=>arg kU64 fun n=>pu (.tup [.agg [.int .u64 (holdC c id n).1.id, .int .u64 (holdC c id n).1.loc, .int .u64 (holdC c id n).1.rem, .int .u64 (holdC c id n).1.res, .int .u64 (holdC c id n).1.most, .sl (hds (holdC c id n).1.holds), .bool (holdC c id n).1.op], .int .i64 (holdC c id n).2]),arg_ok fun c=>arg_ok fun id=>arg_ok fun n=>ret_ok fun _=>by
 refine run [c_r9held,c_r4check,c_r9find] Tryz.f104 lv104 fun hT=>vc ?_
 have hbad:∀k,holdE c id n=k→¬k=0→(0=((holdC c id n).1.id:Int)∧0=((holdC c id n).1.loc:Int)∧0=((holdC c id n).1.rem:Int)∧0=((holdC c id n).1.res:Int)∧0=((holdC c id n).1.most:Int)∧hds (holdC c id n).1.holds=[]∧false=(holdC c id n).1.op)∧k=(holdC c id n).2:=fun k hk h0=>by
  rw [holdC,if_neg (by rw [hk];exact h0),hk];exact⟨⟨rfl,rfl,rfl,rfl,rfl,rfl,rfl⟩,rfl⟩
 rw [sumsC_0,mon1_0]
 refine⟨fun hok=>⟨fun hn=>⟨fun hm=>⟨fun hop=> ?_,fun hop=>hbad 14 ?_ (by decide)⟩,fun hm=>hbad 1 ?_ (by decide)⟩,fun hn=>hbad 1 ?_ (by decide)⟩,fun hok=>hbad 1 ?_ (by decide)⟩
 rotate_left 1
 ·rw [holdE,if_neg (by simp [hok,hm];omega),if_pos hop]
 ·rw [holdE,if_pos (.inr (.inr hm))]
 ·rw [holdE,if_pos (.inr (.inl (by omega)))]
 ·rw [holdE,if_pos (.inl hok)]
 have hop':¬c.op=false:=by rw [hop];decide
 have hMM:MM=4611686018427387904:=rfl
 have hno:¬(¬okCh c∨n=0∨¬n≤MM):=by simp [hok,hm];omega
 have hu:Srt.Up Hd.key ltN c.holds:=(Srt.chn_up (lt:=ltN) Srt.totNat).1 hok.2.2.2.2.2.1
 obtain⟨o1,o2,o3,_,_,_,o7,o8,o9,o10⟩:=hok
 have hs:(sumsC c).1=held c.holds:=by rw [sumsC,if_pos ⟨o1,o2,o3,by assumption,by assumption,by assumption,o7,o8,o9,o10⟩]
 rw [hs]
 refine⟨⟨o3,hu⟩,fun ht=>hbad 6 ?_ (by decide),fun ht _=>⟨fun h64=>hbad 7 ?_ (by decide),fun h64=>⟨fun h1=> ?_,fun h1=>hbad 9 ?_ (by decide)⟩⟩⟩
 ·rw [holdE,if_neg hno,if_neg hop',if_pos ht]
 ·rw [holdE,if_neg hno,if_neg hop',if_neg (by rw [ht];decide),if_pos (by omega)]
 rotate_left 1
 ·rw [holdE,if_neg hno,if_neg hop',if_neg (by rw [ht];decide),if_neg (by omega),if_pos (.inl (by omega))]
 rw [u64_in ((c.loc:Int) - c.res) (by omega),u64_in ((c.most:Int) - (held c.holds:Nat)) (by omega)]
 refine⟨fun h2=>hbad 9 ?_ (by decide),fun h2=>⟨fun h3=>hbad 8 ?_ (by decide),fun h3 _=> ?_⟩⟩
 ·rw [holdE,if_neg hno,if_neg hop',if_neg (by rw [ht];decide),if_neg (by omega),if_pos (.inr (by omega))]
 ·rw [holdE,if_neg hno,if_neg hop',if_neg (by rw [ht];decide),if_neg (by omega),if_neg (by omega),if_pos (by omega)]
 have hE:holdE c id n=0:=by
  rw [holdE,if_neg hno,if_neg hop',if_neg (by rw [ht];decide),if_neg (by omega),if_neg (by omega),if_neg (by omega)]
 have hC:holdC c id n=(⟨c.id,c.loc - n,c.rem,c.res,c.most,Srt.put Hd.key ltN c.holds ⟨id,n⟩,c.op⟩,0):=by
  rw [holdC,if_pos hE,Srt.put,if_neg (by show¬Srt.thr Hd.key ltN c.holds id=true;rw [ht];decide)];rfl
 rw [hC,←Srt.put_filter Srt.totNat hu]
 dsimp only
 clear hC hE hbad hno hop'
 refine nvb 4 5 2 157 ?_
 refine lpl (ι:={i:Nat // i≤c.holds.length}) (fun s i=>((s.up 85 (.int .i64 i.1)).ub 4 5 (.vec 5 ((c.holds.take i.1).filter (fun e=>decide (e.id<id))).length)).uo 5 (.vec true 2 157 (hds ((c.holds.take i.1).filter (fun e=>decide (e.id<id)))))) (fun i=>c.holds.length - i.1) ⟨0,by simp⟩ ?_ (by simp [go_sem];rfl)
 rintro⟨i,hi⟩
 refine aw hT lv104 (vc ?_)
 have hf:∀h:i<c.holds.length,(c.holds.take (i+1)).filter (fun e=>decide (e.id<id))=(c.holds.take i).filter (fun e=>decide (e.id<id))++if(c.holds.getD i default).id<id then [c.holds.getD i default]else []:=fun h=>by
  rw [take_succ h,List.filter_append]
  congr 1
  by_cases hx:(c.holds.getD i default).id<id
  ·rw [if_pos hx,List.filter_cons_of_pos (by simpa using hx)];rfl
  ·rw [if_neg hx,List.filter_cons_of_neg (by simpa using hx)];rfl
 have hlen:((c.holds.take i).filter (fun e=>decide (e.id<id))).length≤i:=Nat.le_trans (List.length_filter_le _ _) (by rw [List.length_take];omega)
 refine⟨fun h2=>⟨h2,fun h3=>⟨by omega,⟨i+1,by omega⟩,by dsimp only;omega,i64_in _ (by omega), ?_, ?_⟩,fun h3=>⟨⟨i+1,by omega⟩,by dsimp only;omega,i64_in _ (by omega), ?_, ?_⟩⟩,fun h2=>⟨by omega,fun _=> ?_⟩⟩
 ·dsimp only;rw [hf (by omega),if_pos (by omega)]
 ·dsimp only;rw [hf (by omega),if_pos (by omega),List.length_append];rfl
 ·dsimp only;rw [hf (by omega),if_neg (by omega),List.append_nil]
 ·dsimp only;rw [hf (by omega),if_neg (by omega),List.append_nil]
 have hi':i=c.holds.length:=by omega
 subst hi'
 rw [List.take_length]at hlen⊢
 clear hf
 have hA:c.holds.filter (fun e=>decide (ltN (Hd.key e) (Hd.key ⟨id,n⟩)))=c.holds.filter (fun e=>decide (e.id<id)):=rfl
 rw [hA]
 generalize c.holds.filter (fun e=>decide (e.id<id))=A at*
 refine lpl (ι:={i:Nat // i≤c.holds.length}) (fun s i=>((s.up 111 (.int .i64 i.1)).ub 4 5 (.vec 5 (A++(⟨id,n⟩:Hd)::(c.holds.take i.1).filter (fun e=>decide (id<e.id))).length)).uo 5 (.vec true 2 157 (hds (A++(⟨id,n⟩:Hd)::(c.holds.take i.1).filter (fun e=>decide (id<e.id)))))) (fun i=>c.holds.length - i.1) ⟨0,by simp⟩ ?_
 rintro⟨i,hi⟩
 refine aw hT lv104 (vc ?_)
 have hf:∀h:i<c.holds.length,(c.holds.take (i+1)).filter (fun e=>decide (id<e.id))=(c.holds.take i).filter (fun e=>decide (id<e.id))++if id<(c.holds.getD i default).id then [c.holds.getD i default]else []:=fun h=>by
  rw [take_succ h,List.filter_append]
  congr 1
  by_cases hx:id<(c.holds.getD i default).id
  ·rw [if_pos hx,List.filter_cons_of_pos (by simpa using hx)];rfl
  ·rw [if_neg hx,List.filter_cons_of_neg (by simpa using hx)];rfl
 have hlen2:((c.holds.take i).filter (fun e=>decide (id<e.id))).length≤i:=Nat.le_trans (List.length_filter_le _ _) (by rw [List.length_take];omega)
 refine⟨fun h2=>⟨h2,fun h3=>⟨by omega,⟨i+1,by omega⟩,by dsimp only;omega,i64_in _ (by omega), ?_, ?_⟩,fun h3=>⟨⟨i+1,by omega⟩,by dsimp only;omega,i64_in _ (by omega), ?_, ?_⟩⟩,fun h2=> ?_⟩
 ·dsimp only;rw [hf (by omega),if_pos (by omega)]
 ·dsimp only;rw [hf (by omega),if_pos (by omega),List.length_append];rfl
 ·dsimp only;rw [hf (by omega),if_neg (by omega),List.append_nil]
 ·dsimp only;rw [hf (by omega),if_neg (by omega),List.append_nil]
 have hi':i=c.holds.length:=by omega
 subst hi'
 rw [List.take_length]at hlen2⊢
 rw [u64_in ((c.loc:Int) - n) (by omega)]
 exact⟨by omega,rfl,_,_,_,rfl⟩⟩
attribute [go_sem] Tryz.f102
@[go_sem] def c_r10get:Ct Tryz.prog:=⟨102,arg kChs fun l=>arg kU64 fun id=>pu (.tup [.agg [.int .u64 (getL l id).1.id, .int .u64 (getL l id).1.loc, .int .u64 (getL l id).1.rem, .int .u64 (getL l id).1.res, .int .u64 (getL l id).1.most, .sl (hds (getL l id).1.holds), .bool (getL l id).1.op], .int .i64 (getL l id).2]),arg_ok fun l=>arg_ok fun id=>ret_ok fun _=>by
 refine run [c_r10check,c_r10find,c_r9copy] Tryz.f102 lv102 fun hT=>vc ?_
 have hcz:chkL l=0↔okLd l:=by unfold chkL;split<;>rename_i h<;>simp only [h]<;>decide
 rw [hcz]
 refine⟨fun hok=>⟨hok, ?_⟩,fun hok=>by rw [getL,if_neg hok];exact⟨⟨rfl,rfl,rfl,rfl,rfl,rfl,rfl⟩,rfl⟩⟩
 rw [getL,if_pos hok]
 cases ht:Srt.thr Ch.id ltN l id with
 |false=>exact⟨fun _=>⟨⟨rfl,rfl,rfl,rfl,rfl,rfl,rfl⟩,rfl⟩,fun h=>absurd (by decide:(-1:Int)<0) h⟩
 |true=>
  have hp:Srt.pos Ch.id ltN l id<l.length:=by unfold Srt.thr at ht;exact(of_decide_eq_true ht).1
  simp only [if_true,Int.toNat_natCast]
  refine⟨fun h=>by omega,fun _=>⟨⟨by omega,by omega⟩, ?_,by simp⟩⟩
  have:=(hok.2.1 _ (mem_getD.2 ⟨_,hp,rfl⟩)).2.2.1;omega⟩
attribute [go_sem] Tryz.f57
@[go_sem] def c_r10hold:Ct Tryz.prog:=⟨57,arg kChs fun l=>arg kU64 fun id=>arg kU64 fun h=>arg kU64 fun n=>pu (.tup [.sl (chs (lholdL l id h n).1), .int .i64 (lholdL l id h n).2]),arg_ok fun l=>arg_ok fun id=>arg_ok fun h=>arg_ok fun n=>ret_ok fun _=>by
 refine run [c_r10get,c_r10where,c_r9hold,c_r10with] Tryz.f57 lv57 fun hT=>vc ?_
 by_cases hok:okLd l
 rotate_left 1
 ·rw [getL,if_neg hok,lholdL,if_neg hok]
  exact⟨fun h=>absurd h (by decide),fun _=>⟨rfl,rfl⟩⟩
 by_cases ht:Srt.thr Ch.id ltN l id=true
 rotate_left 1
 ·rw [getL,if_pos hok,if_neg ht,lholdL,if_pos hok,if_neg ht]
  exact⟨fun h=>absurd h (by decide),fun _=>⟨rfl,rfl⟩⟩
 rw [getL,if_pos hok,if_pos ht,lholdL,if_pos hok,if_pos ht]
 have hw:0≤whereL l h↔(whereI l h).2=0:=where_iff.trans (where_0 hok).symm
 rw [hw,holdC_2]
 obtain⟨hp,hk⟩:=of_decide_eq_true (show decide _=true from ht)
 have hu:=okLd_up hok
 refine⟨fun _=>⟨fun h1=>by rw [if_pos h1];exact⟨rfl,rfl⟩,fun h1=> ?_⟩,fun h=>absurd rfl h⟩
 rw [if_neg h1]
 refine⟨fun h2=> ?_,fun h2=>by rw [if_neg h2];exact⟨rfl,rfl⟩⟩
 rw [if_pos h2]
 have hid:(holdC (l.getD (Srt.pos Ch.id ltN l id) default) h n).1.id=id:=by rw [holdC,if_pos h2];exact hk
 have hlen:(holdC (l.getD (Srt.pos Ch.id ltN l id) default) h n).1.holds.length≤1000000:=by
  rw [holdC,if_pos h2]
  show(Srt.ins _ _ _).length≤1000000
  rw [Srt.ins_len]
  have:=(hok.2.1 _ (mem_getD.2 ⟨_,hp,rfl⟩)).2.2.1;omega
 refine⟨⟨⟨by have:=hok.1;omega,hlen,fun c hc=>by have:=(hok.2.1 c hc).2.2.1;omega⟩,hu⟩, ?_,rfl⟩
 rw [Srt.put,hid,if_pos ht]⟩
open Go Go.Proofs Go.IntWalk
theorem eqL_len {α:Type} [DecidableEq α] {a b:List α} (h:¬(a.length:Int)=b.length):false=decide (a=b):=by
 rw [eq_comm,decide_eq_false_iff_not]
 rintro rfl;exact h rfl
theorem eqL_no {α:Type} [DecidableEq α] [Inhabited α] {a b:List α} {i:Nat} (h:¬a.getD i default=b.getD i default):false=decide (a=b):=by
 rw [eq_comm,decide_eq_false_iff_not]
 rintro rfl;exact h rfl
theorem eqL_all {α:Type} [DecidableEq α] {a b:List α} {i:Nat} (hl:(a.length:Int)=b.length) (hi:i≤a.length) (h:¬(i:Int)<a.length) (hab:a.take i=b.take i):true=decide (a=b):=by
 have e:i=a.length:=by omega
 rw [e,List.take_length,List.take_of_length_le (by omega)]at hab
 rw [hab,decide_eq_true rfl]
theorem eqL_step {α:Type} [DecidableEq α] [Inhabited α] {a b:List α} {i:Nat} (h:(i:Int)<a.length) (hl:(a.length:Int)=b.length) (hab:a.take i=b.take i) (he:a.getD i default=b.getD i default):i+1≤a.length∧a.take (i+1)=b.take (i+1):=
 ⟨by omega,(take_succ_iff (by omega) (by omega) hab).2 he⟩
attribute [go_sem] Hd.eqD
def lik (a b:Wt):Bool:=decide (a.id=b.id∧fkey a.w=fkey b.w)
def likL (a b:List Wt):Bool:=decide (a.length=b.length∧∀j,j<a.length→lik (a.getD j default) (b.getD j default)=true)
theorem likL_len {a b:List Wt} (h:¬(a.length:Int)=b.length):false=likL a b:=by
 rw [eq_comm,likL,decide_eq_false_iff_not];exact fun h1=>h (by omega)
theorem likL_all {a b:List Wt} {i:Nat} (hl:(a.length:Int)=b.length) (h:¬(i:Int)<a.length) (hab:∀j,j<i→lik (a.getD j default) (b.getD j default)=true):likL a b=true:=by
 rw [likL,decide_eq_true_eq];exact⟨by omega,fun j hj=>hab j (by omega)⟩
theorem likL_step {a b:List Wt} {i:Nat} (h:(i:Int)<a.length) (hab:∀j,j<i→lik (a.getD j default) (b.getD j default)=true) (he:lik (a.getD i default) (b.getD i default)=true):i+1≤a.length∧∀j,j<i+1→lik (a.getD j default) (b.getD j default)=true:=
 ⟨by omega,fun j hj=>by
  by_cases e:j=i
  ·rw [e];exact he
  ·exact hab j (by omega)⟩
theorem likL_self (a:List Wt):likL a a=true:=decide_eq_true ⟨rfl,fun _ _=>decide_eq_true ⟨rfl,rfl⟩⟩
def sameW (a b:Wl):Bool:=decide (a.c=b.c∧likL a.w b.w=true∧a.i=b.i∧a.p=b.p∧a.f=b.f∧a.next=b.next∧a.tick=b.tick)
attribute [go_sem] Tryz.f32
@[go_sem] def c_r12sameg:Ct Tryz.prog:=⟨32,arg kIvs fun a=>arg kIvs fun b=>pu (.bool (decide (a=b))),arg_ok fun a=>arg_ok fun b=>ret_ok fun _=>by
 refine run [] Tryz.f32 lv32 fun hT=>vc ?_
 refine fun _ _=>⟨fun hl _=> ?_,eqL_len⟩
 refine SWp.loop (ι:={i:Nat // i≤a.length∧a.take i=b.take i}) (fun i=>⟨[(0, .sl (ivs a)),(1, .sl (ivs b)),(12, .int .i64 a.length),(13, .int .i64 i.1)],[],0⟩) (fun i=>a.length - i.1) ⟨0,by simp⟩ ?_ ?_
 ·simp [go_sem]
 ·rintro⟨i,hi,hab⟩
  refine aw hT lv32 (vc ?_)
  refine⟨fun h=> ?_,fun h=>eqL_all hl hi h hab⟩
  refine dr us32_6 hT (vc ?_)
  exact⟨by omega,by omega,fun he=>⟨⟨i+1,eqL_step h hl hab he⟩,by dsimp only;omega,i64_in _ (by omega)⟩,eqL_no⟩⟩
attribute [go_sem] Tryz.f33
@[go_sem] def c_r13sameg:Ct Tryz.prog:=⟨33,arg kPys fun a=>arg kPys fun b=>pu (.bool (decide (a=b))),arg_ok fun a=>arg_ok fun b=>ret_ok fun _=>by
 refine run [] Tryz.f33 lv33 fun hT=>vc ?_
 refine fun _ _=>⟨fun hl _=> ?_,eqL_len⟩
 refine SWp.loop (ι:={i:Nat // i≤a.length∧a.take i=b.take i}) (fun i=>⟨[(0, .sl (pys a)),(1, .sl (pys b)),(12, .int .i64 a.length),(13, .int .i64 i.1)],[],0⟩) (fun i=>a.length - i.1) ⟨0,by simp⟩ ?_ ?_
 ·simp [go_sem]
 ·rintro⟨i,hi,hab⟩
  refine aw hT lv33 (vc ?_)
  refine⟨fun h=> ?_,fun h=>eqL_all hl hi h hab⟩
  refine dr us33_6 hT (vc ?_)
  exact⟨by omega,by omega,fun he=>⟨⟨i+1,eqL_step h hl hab he⟩,by dsimp only;omega,i64_in _ (by omega)⟩,eqL_no⟩⟩
attribute [go_sem] Tryz.f66
@[go_sem] def c_r16evsg:Ct Tryz.prog:=⟨66,arg kEvs fun a=>arg kEvs fun b=>pu (.bool (decide (a=b))),arg_ok fun a=>arg_ok fun b=>ret_ok fun _=>by
 refine run [] Tryz.f66 lv66 fun hT=>vc ?_
 refine fun _ _=>⟨fun hl _=> ?_,eqL_len⟩
 refine SWp.loop (ι:={i:Nat // i≤a.length∧a.take i=b.take i}) (fun i=>⟨[(0, .sl (evs a)),(1, .sl (evs b)),(12, .int .i64 a.length),(13, .int .i64 i.1)],[],0⟩) (fun i=>a.length - i.1) ⟨0,by simp⟩ ?_ ?_
 ·simp [go_sem]
 ·rintro⟨i,hi,hab⟩
  refine aw hT lv66 (vc ?_)
  refine⟨fun h=> ?_,fun h=>eqL_all hl hi h hab⟩
  refine dr us66_6 hT (vc ?_)
  exact⟨by omega,by omega,fun he=>⟨⟨i+1,eqL_step h hl hab he⟩,by dsimp only;omega,i64_in _ (by omega)⟩,eqL_no⟩⟩
attribute [go_sem] Tryz.f34
@[go_sem] def c_r16sameg:Ct Tryz.prog:=⟨34,arg kFd fun a=>arg kFd fun b=>pu (.bool (decide (a=b))),arg_ok fun a=>arg_ok fun b=>ret_ok fun _=>by
 refine run [c_r16evsg] Tryz.f34 lv34 fun hT=>vc ?_
 cases a;cases b
 simp only [Fd.mk.injEq,Int.natCast_inj]
 grind⟩
attribute [go_sem] Tryz.f65
@[go_sem] def c_r9sameg:Ct Tryz.prog:=⟨65,arg kCh fun a=>arg kCh fun b=>pu (.bool (decide (a=b))),arg_ok fun a=>arg_ok fun b=>ret_ok fun _=>by
 refine run [] Tryz.f65 lv65 fun hT=>vc ?_
 have no:a≠b→false=decide (a=b):=fun h=>(decide_eq_false h).symm
 refine⟨fun h1=>⟨fun h2=>⟨fun h3=>⟨fun h4=>⟨fun h5=>⟨fun h6 _ _=>⟨fun hl _=> ?_,fun hl=>no fun h=>hl (by rw [h])⟩,fun h6=>no fun h=>by rw [h]at h6;simp at h6⟩,fun h5=>no fun h=>h5 (by rw [h])⟩,fun h4=>no fun h=>h4 (by rw [h])⟩,fun h3=>no fun h=>h3 (by rw [h])⟩,fun h2=>no fun h=>h2 (by rw [h])⟩,fun h1=>no fun h=>h1 (by rw [h])⟩
 have e:decide (a=b)=decide (a.holds=b.holds):=by
  cases a;cases b
  simp only [Int.natCast_inj]at h1 h2 h3 h4 h5
  simp only [Ch.mk.injEq]
  have h6:=by simpa using h6
  simp [h1,h2,h3,h4,h5,h6]
 rw [e]
 refine SWp.loop (ι:={i:Nat // i≤a.holds.length∧a.holds.take i=b.holds.take i}) (fun i=>⟨[(2, .ref 0 0),(3, .ref 1 0),(57, .int .i64 a.holds.length),(58, .int .i64 i.1)],[(1, .box [.c (.int .u64 b.id), .c (.int .u64 b.loc), .c (.int .u64 b.rem), .c (.int .u64 b.res), .c (.int .u64 b.most), .sl (hds b.holds), .c (.bool b.op)]),(0, .box [.c (.int .u64 a.id), .c (.int .u64 a.loc), .c (.int .u64 a.rem), .c (.int .u64 a.res), .c (.int .u64 a.most), .sl (hds a.holds), .c (.bool a.op)])],2⟩) (fun i=>a.holds.length - i.1) ⟨0,by simp⟩ ?_ ?_
 ·simp [go_sem]
 ·rintro⟨i,hi,hab⟩
  refine aw hT lv65 (vc ?_)
  refine⟨fun h=> ?_,fun h=>eqL_all hl hi h hab⟩
  refine dr us65_6 hT (vc ?_)
  exact⟨h,by omega,fun he=>⟨⟨i+1,eqL_step h hl hab he⟩,by dsimp only;omega,i64_in _ (by omega)⟩,eqL_no⟩⟩
attribute [go_sem] Tryz.f31
@[go_sem] def c_r10sameg:Ct Tryz.prog:=⟨31,arg kChs fun a=>arg kChs fun b=>pu (.bool (decide (a=b))),arg_ok fun a=>arg_ok fun b=>ret_ok fun _=>by
 refine run [c_r9sameg] Tryz.f31 lv31 fun hT=>vc ?_
 refine fun _ _=>⟨fun hl _=> ?_,eqL_len⟩
 refine SWp.loop (ι:={i:Nat // i≤a.length∧a.take i=b.take i}) (fun i=>⟨[(0, .sl (chs a)),(1, .sl (chs b)),(12, .int .i64 a.length),(13, .int .i64 i.1)],[],0⟩) (fun i=>a.length - i.1) ⟨0,by simp⟩ ?_ ?_
 ·simp [go_sem]
 ·rintro⟨i,hi,hab⟩
  refine aw hT lv31 (vc ?_)
  refine⟨fun h=> ?_,fun h=>eqL_all hl hi h hab⟩
  refine dr us31_6 hT (vc ?_)
  exact⟨by omega,by omega,fun he=>⟨⟨i+1,eqL_step h hl hab he⟩,by dsimp only;omega,i64_in _ (by omega)⟩,eqL_no⟩⟩
attribute [go_sem] Tryz.f13
@[go_sem] def c_r17sameg:Ct Tryz.prog:=⟨13,arg kWl fun a=>arg kWl fun b=>pu (.bool (sameW a b)),arg_ok fun a=>arg_ok fun b=>ret_ok fun _=>by
 refine run [c_r10sameg,c_r12sameg,c_r13sameg,c_r16sameg,c_rfsame] Tryz.f13 lv13 fun hT=>vc ?_
 have no:¬(a.c=b.c∧likL a.w b.w=true∧a.i=b.i∧a.p=b.p∧a.f=b.f∧a.next=b.next∧a.tick=b.tick)→false=sameW a b:=fun h=>(decide_eq_false h).symm
 refine⟨fun hc _ _=>⟨fun hl=>⟨fun h1=>⟨fun h2=>⟨fun h3=>⟨fun h4=>⟨fun h5 _=> ?_,fun h5=>no fun h=>h5 (by rw [h.2.2.2.2.2.2])⟩,fun h4=>no fun h=>h4 (by rw [h.2.2.2.2.2.1])⟩,fun h3=>no fun h=>h3 h.2.2.2.2.1⟩,fun h2=>no fun h=>h2 h.2.2.2.1⟩,fun h1=>no fun h=>h1 h.2.2.1⟩,fun hl=>no fun h=>by have:=h.2.1;rw [←likL_len hl]at this;cases this⟩,fun hc=>no fun h=>hc h.1⟩
 refine SWp.loop (ι:={i:Nat // i≤a.w.length∧∀j,j<i→lik (a.w.getD j default) (b.w.getD j default)=true}) (fun i=>⟨[(2, .ref 0 0),(3, .ref 1 0),(61, .int .i64 a.w.length),(62, .int .i64 i.1)],[(1, .box [.sl (chs b.c), .sl (wts b.w), .sl (ivs b.i), .sl (pys b.p), .c (.int .u64 b.f.next), .sl (evs b.f.l), .c (.int .u64 b.next), .c (.int .u64 b.tick)]),(0, .box [.sl (chs a.c), .sl (wts a.w), .sl (ivs a.i), .sl (pys a.p), .c (.int .u64 a.f.next), .sl (evs a.f.l), .c (.int .u64 a.next), .c (.int .u64 a.tick)])],2⟩) (fun i=>a.w.length - i.1) ⟨0,by simp⟩ ?_ ?_
 ·simp [go_sem]
 ·rintro⟨i,hi,hab⟩
  refine aw hT lv13 (vc ?_)
  refine⟨fun h=> ?_,fun h=>(decide_eq_true ⟨hc,likL_all hl h hab,h1,h2,h3,by omega,by omega⟩).symm⟩
  refine dr us13_6 hT (vc ?_)
  have hlk:(a.c=b.c∧likL a.w b.w=true∧a.i=b.i∧a.p=b.p∧a.f=b.f∧a.next=b.next∧a.tick=b.tick)→(a.w.getD i default).id=(b.w.getD i default).id∧fkey (a.w.getD i default).w=fkey (b.w.getD i default).w:=fun g=>of_decide_eq_true ((of_decide_eq_true g.2.1).2 i (by omega))
  refine⟨h,by omega,fun he=>⟨h,by omega,fun hk=>⟨⟨i+1,likL_step h hab (decide_eq_true ⟨by omega,of_decide_eq_true hk⟩)⟩,by dsimp only;omega,i64_in _ (by omega)⟩,fun hk=>no fun g=>of_decide_eq_false hk (hlk g).2⟩,fun he=>no fun g=>he (by rw [(hlk g).1])⟩⟩
theorem sameW_self (a:Wl):sameW a a=true:=decide_eq_true ⟨rfl,likL_self _,rfl,rfl,rfl,rfl,rfl⟩
open Go Go.Proofs Go.IntWalk
def noteW (w:Wl) (k:Int) (a n:Nat):Wl×Int:=if(addF w.f k a n).2.2=0 then({w with f:=(addF w.f k a n).1},0)else(zeroW,(addF w.f k a n).2.2)
attribute [go_sem] Tryz.f58
@[go_sem] def c_r17note:Ct Tryz.prog:=⟨58,arg kWl fun w=>arg kI64 fun k=>arg kU64 fun a=>arg kU64 fun n=>ret (w.f.next≤18446744073709551615∧smallW w) (.tup [kWl.d (noteW w k a n).1, .int .i64 (noteW w k a n).2]) [],arg_ok fun w=>arg_ok fun k=>arg_ok fun a=>arg_ok fun n=>ret_ok fun h=>by
 refine run [c_r16add,c_r17copyg] Tryz.f58 lv58 fun hT=>vc ?_
 refine⟨h.1,fun h1=>⟨?_, ?_⟩,fun h1=> ?_⟩
 ·obtain⟨s1,s2,s3,s4,s5,s6⟩:=h.2
  exact⟨s1,s2,s3,s4,s5,by have:=add_len (f:=w.f) (k:=k) (a:=a) (n:=n);exact Nat.le_trans this (by decide)⟩
 ·rw [noteW,if_pos h1];simp
 ·rw [noteW,if_neg h1];exact⟨⟨rfl,rfl,rfl,rfl,rfl,rfl,rfl,rfl⟩,rfl⟩⟩
attribute [go_sem] Tryz.f26
@[go_sem] def c_r17pay:Ct Tryz.prog:=⟨26,arg kWl fun v=>arg kU64 fun hash=>arg kU64 fun n=>ret (v.f.next≤18446744073709551615) (.tup [kWl.d (payW v hash n).1, .int .u64 (payW v hash n).2.1, .int .i64 (payW v hash n).2.2]) [],arg_ok fun v=>arg_ok fun hash=>arg_ok fun n=>ret_ok fun h=>by
 refine run [c_r17check,c_r4check,c_rfirst,c_r13start,c_r10hold,c_r17note] Tryz.f26 lv26 fun hT=>vc ?_
 have hbad:∀e:Int,payE v hash n=e→¬e=0→(chs (payW v hash n).1.c=[]∧wts (payW v hash n).1.w=[]∧ivs (payW v hash n).1.i=[]∧pys (payW v hash n).1.p=[]∧0=((payW v hash n).1.f.next:Int)∧evs (payW v hash n).1.f.l=[]∧0=((payW v hash n).1.next:Int)∧0=((payW v hash n).1.tick:Int))∧0=((payW v hash n).2.1:Int)∧e=(payW v hash n).2.2:=fun e h1 h2=>by
  have:payW v hash n=(zeroW,0,e):=by rw [payW,if_neg (by rw [h1];exact h2),h1]
  rw [this];exact⟨⟨rfl,rfl,rfl,rfl,rfl,rfl,rfl,rfl⟩,rfl,rfl⟩
 have hMM:MM=4611686018427387904:=rfl
 rw [chkW_0,mon1_0]
 refine⟨h,fun hok=>⟨fun hn=>⟨fun hm=>⟨fun hf=>⟨fun hx=>hbad 7 ?_ (by decide),fun hx=>⟨fun x hx=>okW_ids hok x hx,fun hp=>⟨fun hc=> ?_,fun hc=> ?_⟩,fun hp=> ?_⟩⟩,fun hf=>hbad 9 ?_ (by decide)⟩,fun hm=>hbad 1 ?_ (by decide)⟩,fun hn=>hbad 1 ?_ (by decide)⟩,fun hok=>hbad 1 ?_ (by decide)⟩
 all_goals try have hA:¬(¬okW v∨n=0∨¬n≤MM):=by simp [hok,hm];omega
 rotate_left 4
 ·rw [payE,if_neg hA,if_pos hf]
 ·rw [payE,if_pos (.inr (.inr hm))]
 ·rw [payE,if_pos (.inr (.inl (by omega)))]
 ·rw [payE,if_pos (.inl hok)]
 ·rw [payE,if_neg hA,if_neg (fun h=>h hf),if_pos (by omega)]
 ·have hE:payE v hash n=(payF v n).2.2:=by rw [payE,if_neg hA,if_neg (fun h=>h hf),if_neg (by omega),if_neg (fun h=>h hp),if_neg (fun h=>h hc)]
  have hnx:v.next≤MM:=hok.2.2.2.2.2.1
  have hw:IntKind.u64.wrap ((v.next:Int)+1)=((v.next+1:Nat):Int):=by rw [u64_in _ (by omega)];omega
  rw [hw,Int.toNat_natCast]
  refine⟨⟨rfl,h, ?_⟩,fun hn0=> ?_,fun hn0=> ?_⟩
  ·have h1:=lhold_fine hc
   unfold smallW
   dsimp only
   have h2:=small_ok hok
   have h3:=start_len (l:=v.p) (p:=⟨v.next,hash,(firstL v.c v.w n).1,n,1⟩)
   exact⟨by have:=h1.1;omega,fun c hc=>by have:=(h1.2.1 c hc).2.2.1;omega,h2.2.2.1,h2.2.2.2.1,by omega,h2.2.2.2.2.2⟩
  ·unfold noteW at hn0⊢
   split at hn0
   ·rename_i h1
    rw [if_pos h1,payW,if_pos (hE.trans h1)]
    exact⟨⟨rfl,rfl,rfl,rfl,rfl,rfl,rfl,rfl⟩,rfl,rfl⟩
   ·rename_i h1;exact absurd hn0 h1
  ·unfold noteW at hn0⊢
   split at hn0
   ·exact absurd rfl hn0
   ·rename_i h1
    rw [if_neg h1]
    exact hbad _ hE h1
 ·exact hbad _ (by rw [payE,if_neg hA,if_neg (fun h=>h hf),if_neg (by omega),if_neg (fun h=>h hp),if_pos (show(payC v n).2≠0 from hc)];rfl) hc
 ·exact hbad _ (by rw [payE,if_neg hA,if_neg (fun h=>h hf),if_neg (by omega),if_pos (show(payP v hash n).2≠0 from hp)];rfl) hp⟩
end Dm
namespace Go.Proofs
open Go.Shelf Go.RowKit Go.Lib
def Tryz.layLz_ren:Go.Shelf.Ren:=⟨fun|134=>152|129=>171|n=>n,fun|53=>26|3=>3|4=>4|46=>106|5=>5|9=>9|n=>n,fun|n=>n⟩
theorem Tryz.layLz:Go.Proofs.Lays.n134 Tryz.prog Tryz.layLz_ren:={
 mixed:=by kernel_rfl
 f129:=Tryz.func171.trans (congrArg some (by kernel_rfl))
 f134:=Tryz.func152.trans (congrArg some (by kernel_rfl))
 t3:=Tryz.underlying3
 a3:=Tryz.isAgg3
 z3:=Tryz.sizeOf3
 v3:=Tryz.zeroValue3
 t4:=Tryz.underlying4
 a4:=Tryz.isAgg4
 z4:=Tryz.sizeOf4
 v4:=Tryz.zeroValue4
 t5:=Tryz.underlying5
 a5:=Tryz.isAgg5
 z5:=Tryz.sizeOf5
 v5:=Tryz.zeroValue5
 t9:=Tryz.underlying9
 a9:=Tryz.isAgg9
 z9:=Tryz.sizeOf9
 v9:=Tryz.zeroValue9
 t46:=Tryz.underlying106
 a46:=Tryz.isAgg106
 z46:=Tryz.sizeOf106
 v46:=Tryz.zeroValue106
 t53:=Tryz.underlying26
 a53:=Tryz.isAgg26
 z53:=Tryz.sizeOf26
 v53:=Tryz.zeroValue26}
def Tryz.layMu_ren:Go.Shelf.Ren:=⟨fun|264=>108|n=>n,fun|53=>26|46=>106|n=>n,fun|n=>n⟩
theorem Tryz.layMu:Go.Proofs.Lays.n264 Tryz.prog Tryz.layMu_ren:={
 mixed:=by kernel_rfl
 f264:=Tryz.func108.trans (congrArg some (by kernel_rfl))
 t46:=Tryz.underlying106
 a46:=Tryz.isAgg106
 z46:=Tryz.sizeOf106
 v46:=Tryz.zeroValue106
 t53:=Tryz.underlying26
 a53:=Tryz.isAgg26
 z53:=Tryz.sizeOf26
 v53:=Tryz.zeroValue26}
end Go.Proofs
namespace Dm
open Go Go.Proofs Go.IntWalk
@[go_sem] def c_lz64:Ct Tryz.prog:=⟨152,arg kU64 fun x=>ret (x≤18446744073709551615) (.int .i64 (64 - (Lib.bitLen x:Int))) [],arg_ok fun x=>ret_ok fun h=>by
 refine PureFn.of_calls ⟨_,Tryz.layLz.f134,rfl,rfl⟩ (fun I w vs h1 h2=>args_u64 h1 h2) (fun w=> ?_) (fun I w=> .c _ _ (.int _ _))
 have:=Any.bits_LeadingZeros64 Tryz.layLz x w (by omega) (by omega)
 rwa [Int.toNat_natCast]at this⟩
@[go_sem] def c_mul64:Ct Tryz.prog:=⟨108,arg kU64 fun x=>arg kU64 fun y=>ret ((x≤18446744073709551615)∧(y≤18446744073709551615)) (.tup [.int .u64 (x*y / 18446744073709551616:Nat), .int .u64 (x*y % 18446744073709551616:Nat)]) [],arg_ok fun x=>arg_ok fun y=>ret_ok fun⟨h,h2⟩=>by
 refine PureFn.of_calls ⟨_,Tryz.layMu.f264,rfl,rfl⟩ (fun I w vs h1 h2=>args_u64s h1 h2) (fun w=>Any.bits_Mul64 Tryz.layMu x y (by omega) (by omega) w) (fun I w=> .tup _ _ rfl fun i v d h1 h2=> ?_)
 rcases i with _|_|i<;>simp at h1 h2
 ·subst h1;subst h2;exact .c _ _ (.int _ _)
 ·subst h1;subst h2;exact .c _ _ (.int _ _)⟩
theorem wrap_two {a b:Nat} (ha:a<4294967296) (hb:b<4294967296):IntKind.u64.wrap (IntKind.u64.wrap ((a:Int)*4294967296)+(b:Int))=((a*4294967296+b:Nat):Int):=by
 rw [IntKind.wrap_u64,IntKind.wrap_u64];omega
theorem bl_shift {y:Nat} (hy:y≠0) (h3:y<4294967296):∃s,64 - (Lib.bitLen y:Int)=(s:Nat)∧32≤s∧s<64∧y*2^s<18446744073709551616:=by
 have h1:=Lib.bitLenAux_bounds 64 y (by have:(2:Nat)^64=18446744073709551616:=rfl;omega) hy
 have h2:=Lib.bitLen_le y 32 (by decide) h3
 change 1≤Lib.bitLen y∧_∧y<2^Lib.bitLen y at h1
 refine⟨64 - Lib.bitLen y,by omega,by omega,by omega, ?_⟩
 have h4:y*2^(64 - Lib.bitLen y)<2^Lib.bitLen y*2^(64 - Lib.bitLen y):=Nat.mul_lt_mul_of_pos_right h1.2.2 (Nat.two_pow_pos _)
 rw [←Nat.pow_add,show Lib.bitLen y+(64 - Lib.bitLen y)=64 by omega]at h4
 exact h4
attribute [go_sem] Tryz.f109
@[go_sem] def c_div64:Ct Tryz.prog:=⟨109,arg kU64 fun hi=>arg kU64 fun lo=>arg kU64 fun y=>ret ((y≠0)∧(hi<y)∧(lo≤18446744073709551615)∧(y<4294967296)) (.tup [.int .u64 ((hi*18446744073709551616+lo) / y:Nat), .int .u64 ((hi*18446744073709551616+lo) % y:Nat)]) [],arg_ok fun hi=>arg_ok fun lo=>arg_ok fun y=>ret_ok fun⟨hy,h1,h2,h3⟩=>by
 have hT:=tb_ok (P:=Tryz.prog) [c_lz64]
 have e1:((y:Int)=0)=False:=eq_false (by omega)
 have e2:((y:Int)≤hi)=False:=eq_false (by omega)
 refine .of ?_
 refine cl hT Tryz.f109 lv109 ?_
 simp -implicitDefEqProofs only [cdA,go_sem,e1,e2,decide_false,cdN,simprocAttr, -Int.reduceEq,List.cons.injEq,cdB]
 refine⟨fun h0=> ?_,fun h0=> ?_⟩
 ·refine dr us109_6 hT (vc ?_)
  have:hi=0:=by omega
  subst this
  rw [Nat.zero_mul,Nat.zero_add,tdN,wN (by have:=Nat.div_le_self lo y;omega)]
  exact⟨by omega,by omega,rfl,rfl⟩
 ·obtain⟨s,hs,hs1,hs2,hs3⟩:=bl_shift hy h3
  obtain⟨yn1,hy1,hy0,hyl,hu,hq,hL0,hN⟩:=div64_small (lo:=lo) hy h1 (by omega) hs1 hs2 hs3
  have w1:IntKind.u64.wrap (s:Nat)=(s:Int):=wN (by omega)
  have m1:min s 64=s:=by omega
  have w2:IntKind.u64.wrap (64 - (s:Int))=((64 - s:Nat):Int):=by rw [show(64:Int) - s=((64 - s:Nat):Int) by omega];exact wN (by omega)
  have m2:min (64 - s) 64=64 - s:=by omega
  have p32:(2:Int)^min 32 64=((4294967296:Nat):Int):=by decide
  have pm:∀a b:Nat,(a:Int)*b=((a*b:Nat):Int):=fun a b=>(Int.natCast_mul a b).symm
  have pk:∀k:Nat,(2:Int)^k=((2^k:Nat):Int):=fun k=>by rw [Int.natCast_pow];rfl
  have hlt:hi*2^s<18446744073709551616:=Nat.lt_of_le_of_lt (Nat.mul_le_mul_right _ (Nat.le_of_lt h1)) hs3
  have d1:IntKind.u64.wrap ((y*2^s:Nat):Int)=((yn1*4294967296:Nat):Int):=by rw [wN hs3,hy1]
  have d2:yn1*4294967296 / 4294967296=yn1:=Nat.mul_div_cancel _ (by decide)
  have d3:iand .u64 ((yn1*4294967296:Nat):Int) 4294967295=((0:Nat):Int):=by rw [mskN (by omega),Nat.mul_mod_left]
  have d4:IntKind.u64.wrap ((hi*2^s:Nat):Int)=((hi*2^s:Nat):Int):=wN hlt
  have hlo:lo / 2^(64 - s)<2^s:=by
   rw [Nat.div_lt_iff_lt_mul (Nat.two_pow_pos _),←Nat.pow_add,show s+(64 - s)=64 by omega]
   have:(2:Nat)^64=18446744073709551616:=rfl
   omega
  have d6:ior .u64 ((hi*2^s:Nat):Int) ((lo / 2^(64 - s):Nat):Int)=((hi*2^s+lo / 2^(64 - s):Nat):Int):=by rw [iorN hlt (by have:=Nat.div_le_self lo (2^(64 - s));omega),or_add hlo]
  have d7:IntKind.u64.wrap ((lo*2^s:Nat):Int)=((lo*2^s % 18446744073709551616:Nat):Int):=by rw [IntKind.wrap_u64];omega
  rw [hs]
  simp only [w1,Int.toNat_natCast,m1,w2,m2,p32,pk,pm,d1,fdN,d2,d3,d4,d6,d7]
  generalize hU:hi*2^s+lo / 2^(64 - s)=U at*
  generalize hL:lo*2^s % 18446744073709551616=L at*
  have hL2:L<18446744073709551616:=by rw [←hL];exact Nat.mod_lt _ (by decide)
  have hq1:U / yn1<4294967296:=by rw [Nat.div_lt_iff_lt_mul (Nat.pos_of_ne_zero hy0),Nat.mul_comm];exact hu
  have hq2:=Nat.div_add_mod U yn1
  have hq3:=Nat.mod_lt U (Nat.pos_of_ne_zero hy0)
  have hU2:U<18446744073709551616:=lt_b hu hyl
  obtain⟨d8,d9,d10,d11⟩:=qrem (y:=yn1) hU2
  simp only [mskN hL2,d8,tdN,d9,pm,d10,d11]
  refine⟨by omega,by omega,SWp.loop (ι:=Unit) (fun _=>⟨[(2, .int .u64 (yn1*4294967296:Nat)),(8, .int .u64 s),(9, .int .u64 yn1),(10, .int .u64 (0:Nat)),(11, .int .u64 U),(13, .int .u64 (L / 4294967296:Nat)),(14, .int .u64 (L % 4294967296:Nat)),(15, .int .u64 (U / yn1:Nat)),(16, .int .u64 (U % yn1:Nat))],[],0⟩) (fun _=>0) () (by simp [go_sem]) ?_⟩
  have hV:U % yn1*4294967296+L / 4294967296<yn1*4294967296:=by clear d1 d3 d4 d6 d7 d8 d9 d10 d11 hq hL0 hN;omega
  have hun1:L / 4294967296<4294967296:=by clear d1 d3 d4 d6 d7 d8 d9 d10 d11 hq hL0 hN;omega
  have e3:=un21 (U:=U) (Nat.pos_of_ne_zero hy0) hyl hun1
  rintro⟨⟩
  refine aw hT lv109 (vc ?_)
  refine⟨fun _=>⟨fun h=>absurd h ?_,fun _=>⟨by omega, ?_⟩⟩,fun h=>absurd h (by omega)⟩
  ·rw [Int.mul_zero,IntKind.wrap_u64,IntKind.wrap_u64];exact Int.not_lt.2 (Int.emod_nonneg _ (by decide))
  obtain⟨V,hVV⟩:∃V,U % yn1*4294967296+L / 4294967296=V:=⟨_,rfl⟩
  rw [hVV]at e3 hV hq
  simp only [e3]
  have hr1:V / yn1<4294967296:=by rw [Nat.div_lt_iff_lt_mul (Nat.pos_of_ne_zero hy0),Nat.mul_comm];exact hV
  obtain⟨_,f9,f10,f11⟩:=qrem (U:=V) (y:=yn1) (lt_b hV hyl)
  simp only [tdN,f9,pm,f10,f11]
  refine SWp.loop (ι:=Unit) (fun _=>⟨[(2, .int .u64 (yn1*4294967296:Nat)),(8, .int .u64 s),(9, .int .u64 yn1),(10, .int .u64 0),(14, .int .u64 (L % 4294967296:Nat)),(15, .int .u64 (U / yn1:Nat)),(16, .int .u64 (V % yn1:Nat)),(17, .int .u64 V),(18, .int .u64 (V / yn1:Nat))],[],0⟩) (fun _=>0) () (by simp [go_sem]) ?_
  rintro⟨⟩
  refine aw hT lv109 (vc ?_)
  refine⟨fun _=>⟨fun h=>absurd h ?_,fun _=>⟨?_, ?_⟩⟩,fun h=>absurd h (by omega)⟩
  ·rw [Int.mul_zero,IntKind.wrap_u64,IntKind.wrap_u64];exact Int.not_lt.2 (Int.emod_nonneg _ (by decide))
  ·rw [hq]
   exact wrap_two hq1 hr1
  ·rw [un21 (Nat.pos_of_ne_zero hy0) hyl (Nat.mod_lt _ (by decide)),hL0,Nat.add_zero,m1,pk,fdN]
   exact congrArg _ (div64_rem hy1 hq hVV hN)⟩
attribute [go_sem] Tryz.f61
@[go_sem] def c_part:Ct Tryz.prog:=⟨61,arg kU64 fun a=>arg kU64 fun n=>arg kU64 fun whole=>ret ((whole≠0)∧(n≤whole)∧(a≤4611686018427387904)∧(whole<4294967296)) (.int .u64 (a*n / whole:Nat)) [],arg_ok fun a=>arg_ok fun n=>arg_ok fun whole=>ret_ok fun⟨h1,h2,h3,h4⟩=>by
 refine run [c_mul64,c_div64] Tryz.f61 lv61 fun hT=>vc ?_
 have hm:a*n≤4611686018427387904*whole:=Nat.mul_le_mul h3 h2
 generalize a*n=x at*
 have e:x / 18446744073709551616*18446744073709551616+x % 18446744073709551616=x:=by omega
 rw [e]
 exact⟨⟨by omega,by omega⟩,⟨h1,by omega,by omega,h4⟩,rfl⟩⟩
theorem sumT_le {l:List Nat} {m i:Nat} (h:∀x∈l,x≤m):(l.take i).sum≤i*m:=by
 induction l generalizing i with
 |nil=>simp
 |cons a l ih=>
  cases i with
  |zero=>simp
  |succ i=>
   rw [List.take_succ_cons,List.sum_cons,Nat.add_mul,Nat.one_mul]
   have:=ih (i:=i) fun x hx=>h x (List.mem_cons_of_mem _ hx)
   have:=h a (List.mem_cons_self ..)
   omega
theorem sumT_succ {l:List Nat} {i:Nat} (h:i<l.length):(l.take (i+1)).sum=(l.take i).sum+l.getD i default:=by
 rw [take_succ h,List.sum_append];simp
theorem sumT_all {l:List Nat} {i:Nat}:(l.take i).sum≤l.sum:=by
 conv=>rhs;rw [←List.take_append_drop i l,List.sum_append]
 exact Nat.le_add_right _ _
def splP (a:Nat) (ws:List Nat) (all i:Nat):Nat:=a*(ws.take (i+1)).sum / all - a*(ws.take i).sum / all
def splN (a:Nat) (ws:List Nat):List Nat:=(List.range ws.length).map (splP a ws ws.sum)
def splL (a:Nat) (ws:List Nat):List Nat×Int:=if a≤4611686018427387904∧ws.length≠0∧ws.length≤64∧(∀w∈ws,w≤1000000)∧ws.sum≠0 then(splN a ws,0)else([],1)
def splH (a:Nat) (ws:List Nat) (i:Nat):List Nat:=(splN a ws).take i++List.replicate (ws.length - i) 0
theorem splN_len {a:Nat} {ws:List Nat}:(splN a ws).length=ws.length:=by simp [splN]
theorem splH_len {a:Nat} {ws:List Nat} {i:Nat} (hi:i≤ws.length):(splH a ws i).length=ws.length:=by simp [splH,splN_len];omega
theorem splH_0 {a:Nat} {ws:List Nat}:List.replicate ws.length [C.int .u64 0]=u64s (splH a ws 0):=by simp [splH,u64s]
theorem splH_all {a:Nat} {ws:List Nat}:splH a ws ws.length=splN a ws:=by
 rw [splH,Nat.sub_self,List.replicate_zero,List.append_nil,List.take_of_length_le (by rw [splN_len];exact Nat.le_refl _)]
theorem splH_set {a:Nat} {ws:List Nat} {i:Nat} (hi:i<ws.length):(splH a ws i).set i (splP a ws ws.sum i)=splH a ws (i+1):=by
 have hl:i<(splN a ws).length:=by rw [splN_len];exact hi
 have h1:((splN a ws).take i).length=i:=by rw [List.length_take];omega
 rw [splH,splH,List.take_succ_eq_append_getElem hl,List.append_assoc,List.set_append_right _ _ (by omega),h1,Nat.sub_self]
 obtain⟨k,hk⟩:∃k,ws.length - i=k+1:=⟨ws.length - i - 1,by omega⟩
 rw [hk,show ws.length - (i+1)=k by omega,List.replicate_succ,List.set_cons_zero]
 simp [splN]
attribute [go_sem] Tryz.f27 Tryz.f60 Tryz.f107 Tryz.f59
@[go_sem] def c_split:Ct Tryz.prog:=⟨27,arg kU64 fun a=>arg (kSl u64s du64s) fun ws=>pu (.tup [.sl (u64s (splL a ws).1), .int .i64 (splL a ws).2]),arg_ok fun a=>arg_ok fun ws=>ret_ok fun _=>by
 refine run [c_moncheck,c_part] Tryz.f27 lv27 fun hT=>vc ?_
 have hbad:¬(a≤4611686018427387904∧ws.length≠0∧ws.length≤64∧(∀w∈ws,w≤1000000)∧ws.sum≠0)→u64s (splL a ws).1=[]∧1=(splL a ws).2:=fun h=>by rw [splL,if_neg h];exact⟨rfl,rfl⟩
 refine⟨fun h1 _=>⟨fun h2 _=>⟨fun h3=> ?_,fun h3=>hbad fun h=>by omega⟩,fun h2=>hbad fun h=>by omega⟩,fun h1=>hbad fun h=>h1 (mon1_0.2 h.1)⟩
 replace h1:=mon1_0.1 h1
 refine cl hT Tryz.f60 lv60 (vc ?_)
 refine cl hT Tryz.f107 lv107 (vc ?_)
 refine fun _=>SWp.loop (ι:={i:Nat // i≤ws.length∧∀j,j<i→ws.getD j 0≤1000000}) (fun i=>⟨[(0, .sl (u64s ws)),(1, .fn (.func 59) [] []),(7, .int .i64 ws.length),(8, .int .i64 i.1)],[],1⟩) (fun i=>ws.length - i.1) ⟨0,by simp⟩ ?_ ?_
 ·simp [go_sem]
 ·rintro⟨i,hi,hall⟩
  refine aw hT lv107 (vc ?_)
  refine⟨fun h4=>⟨by omega, ?_⟩,fun h4=> ?_⟩
  ·skip
   refine cl hT Tryz.f59 lv59 (vc ?_)
   have hi':i<ws.length:=by omega
   have hin:=mem_getD.2 ⟨i,hi',rfl⟩
   refine⟨fun h5=>hbad fun h=>by have:=h.2.2.2.1 _ hin;omega,fun h5=>⟨⟨i+1,by omega,fun j hj=> ?_⟩,by dsimp only;omega,i64_in _ (by omega)⟩⟩
   by_cases hji:j=i
   ·subst hji;exact Int.ofNat_le.1 (Int.not_lt.1 h5)
   ·exact hall j (by omega)
  ·have hi':i=ws.length:=by omega
   subst hi'
   have hok:∀x∈ws,x≤1000000:=fun x hx=>by obtain⟨j,hj,rfl⟩:=mem_getD.1 hx;exact hall j hj
   refine⟨fun h=>h.elim,fun _=>SWp.loop (ι:={i:Nat // i≤ws.length}) (fun i=>⟨[(0, .int .u64 a),(1, .sl (u64s ws)),(7, .int .u64 ((ws.take i.1).sum:Nat)),(8, .int .u64 0),(9, .int .u64 0),(35, .sl (u64s ws)),(36, .int .i64 ws.length),(37, .int .i64 i.1)],[],1⟩) (fun i=>ws.length - i.1) ⟨0,by simp⟩ ?_ ?_⟩
   ·simp [go_sem]
   ·rintro⟨i,hi⟩
    refine aw hT lv27 (vc ?_)
    have hs2:=sumT_le (i:=i) hok
    have hs3:i*1000000≤64000000:=by omega
    refine⟨fun h5=>⟨h5,⟨i+1,by omega⟩,by dsimp only;omega, ?_,i64_in _ (by omega)⟩,fun h5=> ?_⟩
    ·have hi':i<ws.length:=by omega
     rw [sumT_succ hi',←Int.natCast_add]
     refine wN ?_
     have:=hok _ (mem_getD.2 ⟨i,hi',rfl⟩)
     omega
    ·have hi':i=ws.length:=by omega
     subst hi'
     rw [List.take_length]at hs2⊢
     refine⟨fun h6=>hbad fun h=>h.2.2.2.2 (by omega),fun h6 _=>⟨⟨Int.le_refl _,by omega⟩,fun _=> ?_⟩⟩
     have hsum:ws.sum≠0:=fun h=>h6 (by rw [h];rfl)
     have hgood:splL a ws=(splN a ws,0):=by rw [splL,if_pos ⟨h1,by omega,by omega,hok,hsum⟩]
     rw [hgood]
     refine SWp.loop (ι:={i:Nat // i≤ws.length}) (fun i=>⟨[(0, .int .u64 a),(7, .int .u64 ws.sum),(8, .int .u64 ((ws.take i.1).sum:Nat)),(9, .int .u64 (a*(ws.take i.1).sum / ws.sum:Nat)),(12, .vec 1 ws.length),(50, .sl (u64s ws)),(51, .int .i64 ws.length),(52, .int .i64 i.1)],[(1, .vec true 1 26 (u64s (splH a ws i.1)))],2⟩) (fun i=>ws.length - i.1) ⟨0,by simp⟩ ?_ ?_
     ·simp [go_sem,←splH_0]
     ·rintro⟨j,hj⟩
      refine aw hT lv27 (vc ?_)
      refine⟨fun h7=> ?_,fun h7=> ?_⟩
      ·have hj':j<ws.length:=by omega
       have hle:=sumT_all (l:=ws) (i:=j+1)
       have e1:IntKind.u64.wrap (((ws.take j).sum:Nat)+((ws.getD j default:Nat):Int))=(((ws.take (j+1)).sum:Nat):Int):=by
        rw [sumT_succ hj',←Int.natCast_add]
        refine wN ?_
        rw [sumT_succ hj']at hle;omega
       have hA:a*(ws.take (j+1)).sum / ws.sum≤a:=Nat.div_le_of_le_mul (by rw [Nat.mul_comm];exact Nat.mul_le_mul_right _ hle)
       have hB:a*(ws.take j).sum / ws.sum≤a*(ws.take (j+1)).sum / ws.sum:=Nat.div_le_div_right (Nat.mul_le_mul_left _ (by rw [sumT_succ hj'];exact Nat.le_add_right _ _))
       have e2:(IntKind.u64.wrap (((a*(ws.take (j+1)).sum / ws.sum:Nat):Int) - ((a*(ws.take j).sum / ws.sum:Nat):Int))).toNat=splP a ws ws.sum j:=by
        unfold splP
        generalize a*(ws.take (j+1)).sum / ws.sum=A at*
        generalize a*(ws.take j).sum / ws.sum=B at*
        rw [show(A:Int) - B=((A - B:Nat):Int) by omega,wN (by omega),Int.toNat_natCast]
       rw [e1,Int.toNat_natCast,e2]
       exact⟨h7,⟨rfl,hsum,hle,h1,by omega⟩,h7,⟨(splH_len hj).symm,hj'⟩,⟨j+1,hj'⟩,by dsimp only;omega,⟨rfl,rfl,i64_in _ (by omega)⟩,by rw [splH_set hj']⟩
      ·have hj':j=ws.length:=by omega
       subst hj'
       rw [splH_all]
       exact⟨splN_len.symm,_,_,_,rfl⟩⟩
theorem lay_take {E:List (List C)} {k:Nat} {l:List (List C)} (h:k+l.length≤E.length):(lay E k l).length=E.length∧(lay E k l).take (k+l.length)=E.take k++l:=by
 have h1:(E.take k).length=k:=by rw [List.length_take];omega
 refine⟨by simp [lay,setAt,h1];omega, ?_⟩
 rw [lay,setAt,List.take_append_of_le_length (by rw [List.length_append,h1];exact Nat.le_refl _),List.take_of_length_le (by rw [List.length_append,h1];exact Nat.le_refl _)]
theorem rep_take {v k j:Nat}:(u64s (List.replicate k v)).take j=u64s (List.replicate (min j k) v):=by
 rw [u64s_take,List.take_replicate]
theorem rep_app {v k j:Nat}:u64s (List.replicate k v)++u64s (List.replicate j v)=u64s (List.replicate (k+j) v):=by
 rw [u64s_app,List.replicate_append_replicate]
attribute [go_sem] Tryz.f28 Tryz.f62
@[go_sem] def c_rep1:Ct Tryz.prog:=⟨28,arg (kSl u64s du64s) fun x=>arg kI64 fun n=>ret ((x.length=1)∧(0≤n)∧(n≤16)) (.sl (u64s (List.replicate n.toNat (x.getD 0 default)))) [],arg_ok fun x=>arg_ok fun n=>ret_ok fun⟨hx,h0,h1⟩=>by
 have hT:=tb_ok (P:=Tryz.prog) [c_mul64]
 have hneg:(n<0)=False:=eq_false (by omega)
 have hx2:IntKind.u64.wrap (x.length:Int)=((1:Nat):Int):=by rw [hx];rfl
 have hn2:IntKind.u64.wrap n=((n.toNat:Nat):Int):=by rw [←Int.toNat_of_nonneg h0];exact wN (by omega)
 refine .of (ACall.sld ?_)
 refine acall_introM (n:=48) (fn:=Tryz.f28) (by kernel_rfl) rfl rfl rfl (Nat.le_of_ble_eq_true rfl) (rs:=[.tmp 4]) rfl ?_
 refine SWm.seq (SWm.awp hT.toS lv28 rfl ?_)
 refine vc ?_
 refine SWm.seq (SWm.awp hT.toS lv28 rfl ?_)
 simp -implicitDefEqProofs only [cdA,go_sem,hneg,decide_false,cdN,simprocAttr, -Int.reduceEq,List.cons.injEq,cdB]
 refine SWm.seq (SWm.awp hT.toS lv28 rfl ?_)
 simp -implicitDefEqProofs only [cdA,go_sem,hx2,hn2,simprocAttr, -Int.reduceEq,List.cons.injEq,cdB]
 refine fun _=> ?_
 refine cl hT Tryz.f62 lv62 (vc ?_)
 refine⟨by omega, ?_⟩
 have hm0:((1*n.toNat / 18446744073709551616:Nat):Int)=0:=by omega
 have hm1:((1*n.toNat % 18446744073709551616:Nat):Int)=(n.toNat:Int):=by omega
 rw [hm0,hm1]
 have hbig:((9223372036854775807:Int)<(n.toNat:Int))=False:=eq_false (by omega)
 have hw3:IntKind.i64.wrap (n.toNat:Int)=(n.toNat:Int):=i64_in _ (by omega)
 refine SWm.seq (SWm.awp hT.toS lv28 rfl ?_)
 simp -implicitDefEqProofs only [cdA,go_sem,hbig,decide_false,cdN,simprocAttr, -Int.reduceEq,List.cons.injEq,cdB]
 refine SWm.seq (SWm.awp hT.toS lv28 rfl ?_)
 simp -implicitDefEqProofs only [cdA,go_sem,hw3,simprocAttr, -Int.reduceEq,List.cons.injEq,cdB]
 refine⟨by omega,SWm.opn 0 rfl fun cp hc hcm=> ?_⟩
 refine SWm.seq (SWm.awp hT.toS lv28 rfl ?_)
 simp -implicitDefEqProofs only [cdA,go_sem,List.map_cons,List.map_nil,eq_self,simprocAttr, -Int.reduceEq,List.cons.injEq,cdB]
 obtain⟨v,rfl⟩:∃v,x=[v]:=by
  rcases x with _|⟨v,_|⟨_,_⟩⟩<;>simp at hx
  exact⟨v,rfl⟩
 rw [List.length_replicate]at hc
 rw [List.length_replicate,show([v]:List Nat).length=1 from rfl]
 generalize hm:n.toNat=m at*
 have hl0:=fit_length cp 1 (List.replicate m [C.int .u64 0])
 have ht:u64s (([v]:List Nat).take m)=u64s (List.replicate (min 1 m) v):=by
  rcases m with _|m
  ·rfl
  ·rw [show min 1 (m+1)=1 by omega];simp
 have hlen:∀k,(u64s (List.replicate k v)).length=k:=fun k=>by rw [u64s_length,List.length_replicate]
 rw [ht]
 have hl1:=lay_take (E:=fit cp 1 (List.replicate m [C.int .u64 0])) (k:=0) (l:=u64s (List.replicate (min 1 m) v)) (by rw [hlen,hl0];omega)
 rw [hl0,hlen,List.take_zero,List.nil_append,Nat.zero_add]at hl1
 rw [fit_eq hl1.1]
 generalize lay (fit cp 1 (List.replicate m [C.int .u64 0])) 0 (u64s (List.replicate (min 1 m) v))=E0 at*
 refine SWm.seq (SWm.block (SWm.of (SWp.loop (ι:={y:Nat×List (List C) // y.1≤m∧(m=0∨1≤y.1)∧y.2.length=cp∧y.2.take y.1=u64s (List.replicate y.1 v)}) (fun y=>⟨[(7, .view 0 cp 1 0 m),(8, .int .i64 y.1.1)],[(0, .vec true 1 26 y.1.2)],1⟩) (fun y=>m - y.1.1) ⟨(min 1 m,E0),by dsimp only;omega,by dsimp only;omega,hl1.1,hl1.2⟩ ?_ ?_)))
 ·simp [go_sem]
 ·rintro⟨⟨k,E⟩,hk,hk1,hE,hEt⟩
  refine awp_sound hT.toS lv28 _ _ _ rfl ?_
  refine vc ?_
  dsimp only at hk hk1 hE hEt
  refine fun _=>⟨fun h5=> ?_,fun h5=> ?_⟩
  ·refine dr us28_9 hT ?_
   simp -implicitDefEqProofs only [cdA,go_sem,hE,eq_self,simprocAttr, -Int.reduceEq,List.cons.injEq,cdB]
   have hkm:k<m:=by omega
   have hk1':1≤k:=by omega
   rw [hEt,hlen]
   have ht2:List.take (m - k) (u64s (List.replicate k v))=u64s (List.replicate (min (m - k) k) v):=rep_take
   have hl2:=lay_take (E:=E) (k:=k) (l:=u64s (List.replicate (min (m - k) k) v)) (by rw [hlen,hE];omega)
   rw [hlen,hEt,hE]at hl2
   rw [ht2,fit_eq hl2.1,Nat.min_comm k]
   refine⟨by omega,by omega,fun x hx=>by obtain⟨y,_,rfl⟩:=List.mem_map.1 hx;rfl,⟨(k+min (m - k) k,lay E k (u64s (List.replicate (min (m - k) k) v))),by dsimp only;omega, .inr (by dsimp only;omega),hl2.1, ?_⟩,by dsimp only;omega, ?_,rfl⟩
   ·dsimp only;rw [hl2.2,rep_app]
   ·rw [←Int.natCast_add];exact i64_in _ (by omega)
  ·skip
   refine SWm.awp hT.toS lv28 rfl ?_
   refine vc ?_
   have hkm:k=m:=by omega
   subst hkm
   rw [hEt]
   exact⟨hE.symm,(by rw [List.length_replicate]),_,_,_,rfl⟩⟩
attribute [go_sem] Tryz.f29 Tryz.f63
@[go_sem] def c_cont:Ct Tryz.prog:=⟨29,arg (kSl u64s du64s) fun l=>arg kU64 fun x=>pu (.bool (decide (x∈l))),arg_ok fun l=>arg_ok fun x=>ret_ok fun _=>by
 refine run [] Tryz.f29 lv29 fun hT=>vc ?_
 refine cl hT Tryz.f63 lv63 (vc ?_)
 refine fun _=>SWp.loop (ι:={i:Nat // i≤l.length∧∀j,j<i→l.getD j default≠x}) (fun i=>⟨[(0, .sl (u64s l)),(1, .int .u64 x),(7, .int .i64 l.length),(8, .int .i64 i.1)],[],0⟩) (fun i=>l.length - i.1) ⟨0,by simp⟩ ?_ ?_
 ·simp [go_sem]
 ·rintro⟨i,hi,hall⟩
  refine aw hT lv63 (vc ?_)
  refine⟨fun h1=>⟨h1,fun h2=> ?_,fun h2=>⟨⟨i+1,by omega,fun j hj=> ?_⟩,by dsimp only;omega,i64_in _ (by omega)⟩⟩,fun h1=> ?_⟩
  ·rw [eq_comm,decide_eq_true_iff,mem_getD];exact⟨i,by omega,by omega⟩
  ·by_cases hji:j=i
   ·subst hji;omega
   ·exact hall j (by omega)
  ·rw [decide_eq_decide]
   refine⟨False.elim,fun h2=> ?_⟩
   obtain⟨j,hj,hjx⟩:=mem_getD.1 h2
   exact hall j (by omega) hjx⟩
def evL (n:Nat) (h:List Nat):List It:=(List.range h.length).map fun i=>⟨h.getD i default,evP n h.length i⟩
def evW (n:Nat) (h:List Nat):List It×Int:=if h.length≠0∧h.length≤16∧n≤4611686018427387904∧0∉evN n h.length then(evL n h,0)else([],1)
theorem ones_sum {k:Nat}:(List.replicate k 1).sum=k:=by simp
theorem spl_ones {n k:Nat} (hk:k≤16):splL n (List.replicate k 1)=if n≤4611686018427387904∧k≠0 then(evN n k,0)else([],1):=by
 have h1:∀w∈List.replicate k 1,w≤1000000:=fun w hw=>by rw [(List.mem_replicate.1 hw).2];decide
 unfold splL
 rw [List.length_replicate,ones_sum]
 by_cases h:n≤4611686018427387904∧k≠0
 ·rw [if_pos h,if_pos ⟨h.1,h.2,by omega,h1,h.2⟩]
  congr 1
  unfold splN evN
  rw [List.length_replicate,ones_sum]
  refine List.map_congr_left fun i hi=> ?_
  have hi:=List.mem_range.1 hi
  rw [splP,evP,List.take_replicate,List.take_replicate,ones_sum,ones_sum,Nat.min_eq_left (by omega),Nat.min_eq_left (by omega)]
 ·rw [if_neg h,if_neg fun h2=>h ⟨h2.1,h2.2.1⟩]
def evH (n:Nat) (h:List Nat) (i:Nat):List It:=(evL n h).take i++List.replicate (h.length - i) default
theorem evL_len {n:Nat} {h:List Nat}:(evL n h).length=h.length:=by simp [evL]
theorem evH_len {n:Nat} {h:List Nat} {i:Nat} (hi:i≤h.length):(evH n h i).length=h.length:=by simp [evH,evL_len];omega
theorem evH_0 {n:Nat} {h:List Nat}:List.replicate h.length [C.int .u64 0,C.int .u64 0]=its (evH n h 0):=by
 simp only [evH,List.take_zero,List.nil_append,Nat.sub_zero,its,List.map_replicate];rfl
theorem evH_all {n:Nat} {h:List Nat}:evH n h h.length=evL n h:=by
 rw [evH,Nat.sub_self,List.replicate_zero,List.append_nil,List.take_of_length_le (by rw [evL_len];exact Nat.le_refl _)]
theorem evH_set {n:Nat} {h:List Nat} {i:Nat} (hi:i<h.length):(evH n h i).set i ⟨h.getD i default,evP n h.length i⟩=evH n h (i+1):=by
 have hl:i<(evL n h).length:=by rw [evL_len];exact hi
 have h1:((evL n h).take i).length=i:=by rw [List.length_take];omega
 rw [evH,evH,List.take_succ_eq_append_getElem hl,List.append_assoc,List.set_append_right _ _ (by omega),h1,Nat.sub_self]
 obtain⟨k,hk⟩:∃k,h.length - i=k+1:=⟨h.length - i - 1,by omega⟩
 rw [hk,show h.length - (i+1)=k by omega,List.replicate_succ,List.set_cons_zero]
 simp [evL]
theorem evN_get {n k i:Nat} (hi:i<k):(evN n k).getD i default=evP n k i:=by
 rw [List.getD_eq_getElem?_getD,evN,List.getElem?_map,List.getElem?_range hi];rfl
attribute [go_sem] Tryz.f11
@[go_sem] def c_beven:Ct Tryz.prog:=⟨11,arg kU64 fun n=>arg (kSl u64s du64s) fun h=>pu (.tup [.sl (its (evW n h).1), .int .i64 (evW n h).2]),arg_ok fun n=>arg_ok fun h=>ret_ok fun _=>by
 refine run [c_split,c_rep1,c_cont] Tryz.f11 lv11 fun hT=>vc ?_
 have hbad:¬(h.length≠0∧h.length≤16∧n≤4611686018427387904∧0∉evN n h.length)→its (evW n h).1=[]∧1=(evW n h).2:=fun hh=>by rw [evW,if_neg hh];exact⟨rfl,rfl⟩
 refine fun _=>⟨fun h1=>hbad fun hh=>by omega,fun h1 _=>⟨by omega, ?_⟩⟩
 rw [show([1]:List Nat).getD 0 default=1 from rfl]
 have hs:=spl_ones (n:=n) (k:=h.length) (by omega)
 by_cases hc:n≤4611686018427387904∧h.length≠0
 rotate_left 1
 ·rw [if_neg hc]at hs
  rw [hs]
  exact⟨fun h2=>by simp at h2,fun _=>hbad fun hh=>hc ⟨hh.2.2.1,hh.1⟩⟩
 rw [if_pos hc]at hs
 rw [hs]
 dsimp only
 refine⟨fun _=>⟨fun h2=>hbad fun hh=>hh.2.2.2 h2,fun h2 _=>⟨⟨Int.le_refl _,by omega⟩,fun _=> ?_⟩⟩,fun h2=>absurd rfl h2⟩
 have hgood:evW n h=(evL n h,0):=by rw [evW,if_pos ⟨hc.2,by omega,hc.1,h2⟩]
 have hel:(evN n h.length).length=h.length:=by simp [evN]
 rw [hgood]
 refine SWp.loop (ι:={i:Nat // i≤h.length}) (fun i=>⟨[(6, .sl (u64s (evN n h.length))),(8, .vec 1 h.length),(32, .sl (u64s h)),(33, .int .i64 h.length),(34, .int .i64 i.1)],[(1, .vec true 2 55 (its (evH n h i.1)))],2⟩) (fun i=>h.length - i.1) ⟨0,by simp⟩ ?_ ?_
 ·simp [go_sem,←evH_0]
 ·rintro⟨j,hj⟩
  refine aw hT lv11 (vc ?_)
  rw [hel]
  refine⟨fun h7=> ?_,fun h7=> ?_⟩
  ·have hj':j<h.length:=by omega
   rw [evN_get hj',evH_set hj']
   exact⟨h7,h7,h7,⟨(evH_len hj).symm,hj'⟩,⟨j+1,hj'⟩,by dsimp only;omega,i64_in _ (by omega),rfl⟩
  ·have hj':j=h.length:=by omega
   subst hj'
   rw [evH_all]
   exact⟨evL_len.symm,_,_,_,rfl⟩⟩
open Go Go.Proofs Go.IntWalk
attribute [go_sem] Tryz.f15
@[go_sem] def c_r18items:Ct Tryz.prog:=⟨15,arg kIts fun a=>arg kIts fun b=>pu (.bool (decide (a=b))),arg_ok fun a=>arg_ok fun b=>ret_ok fun _=>by
 refine run [] Tryz.f15 lv15 fun hT=>vc ?_
 refine fun ha hb=>⟨fun hl _=> ?_,fun h=> ?_⟩
 ·refine SWp.loop (ι:={i:Nat // i≤a.length∧a.take i=b.take i}) (fun i=>⟨[(0, .sl (its a)),(1, .sl (its b)),(12, .int .i64 a.length),(13, .int .i64 i.1)],[],0⟩) (fun i=>a.length - i.1) ⟨0,by simp⟩ ?_ ?_
  ·simp [go_sem]
  ·rintro⟨i,hi,hab⟩
   refine aw hT lv15 (vc ?_)
   refine⟨fun h=> ?_,fun h=> ?_⟩
   ·refine dr us15_6 hT (vc ?_)
    have h1:i<a.length:=by omega
    have h2:i<b.length:=by omega
    have ht:=take_succ_iff h1 h2 hab
    refine⟨by omega,by omega,fun he=>⟨⟨i+1,h1,ht.2 he⟩,by dsimp only;omega,i64_in _ (by omega)⟩,fun he=> ?_⟩
    rw [eq_comm,decide_eq_false_iff_not]
    rintro rfl
    exact he rfl
   ·have e:i=a.length:=by omega
    have:a=b:=by
     rw [e,List.take_length]at hab
     rw [hab,List.take_of_length_le (by omega)]
    simp [this]
 ·have:a≠b:=by rintro rfl;exact h rfl
  simp [this]⟩
attribute [go_sem] Tryz.f8
@[go_sem] def c_r18sum:Ct Tryz.prog:=⟨8,arg kIts fun l=>pu (.tup [.int .u64 ((sumB l).1:Int), .int .i64 (sumB l).2]),arg_ok fun l=>ret_ok fun _=>by
 refine run [c_r4add] Tryz.f8 lv8 fun hT=>vc ?_
 refine fun _=>⟨fun h0 _=>⟨fun h1=> ?_,fun h1 _=> ?_⟩,fun h0=> ?_⟩
 ·rw [sumB,if_neg fun h=>by have:=h.2.1;omega];exact⟨rfl,rfl⟩
 rotate_left 1
 ·rw [sumB,if_neg fun h=>h.1 (by omega)];exact⟨rfl,rfl⟩
 refine SWp.nilvec 4 1 26 rfl (Nat.zero_le _) ?_
 refine SWp.loop (ι:={i:Nat // i≤l.length∧∀j,j<i→¬(l.getD j default).n=0}) (fun i=>⟨[(4, .vec 0 i.1),(15, .sl (its l)),(16, .int .i64 l.length),(17, .int .i64 i.1)],[(0, .vec true 1 26 (u64s ((l.map It.n).take i.1)))],1⟩) (fun i=>l.length - i.1) ⟨0,by simp⟩ ?_ ?_
 ·simp [go_sem];rfl
 ·rintro⟨i,hi,hall⟩
  by_cases hlt:i<l.length
  ·have hb:((i:Int)<(l.length:Int))=True:=eq_true (by omega)
   refine aw hT lv8 ?_
   simp -implicitDefEqProofs only [cdA,go_sem,hb,cdN,simprocAttr, -Int.reduceEq,List.cons.injEq,cdB]
   have hml:(l.map It.n).length=l.length:=List.length_map _
   refine⟨fun h2=> ?_,fun h2=>⟨⟨by rw [List.length_take];omega,by rw [List.length_take];omega⟩,⟨i+1,hlt,fun j hj=> ?_⟩,by dsimp only;omega,⟨rfl,i64_in _ (by omega)⟩, ?_⟩⟩
   ·have hz:sumB l=(0,1):=by
     rw [sumB,if_neg]
     rintro⟨_,_,h⟩
     exact(h _ (mem_getD.2 ⟨i,hlt,rfl⟩)).1 (by omega)
    rw [hz];exact⟨rfl,rfl⟩
   ·by_cases hji:j=i
    ·subst hji;omega
    ·exact hall j (by omega)
   ·dsimp only
    rw [List.take_succ_eq_append_getElem (by omega),getD_lt hlt,List.getElem_map]
  ·have hi':i=l.length:=by omega
   subst hi'
   have hb:((l.length:Int)<(l.length:Int))=False:=eq_false (by omega)
   have ht:(l.map It.n).take l.length=l.map It.n:=List.take_of_length_le (by rw [List.length_map];exact Nat.le_refl _)
   refine aw hT lv8 ?_
   simp -implicitDefEqProofs only [cdA,go_sem,hb,ht,List.length_map,cdN,simprocAttr, -Int.reduceEq,List.cons.injEq,cdB]
   have hs:addM (l.map It.n)=sumB l:=by
    have h16:l.length≠0∧l.length≤16:=by omega
    by_cases hm:∀x∈l,x.n≤MM
    ·have h2:monS (l.map It.n)=0:=by
      rw [monS,if_pos]
      refine List.all_eq_true.2 fun n hn=> ?_
      obtain⟨x,hx,rfl⟩:=List.mem_map.1 hn
      exact decide_eq_true (hm x hx)
     have h3:l.length≠0∧l.length≤16∧∀x∈l,okIt x:=⟨h16.1,h16.2,fun x hx=>⟨by obtain⟨j,hj,rfl⟩:=mem_getD.1 hx;exact hall j hj,hm x hx⟩⟩
     rw [addM,if_pos h2]
     unfold sumB
     rw [if_pos h3]
     rfl
    ·have h2:¬monS (l.map It.n)=0:=fun h=>hm fun x hx=>by
      unfold monS at h
      split at h
      ·rename_i h3
       exact of_decide_eq_true (List.all_eq_true.1 h3 _ (List.mem_map.2 ⟨x,hx,rfl⟩))
      ·cases h
     rw [addM,if_neg h2,sumB,if_neg fun h=>hm fun x hx=>(h.2.2 x hx).2]
   rw [hs]
   exact⟨rfl,rfl⟩⟩
attribute [go_sem] Tryz.f64
@[go_sem] def c_r4of:Ct Tryz.prog:=⟨64,arg kU64 fun a=>arg kU64 fun p=>arg kU64 fun w=>ret (w≠0∧p≤w∧w≤64000000∧a≤4611686018427387904) (.int .u64 (a*p / w:Nat)) [],arg_ok fun a=>arg_ok fun p=>arg_ok fun w=>ret_ok fun h=>by
 refine run [] Tryz.f64 lv64 fun hT=>vc ?_
 obtain⟨hw,hp,hw2,ha⟩:=h
 refine⟨by omega,by omega,by omega, ?_⟩
 have b1:=Nat.div_le_self a w
 have b2:a / w*p≤a:=Nat.le_trans (Nat.mul_le_mul_left _ hp) (Nat.div_mul_le_self a w)
 have b3:=Nat.mod_lt a (show 0<w by omega)
 have b4:a % w*p≤64000000*64000000:=Nat.mul_le_mul (by omega) (by omega)
 have b5:=Nat.div_le_self (a % w*p) w
 have e0:a / w*p+a % w*p / w=a*p / w:=by
  have:a*p=w*(a / w*p)+a % w*p:=by
   conv=>lhs;rw [←Nat.div_add_mod a w]
   rw [Nat.add_mul,Nat.mul_assoc]
  rw [this,Nat.mul_add_div (by omega)]
 have b6:a*p / w≤a:=Nat.div_le_of_le_mul (by rw [Nat.mul_comm w a];exact Nat.mul_le_mul_left _ hp)
 generalize hx1:a / w=x1 at*
 generalize hx2:a % w=x2 at*
 rw [←Int.ofNat_tdiv,←Int.ofNat_tmod,hx1,hx2,u64_in ((x1:Nat):Int) (by omega),←Int.natCast_mul,←Int.natCast_mul]
 generalize x1*p=x3 at*
 generalize x2*p=x4 at*
 rw [u64_in ((x3:Nat):Int) (by omega),u64_in ((x4:Nat):Int) (by omega),←Int.ofNat_tdiv]
 generalize x4 / w=x5 at*
 generalize a*p / w=x6 at*
 rw [u64_in ((x5:Nat):Int) (by omega),u64_in ((x3:Nat)+(x5:Nat):Int) (by omega)]
 omega⟩
attribute [go_sem] Tryz.f30
@[go_sem] def c_r4split:Ct Tryz.prog:=⟨30,arg kU64 fun a=>arg (kSl u64s du64s) fun ws=>pu (.tup [.sl (u64s (splL a ws).1), .int .i64 (splL a ws).2]),arg_ok fun a=>arg_ok fun ws=>ret_ok fun _=>by
 refine run [c_r4check,c_r4of] Tryz.f30 lv30 fun hT=>vc ?_
 have hbad:¬(a≤4611686018427387904∧ws.length≠0∧ws.length≤64∧(∀w∈ws,w≤1000000)∧ws.sum≠0)→u64s (splL a ws).1=[]∧1=(splL a ws).2:=fun hh=>by rw [splL,if_neg hh];exact⟨rfl,rfl⟩
 rw [mon1_0]
 refine⟨fun ha _=>⟨fun h0 _=>⟨fun h64=>hbad fun h=>by omega,fun h64 _=> ?_⟩,fun h0=>hbad fun h=>by omega⟩,fun ha=>hbad fun h=>ha h.1⟩
 refine lpl (ι:={i:Nat // i≤ws.length∧∀j,j<i→ws.getD j default≤1000000}) (fun s i=>(s.up 6 (.int .u64 (ws.take i.1).sum)).up 29 (.int .i64 i.1)) (fun i=>ws.length - i.1) ⟨0,by simp⟩ ?_
 rintro⟨i,hi,hall⟩
 refine aw hT lv30 (vc ?_)
 have hsb:(ws.take i).sum≤i*1000000:=by
  have hl:(ws.take i).length=i:=by rw [List.length_take];omega
  have:=sumT_le (l:=ws.take i) (m:=1000000) (i:=i) fun x hx=>by
   obtain⟨j,hj,rfl⟩:=mem_getD.1 hx
   rw [hl]at hj
   rw [getD_lt (by omega),List.getElem_take,←getD_lt (by omega)]
   exact hall j hj
  rw [List.take_of_length_le (by omega)]at this
  exact this
 refine⟨fun h1=>⟨h1,fun h2=>hbad fun h=> ?_,fun h2=>⟨⟨i+1,by omega,fun j hj=> ?_⟩,by dsimp only;omega, ?_,i64_in _ (by omega)⟩⟩,fun h1=> ?_⟩
 ·have:=h.2.2.2.1 _ (mem_getD.2 ⟨i,by omega,rfl⟩);omega
 ·by_cases hji:j=i
  ·subst hji;omega
  ·exact hall j (by omega)
 ·dsimp only
  have hi64:i*1000000≤64*1000000:=Nat.mul_le_mul_right _ (by omega)
  rw [sumT_succ (by omega),u64_in _ (by omega)];omega
 have hi':i=ws.length:=by omega
 subst hi'
 rw [List.take_length]at hsb⊢
 refine⟨fun h2=>hbad fun h=>by omega,fun h2 _=> ?_⟩
 have hws:∀w∈ws,w≤1000000:=fun w hw=>by obtain⟨j,hj,rfl⟩:=mem_getD.1 hw;exact hall j hj
 rw [splL,if_pos ⟨ha,by omega,by omega,hws,by omega⟩]
 dsimp only
 have hN:(splN a ws).length=ws.length:=splN_len
 refine nv 9 1 26 ?_
 refine lpl (ι:={i:Nat // i≤ws.length}) (fun s i=>(((s.up 9 (.vec 1 ((splN a ws).take i.1).length)).up 10 (.int .u64 (ws.take i.1).sum)).up 43 (.int .i64 i.1)).uo 1 (.vec true 1 26 (u64s ((splN a ws).take i.1)))) (fun i=>ws.length - i.1) ⟨0,by simp⟩ ?_ (by simp [go_sem];rfl)
 rintro⟨i,hi⟩
 refine aw hT lv30 (vc ?_)
 have hMs:ws.sum≤64*1000000:=Nat.le_trans hsb (Nat.mul_le_mul_right _ (by omega))
 refine⟨fun h3=> ?_,fun h3=> ?_⟩
 ·have hi':i<ws.length:=by omega
  have hS:=sumT_all (l:=ws) (i:=i+1)
  have hs:=sumT_succ hi'
  have e1:IntKind.u64.wrap (((ws.take i).sum:Int)+(ws.getD i default:Nat))=((ws.take (i+1)).sum:Nat):=by rw [hs,u64_in _ (by omega)];omega
  rw [e1,Int.toNat_natCast]
  have hm:a*(ws.take i).sum / ws.sum≤a*(ws.take (i+1)).sum / ws.sum:=Nat.div_le_div_right (Nat.mul_le_mul_left _ (by omega))
  have hb:a*(ws.take (i+1)).sum / ws.sum≤a:=Nat.div_le_of_le_mul (by rw [Nat.mul_comm ws.sum a];exact Nat.mul_le_mul_left _ hS)
  have hv:(IntKind.u64.wrap (((a*(ws.take (i+1)).sum / ws.sum:Nat):Int) - ((a*(ws.take i).sum / ws.sum:Nat):Int))).toNat=splP a ws ws.sum i:=by
   rw [splP]
   generalize a*(ws.take i).sum / ws.sum=x1 at*
   generalize a*(ws.take (i+1)).sum / ws.sum=x2 at*
   rw [u64_in _ (by omega)];omega
  have ht:(splN a ws).take (i+1)=(splN a ws).take i++[splP a ws ws.sum i]:=by
   rw [List.take_succ_eq_append_getElem (by omega)];simp [splN]
  refine⟨h3,⟨rfl,by omega,hS,by omega,ha⟩,⟨by omega,sumT_all,by omega,ha⟩,by rw [List.length_take];omega,⟨i+1,hi'⟩,by dsimp only;omega,⟨?_,rfl,i64_in _ (by omega)⟩, ?_⟩
  ·dsimp only;rw [ht,List.length_append];rfl
  ·dsimp only;rw [ht,hv]
 ·rw [List.take_of_length_le (by omega)]
  exact⟨rfl,_,_,_,rfl⟩⟩
attribute [go_sem] Tryz.f10
@[go_sem] def c_r18pay:Ct Tryz.prog:=⟨10,arg kWl fun w=>arg kIts fun l=>ret (w.f.next≤18446744073709551615) (.tup [kWl.d (batW w l).1, .sl (u64s (batW w l).2.1), .int .i64 (batW w l).2.2.1, .int .i64 (batW w l).2.2.2]) [],arg_ok fun w=>arg_ok fun l=>ret_ok fun h=>by
 refine run [c_r18sum,c_r17pay] Tryz.f10 lv10 fun hT=>vc ?_
 refine⟨fun h1 _=> ?_,fun h1=> ?_⟩
 rotate_left 1
 ·rw [batW,if_neg h1]
  exact⟨⟨rfl,rfl,rfl,rfl,rfl,rfl,rfl,rfl⟩,rfl,rfl,rfl⟩
 have hl:l.length≤16:=by
  unfold sumB at h1
  split at h1
  ·rename_i h;exact h.2.1
  ·cases h1
 have hb:batW w l=payB w l:=by rw [batW,if_pos h1]
 rw [hb]
 refine nv 10 1 26 ?_
 refine lpl (ι:={i:Nat // i≤l.length∧seqOk w (l.take i)}) (fun s i=>(((s.up 10 (.vec 2 (seqI w (l.take i.1)).length)).up 27 (.int .i64 i.1)).uo 2 (.vec true 1 26 (u64s (seqI w (l.take i.1))))).uo 0 (.box ((seqW w (l.take i.1)).enc.map D.c))) (fun i=>l.length - i.1) ⟨0,by omega,trivial⟩ ?_ (by simp [go_sem,seqW,seqI];rfl)
 rintro⟨i,hi,hok⟩
 have hfn:=seq_fnext h hok
 refine aw hT lv10 (vc ?_)
 have hsl:(seqI w (l.take i)).length=i:=by rw [seqI_len,List.length_take];omega
 refine⟨fun h2=>⟨h2,hfn,fun h3=> ?_,fun h3=> ?_⟩,fun h2=> ?_⟩
 ·have hi':i<l.length:=by omega
  obtain⟨a1,a2,a3⟩:=seq_app (l:=l.take i) (w:=w) (m:=[l.getD i default])
  rw [←take_succ hi']at a1 a2 a3
  refine⟨by omega,⟨i+1,hi',a3.2 ⟨hok,h3,trivial⟩⟩,by dsimp only;omega,⟨?_,i64_in _ (by omega)⟩, ?_, ?_⟩
  ·dsimp only;rw [a2,List.length_append];rfl
  ·dsimp only;rw [a2];rfl
  ·dsimp only;rw [a1];exact⟨rfl,rfl,rfl,rfl,rfl,rfl,rfl,rfl⟩
 ·have hi':i<l.length:=by omega
  have hx:l[i]? =some (l.getD i default):=by rw [getD_lt hi'];exact List.getElem?_eq_getElem hi'
  rw [payB_at hx hok h3]
  exact⟨⟨rfl,rfl,rfl,rfl,rfl,rfl,rfl,rfl⟩,rfl,rfl,rfl⟩
 ·have hi':i=l.length:=by omega
  subst hi'
  rw [List.take_length]at hok⊢
  rw [payB_ok hok]
  exact⟨⟨rfl,rfl,rfl,rfl,rfl,rfl,rfl,rfl⟩,⟨rfl,_,_,_,rfl⟩,rfl,rfl⟩⟩
attribute [go_sem] Tryz.f12
@[go_sem] def c_r18even:Ct Tryz.prog:=⟨12,arg kU64 fun n=>arg (kSl u64s du64s) fun h=>pu (.tup [.sl (its (evW n h).1), .int .i64 (evW n h).2]),arg_ok fun n=>arg_ok fun h=>ret_ok fun _=>by
 refine run [c_r4split] Tryz.f12 lv12 fun hT=>vc ?_
 have hbad:¬(h.length≠0∧h.length≤16∧n≤4611686018427387904∧0∉evN n h.length)→its (evW n h).1=[]∧1=(evW n h).2:=fun hh=>by rw [evW,if_neg hh];exact⟨rfl,rfl⟩
 refine fun _=>⟨fun h0 _=>⟨fun h16=>hbad fun hh=>by omega,fun h16 _=> ?_⟩,fun h0=>hbad fun hh=>by omega⟩
 refine nv 6 1 26 ?_
 refine lpl (ι:={i:Nat // i≤h.length}) (fun s i=>((s.up 6 (.vec 0 (List.replicate i.1 1).length)).up 22 (.int .i64 i.1)).uo 0 (.vec true 1 26 (u64s (List.replicate i.1 1)))) (fun i=>h.length - i.1) ⟨0,by simp⟩ ?_ (by simp [go_sem];rfl)
 rintro⟨i,hi⟩
 refine aw hT lv12 (vc ?_)
 refine⟨fun h1=>⟨by rw [List.length_replicate];omega,⟨i+1,by omega⟩,by dsimp only;omega,⟨by dsimp only;rw [List.length_replicate,List.length_replicate],i64_in _ (by omega)⟩,by dsimp only;rw [List.replicate_succ']⟩,fun h1=> ?_⟩
 have hi':i=h.length:=by omega
 subst hi'
 have hs:=spl_ones (n:=n) (k:=h.length) (by omega)
 by_cases hc:n≤4611686018427387904∧h.length≠0
 rotate_left 1
 ·rw [if_neg hc]at hs
  rw [hs]
  exact⟨fun h2=>by simp at h2,fun _=>hbad fun hh=>hc ⟨hh.2.2.1,hh.1⟩⟩
 rw [if_pos hc]at hs
 rw [hs]
 dsimp only
 refine⟨fun _ _=> ?_,fun h2=>absurd rfl h2⟩
 have hel:(evN n h.length).length=h.length:=by simp [evN]
 have hgl:=evL_len (n:=n) (h:=h)
 refine nv 9 2 55 ?_
 refine lpl (ι:={i:Nat // i≤h.length∧∀j,j<i→(evN n h.length).getD j default≠0}) (fun s i=>((s.up 9 (.vec 1 ((evL n h).take i.1).length)).up 38 (.int .i64 i.1)).uo 1 (.vec true 2 55 (its ((evL n h).take i.1)))) (fun i=>h.length - i.1) ⟨0,by simp⟩ ?_ (by simp [go_sem];rfl)
 rintro⟨i,hi,hall⟩
 refine aw hT lv12 (vc ?_)
 refine⟨fun h1=>⟨h1,fun h2=>hbad fun hh=>hh.2.2.2 (mem_getD.2 ⟨i,by omega,by omega⟩),fun h2=> ?_⟩,fun h1=> ?_⟩
 ·have hi':i<h.length:=by omega
  have ht:(evL n h).take (i+1)=(evL n h).take i++[⟨h.getD i default,(evN n h.length).getD i default⟩]:=by
   rw [List.take_succ_eq_append_getElem (by omega),evN_get hi'];simp [evL]
  refine⟨by omega,by rw [List.length_take];omega,⟨i+1,hi',fun j hj=> ?_⟩,by dsimp only;omega,⟨?_,i64_in _ (by omega)⟩, ?_⟩
  ·by_cases hji:j=i
   ·subst hji;omega
   ·exact hall j (by omega)
  ·dsimp only;rw [ht,List.length_append];rfl
  ·dsimp only;rw [ht,show hds [⟨h.getD i default,(evN n h.length).getD i default⟩]=its [⟨h.getD i default,(evN n h.length).getD i default⟩]from rfl,its_app]
 ·have h0n:0∉evN n h.length:=fun h2=>by
   obtain⟨j,hj,hz⟩:=mem_getD.1 h2
   exact hall j (by omega) hz
  rw [evW,if_pos ⟨hc.2,by omega,hc.1,h0n⟩,List.take_of_length_le (by omega)]
  exact⟨⟨rfl,_,_,_,rfl⟩,rfl⟩⟩
open Go Go.Proofs Go.IntWalk
attribute [go_sem] Tryz.f3
theorem BatchDoes_ok (w:Wl) (l:List It) (n:Nat) (h:List Nat) (hf:w.f.next≤18446744073709551615):PureFn Tryz.prog 3 [.agg [.sl (chs w.c), .sl (wts w.w), .sl (ivs w.i), .sl (pys w.p), .c (.int .u64 (w.f.next:Int)), .sl (evs w.f.l), .c (.int .u64 (w.next:Int)), .c (.int .u64 (w.tick:Int))], .sl (its l), .c (.int .u64 (n:Int)), .sl (u64s h)] (.bool true):=by
 refine run [c_live,c_few17,c_r17copyg,c_bsum,c_r18sum,c_bpay,c_r18pay,c_beven,c_r18even,c_r17sameg,c_samenums,c_r18items] Tryz.f3 lv3 fun hT=>vc ?_
 refine⟨fun hq _=>⟨fun _ _=>⟨fun _=>trivial,fun _=>⟨?_,hf,hf,fun _=>sameW_self _,fun h=> ?_⟩⟩,fun _=>trivial⟩,fun _=>trivial⟩
 ·obtain⟨⟨c1,c2⟩,c3,c4,c5,c6⟩:=hq
  exact⟨by omega,fun c hc=>by have:=c1 c hc;omega,by omega,by omega,by omega,by omega⟩
 ·rw [sameW_self]at h;cases h
end Dm
