import Derived.Test.YtplhfjbnofapfaaGreatP4
import Derived.Ground.SlsfProg
set_option linter.unusedSimpArgs false
set_option linter.unusedVariables false
set_option linter.unusedSectionVars false
set_option linter.defProp false
set_option maxRecDepth 20000
set_option maxHeartbeats 4000000
noncomputable section
namespace Dm
open Go Go.Proofs Go.IntWalk
abbrev allC (c:Ch):Nat:=(sumsC c).2.1
def totL (l:List Ch):Nat:=(l.map allC).sum
theorem allC_le (c:Ch):allC c≤MM:=by
 unfold allC sumsC
 split
 ·rename_i h;exact h.2.2.2.2.2.2.2.2.2
 ·exact Nat.zero_le _
theorem totL_succ {l:List Ch} {i:Nat} (h:i<l.length):totL (l.take (i+1))=totL (l.take i)+allC (l.getD i default):=by
 rw [take_succ h,totL,List.map_append,List.sum_append];simp [totL]
theorem totL_le {l:List Ch} {i:Nat}:totL (l.take i)≤totL l:=by
 conv=>rhs;rw [←List.take_append_drop i l,totL,List.map_append,List.sum_append]
 exact Nat.le_add_right _ _
def hidL (l:List Ch):List Nat:=l.flatMap fun c=>c.holds.map Hd.id
def okLd (l:List Ch):Prop:=l.length≤32∧(∀c∈l,okCh c)∧Srt.Chn Ch.id ltN l∧(hidL l).Nodup∧totL l≤MM
instance (l:List Ch):Decidable (Srt.Chn Ch.id ltN l):=by unfold Srt.Chn;infer_instance
instance (l:List Ch):Decidable (okLd l):=by unfold okLd;infer_instance
def chkL (l:List Ch):Int:=if okLd l then 0 else 1
def hm:Int→List Ch→List (Nat×Int)
 |_,[]=>[]
 |i,c::l=>c.holds.map (fun h=>(h.id,i))++hm (i+1) l
def readL (l:List Ch):List (Nat×Int)×Int:=if okLd l then(hm 0 l,0)else([],1)
attribute [go_sem] Tryz.f72
@[go_sem] def c_lorder:Ct Tryz.prog:=⟨72,arg kCh fun c=>arg kU64 fun id=>pu (.int .i64 (cmpS c.id id)),arg_ok fun c=>arg_ok fun id=>ret_ok fun _=>by
 exact run [c_cmp] Tryz.f72 lv72 fun hT=>vc0⟩
attribute [go_sem] Tryz.f18
@[go_sem] def c_few:Ct Tryz.prog:=⟨18,arg kChs fun l=>pu (.bool (decide ((∀c∈l,c.holds.length≤20)∧l.length≤34))),arg_ok fun l=>ret_ok fun _=>by
 refine run [] Tryz.f18 lv18 fun hT=>vc ?_
 refine fun hl=>SWp.loop (ι:={i:Nat // i≤l.length∧∀j,j<i→(l.getD j default).holds.length≤20}) (fun i=>⟨[(0, .sl (chs l)),(5, .sl (chs l)),(6, .int .i64 l.length),(7, .int .i64 i.1)],[],0⟩) (fun i=>l.length - i.1) ⟨0,by simp⟩ ?_ ?_
 ·simp [go_sem]
 ·rintro⟨i,hi,hall⟩
  refine aw hT lv18 (vc ?_)
  refine⟨fun h=>⟨by omega,fun _=>⟨fun h1=> ?_,fun h1=>⟨⟨i+1,by omega,fun j hj=> ?_⟩,by dsimp only;omega,i64_in _ (by omega)⟩⟩⟩,fun h=> ?_⟩
  ·rw [eq_comm,decide_eq_false_iff_not]
   intro h2
   have:=h2.1 _ (mem_getD.2 ⟨i,by omega,rfl⟩)
   omega
  ·by_cases hji:j=i
   ·subst hji;omega
   ·exact hall j (by omega)
  ·intro _
   have:(∀c∈l,c.holds.length≤20):=fun c hc=>by obtain⟨j,hj,rfl⟩:=mem_getD.1 hc;exact hall j (by omega)
   rw [decide_eq_decide]
   exact⟨fun h=>⟨this,by omega⟩,fun h=>by omega⟩⟩
theorem hidL_succ {l:List Ch} {i:Nat} (h:i<l.length):hidL (l.take (i+1))=hidL (l.take i)++(l.getD i default).holds.map Hd.id:=by
 rw [take_succ h,hidL,List.flatMap_append];simp [hidL]
theorem hidL_nd {l:List Ch} {i:Nat} (h:(hidL l).Nodup):(hidL (l.take i)).Nodup:=by
 rw [←List.take_append_drop i l,hidL,List.flatMap_append]at h
 exact(List.nodup_append.1 h).1
theorem okCh_nd {c:Ch} (h:okCh c):(c.holds.map Hd.id).Nodup:=by
 have h1:=(Srt.chn_up (lt:=ltN) Srt.totNat).1 h.2.2.2.2.2.1
 unfold Srt.Up at h1
 rw [List.Nodup,List.pairwise_map]
 exact h1.imp fun hlt he=>by
  simp only [Hd.key,ltN]at hlt
  omega
def whereL (l:List Ch) (h:Nat):Int:=match l.findIdx? (fun c=>c.holds.any fun x=>decide (x.id=h))with
 |some i=>i
 |none=> -1
theorem where_iff {l:List Ch} {h:Nat}:0≤whereL l h↔h∈hidL l:=by
 unfold whereL hidL
 rw [List.mem_flatMap]
 cases hf:l.findIdx? (fun c=>c.holds.any fun x=>decide (x.id=h))with
 |none=>
  rw [List.findIdx?_eq_none_iff]at hf
  refine⟨fun h=>absurd h (by decide),fun⟨c,hc,hm⟩=> ?_⟩
  obtain⟨x,hx,rfl⟩:=List.mem_map.1 hm
  have:=List.any_eq_false.1 (hf c hc) x hx
  simp at this
 |some i=>
  refine⟨fun _=> ?_,fun _=>Int.natCast_nonneg _⟩
  obtain⟨hi,h2,_⟩:=List.findIdx?_eq_some_iff_getElem.1 hf
  obtain⟨x,hx,h3⟩:=List.any_eq_true.1 h2
  exact⟨_,List.getElem_mem hi,List.mem_map.2 ⟨x,hx,by simpa using h3⟩⟩
theorem hm_keys:∀{l:List Ch} {s:Int},(hm s l).map (·.1)=hidL l
 |[],_=>rfl
 |c::l,s=>by
  have e:hidL (c::l)=c.holds.map Hd.id++hidL l:=by simp [hidL]
  rw [hm,List.map_append,hm_keys,List.map_map,e];rfl
theorem hm_succ {l:List Ch} {i:Nat} (h:i<l.length):hm 0 (l.take (i+1))=hm 0 (l.take i)++(l.getD i default).holds.map fun x=>(x.id,(i:Int)):=by
 have key:∀(l:List Ch) (s:Int) (c:Ch),hm s (l++[c])=hm s l++c.holds.map fun x=>(x.id,s+l.length):=by
  intro l
  induction l with
  |nil=>intro s c;simp [hm]
  |cons d l ih=>
   intro s c
   rw [List.cons_append,hm,ih,hm,List.append_assoc]
   simp only [List.length_cons]
   rw [show s+((l.length+1:Nat):Int)=s+1+l.length by omega]
 rw [take_succ h,key]
 simp only [Int.zero_add,List.length_take]
 rw [show min i l.length=i by omega]
attribute [go_sem] Tryz.f103
@[go_sem] def c_r10where:Ct Tryz.prog:=⟨103,arg kChs fun l=>arg kU64 fun h=>pu (.int .i64 (whereL l h)),arg_ok fun l=>arg_ok fun h=>ret_ok fun _=>by
 refine run [] Tryz.f103 lv103 fun hT=>vc ?_
 refine fun hl=>SWp.loop (ι:={i:Nat // i≤l.length∧∀j,j<i→∀x∈(l.getD j default).holds,x.id≠h}) (fun i=>⟨[(1, .int .u64 h),(9, .sl (chs l)),(10, .int .i64 l.length),(11, .int .i64 i.1)],[],0⟩) (fun i=>l.length - i.1) ⟨0,by simp⟩ ?_ ?_
 ·simp [go_sem]
 ·rintro⟨i,hi,hall⟩
  refine aw hT lv103 (vc ?_)
  refine⟨fun h1=>⟨by omega,fun _=> ?_⟩,fun h1=> ?_⟩
  ·have hi':i<l.length:=by omega
   generalize hc:l.getD i default=c at*
   refine SWp.loop (ι:={k:Nat // k≤c.holds.length∧∀j,j<k→(c.holds.getD j default).id≠h}) (fun k=>⟨[(1, .int .u64 h),(5, .int .i64 i),(9, .sl (chs l)),(10, .int .i64 l.length),(11, .int .i64 i),(17, .sl (hds c.holds)),(18, .int .i64 c.holds.length),(19, .int .i64 k.1)],[],1⟩) (fun k=>c.holds.length - k.1) ⟨0,by simp⟩ ?_ ?_
   ·simp [go_sem]
   ·rintro⟨k,hk,hin⟩
    refine aw hT lv103 (vc ?_)
    refine⟨fun h2=>⟨by omega,fun h3=> ?_,fun h3=>⟨⟨k+1,by omega,fun j hj=> ?_⟩,by dsimp only;omega,i64_in _ (by omega)⟩⟩,fun h2=>⟨⟨i+1,hi',fun j hj x hx=> ?_⟩,by dsimp only;omega,i64_in _ (by omega)⟩⟩
    ·have hf:(l.findIdx? fun c=>c.holds.any fun x=>decide (x.id=h))=some i:=by
      refine List.findIdx?_eq_some_iff_getElem.2 ⟨hi', ?_,fun j hj=> ?_⟩
      ·rw [←getD_lt hi',hc]
       exact List.any_eq_true.2 ⟨_,mem_getD.2 ⟨k,by omega,rfl⟩,decide_eq_true (by omega)⟩
      ·rw [Bool.not_eq_true,List.any_eq_false]
       intro x hx
       have:=hall j hj x (by rw [getD_lt (by omega)];exact hx)
       simpa using this
     rw [whereL,hf]
    ·by_cases hji:j=k
     ·subst hji;omega
     ·exact hin j (by omega)
    ·by_cases hji:j=i
     ·subst hji
      rw [hc]at hx
      obtain⟨q,hq,rfl⟩:=mem_getD.1 hx
      exact hin q (by omega)
     ·exact hall j (by omega) x hx
  ·rw [whereL,List.findIdx?_eq_none_iff.2 fun c hc=> ?_]
   obtain⟨j,hj,rfl⟩:=mem_getD.1 hc
   rw [List.any_eq_false]
   intro x hx
   simpa using hall j (by omega) x hx⟩
def sumL (l:List Ch):Nat×Bool:=if totL l≤MM then(totL l,true)else(0,false)
attribute [go_sem] Tryz.f144
@[go_sem] def c_r10all:Ct Tryz.prog:=⟨144,arg kChs fun l=>pu (.tup [.int .u64 ((sumL l).1:Int), .bool (sumL l).2]),arg_ok fun l=>ret_ok fun _=>by
 refine run [c_r9all,c_r4add] Tryz.f144 lv144 fun hT=>vc ?_
 refine fun hl=>SWp.loop (ι:={i:Nat // i≤l.length∧totL (l.take i)≤MM}) (fun i=>⟨[(4, .int .u64 (totL (l.take i.1):Nat)),(11, .sl (chs l)),(12, .int .i64 l.length),(13, .int .i64 i.1)],[],0⟩) (fun i=>l.length - i.1) ⟨0,by simp [totL]⟩ ?_ ?_
 ·simp [go_sem,totL]
 ·rintro⟨i,hi,hs⟩
  refine aw hT lv144 (vc ?_)
  have hA:=allC_le (l.getD i default)
  refine⟨fun h=> ?_,fun h=> ?_⟩
  ·have hi':i<l.length:=by omega
   have h1:=totL_succ hi'
   refine⟨by omega,fun h2=> ?_,fun h2=> ?_⟩
   ·have h3:=addM_1 h2
    have h4:=(addM_0.1 h2).2
    simp only [List.sum_cons,List.sum_nil,Nat.add_zero]at h3 h4
    exact⟨⟨i+1,hi',by rw [h1];exact h4⟩,by dsimp only;omega,by rw [h3];dsimp only;rw [h1],i64_in _ (by omega)⟩
   ·have:¬totL l≤MM:=fun h3=>h2 (addM_0.2 (by
     have:=totL_le (l:=l) (i:=i+1)
     simp only [List.mem_cons,List.not_mem_nil,or_false,forall_eq_or_imp,forall_eq,List.sum_cons,List.sum_nil]
     unfold MM allC at*
     omega))
    rw [sumL,if_neg this];exact⟨rfl,rfl⟩
  ·have hi':i=l.length:=by omega
   subst hi'
   rw [List.take_length]at hs⊢
   rw [sumL,if_pos hs];exact⟨rfl,rfl⟩⟩
attribute [go_sem] Tryz.f92
@[go_sem] def c_r10check:Ct Tryz.prog:=⟨92,arg kChs fun l=>pu (.int .i64 (chkL l)),arg_ok fun l=>ret_ok fun _=>by
 refine run [c_r9check,c_r10where,c_r10all] Tryz.f92 lv92 fun hT=>vc ?_
 have hbad:¬okLd l→1=chkL l:=fun h=>by rw [chkL,if_neg h]
 refine fun hl=>⟨fun h1=>hbad fun h=> ?_,fun h1 _=> ?_⟩
 ·have:=h.1;omega
 refine SWp.loop (ι:={i:Nat // i≤l.length∧(∀c∈l.take i,okCh c)∧(∀j,j<i→0<j→(l.getD (j - 1) default).id<(l.getD j default).id)∧(hidL (l.take i)).Nodup}) (fun i=>⟨[(0, .sl (chs l)),(12, .sl (chs l)),(13, .int .i64 l.length),(14, .int .i64 i.1)],[],0⟩) (fun i=>l.length - i.1) ⟨0,by simp [hidL]⟩ ?_ ?_
 ·simp [go_sem]
 ·rintro⟨i,hi,hall,ho,hn⟩
  refine aw hT lv92 (vc ?_)
  refine⟨fun h=>⟨by omega, ?_⟩,fun h=> ?_⟩
  ·refine dr us92_6 hT (vc ?_)
   have hi':i<l.length:=by omega
   have hmem:l.getD i default∈l:=mem_getD.2 ⟨i,hi',rfl⟩
   have hsub:∀{a b:List Nat},(a++b).Nodup↔a.Nodup∧b.Nodup∧∀x∈b,x∉a:=fun{a b}=>by
    rw [List.nodup_append]
    exact and_congr_right fun _=>and_congr_right fun _=>⟨fun h x hb ha=>h x ha x hb rfl,fun h x ha y hb e=>h y hb (e▸ha)⟩
   have hks:=hidL_succ hi'
   have htk:∀c,c∈l.take (i+1)↔c∈l.take i∨c=l.getD i default:=fun c=>by rw [take_succ hi'];simp
   refine⟨fun h2=> ?_,fun h2=>hbad fun h=>h2 (by rw [chkCh,if_pos (h.2.1 _ hmem)])⟩
   have hc0:okCh (l.getD i default):=by
    unfold chkCh at h2;split at h2
    ·assumption
    ·cases h2
   have hcn:=okCh_nd hc0
   generalize hc:l.getD i default=c at*
   refine⟨fun h3=>⟨?_,fun h4=>hbad fun h=> ?_,fun h4 _=> ?_⟩,fun h3 _=> ?_⟩
   ·rw [i64_in _ (by omega)];omega
   ·rw [i64_in _ (by omega),show((i:Int) - 1).toNat=i - 1 by omega]at h4
    have:=h.2.2.1 i hi' (by omega)
    rw [hc]at this
    simp only [ltN]at this
    omega
   rotate_right 1
   all_goals
    have hord:0<i→(l.getD (i - 1) default).id<c.id:=fun h0=>by
     first
     |(exfalso;omega)
     |(rw [i64_in _ (by omega),show((i:Int) - 1).toNat=i - 1 by omega]at h4;omega)
    refine SWp.loop (ι:={k:Nat // k≤c.holds.length∧∀j,j<k→(c.holds.getD j default).id∉hidL (l.take i)}) (fun k=>⟨[(0, .sl (chs l)),(3, .int .i64 i),(12, .sl (chs l)),(13, .int .i64 l.length),(14, .int .i64 i),(38, .sl (hds c.holds)),(39, .int .i64 c.holds.length),(40, .int .i64 k.1)],[],1⟩) (fun k=>c.holds.length - k.1) ⟨0,by simp⟩ ?_ ?_
    ·simp [go_sem]
    ·rintro⟨k,hk,hin⟩
     refine aw hT lv92 (vc ?_)
     refine⟨fun h5=>⟨by omega, ?_⟩,fun h5=> ?_⟩
     ·refine dr us92_11 hT (vc ?_)
      rw [where_iff]
      refine⟨by omega,fun h6=>hbad fun h=> ?_,fun h6=>⟨⟨k+1,by omega,fun j hj=> ?_⟩,by dsimp only;omega,i64_in _ (by omega)⟩⟩
      ·have:=hidL_nd (i:=i+1) h.2.2.2.1
       rw [hks,hsub]at this
       exact this.2.2 _ (List.mem_map.2 ⟨_,mem_getD.2 ⟨k,by omega,rfl⟩,rfl⟩) h6
      ·by_cases hji:j=k
       ·subst hji;exact h6
       ·exact hin j (by omega)
     ·refine⟨⟨i+1,hi',fun d hd=>((htk d).1 hd).elim (hall d) (fun e=>e▸hc0),fun j hj h0=> ?_, ?_⟩,by dsimp only;omega,i64_in _ (by omega)⟩
      ·by_cases hji:j=i
       ·subst hji;rw [hc];exact hord h0
       ·exact ho j (by omega) h0
      ·rw [hks,hsub]
       refine⟨hn,hcn,fun x hx=> ?_⟩
       obtain⟨y,hy,rfl⟩:=List.mem_map.1 hx
       obtain⟨j,hj,rfl⟩:=mem_getD.1 hy
       exact hin j (by omega)
  ·have hi':i=l.length:=by omega
   subst hi'
   rw [List.take_length]at hall hn
   refine⟨fun h2=> ?_,fun h2=>hbad fun h=> ?_⟩
   ·have h3:totL l≤MM:=by
     unfold sumL at h2;split at h2
     ·assumption
     ·cases h2
    rw [chkL,if_pos ⟨by omega,hall,fun j hj h0=>ho j hj h0,hn,h3⟩]
   ·rw [sumL,if_pos h.2.2.2.2]at h2;cases h2⟩
attribute [go_sem] Tryz.f115
@[go_sem] def c_lread:Ct Tryz.prog:=⟨115,arg kChs fun l=>pu (.tup [.c (.map [.int .u64] (kvF .u64 .i64 (readL l).1)), .int .i64 (readL l).2]),arg_ok fun l=>ret_ok fun _=>by
 refine run [c_call,c_monadd,c_lorder] Tryz.f115 lv115 fun hT=>vc ?_
 have hbad:¬okLd l→kvF .u64 .i64 (readL l).1=[]∧1=(readL l).2:=fun h=>by rw [readL,if_neg h];exact⟨rfl,rfl⟩
 refine fun hl=>⟨fun h1=>hbad fun h=> ?_,fun h1 _=> ?_⟩
 ·have:=h.1;omega
 refine SWp.loop (ι:={i:Nat // i≤l.length∧(∀c∈l.take i,okCh c)∧(∀j,j<i→0<j→(l.getD (j - 1) default).id<(l.getD j default).id)∧(hidL (l.take i)).Nodup∧totL (l.take i)≤MM}) (fun i=>⟨[(0, .sl (chs l)),(4, .mp 0),(5, .int .u64 (totL (l.take i.1):Nat)),(18, .sl (chs l)),(19, .int .i64 l.length),(20, .int .i64 i.1)],[(0, .map [.int .u64] (kvN .u64 .i64 (hm 0 (l.take i.1))))],1⟩) (fun i=>l.length - i.1) ⟨0,by simp [hidL,totL]⟩ ?_ ?_
 ·simp [go_sem,totL];rfl
 ·rintro⟨i,hi,hall,ho,hn,hs⟩
  refine aw hT lv115 (vc ?_)
  refine⟨fun h=>⟨by omega, ?_⟩,fun h=> ?_⟩
  ·refine dr us115_8 hT (vc ?_)
   have hi':i<l.length:=by omega
   have hmem:l.getD i default∈l:=mem_getD.2 ⟨i,hi',rfl⟩
   have hsub:∀{a b:List Nat},(a++b).Nodup↔a.Nodup∧b.Nodup∧∀x∈b,x∉a:=fun{a b}=>by
    rw [List.nodup_append]
    exact and_congr_right fun _=>and_congr_right fun _=>⟨fun h x hb ha=>h x ha x hb rfl,fun h x ha y hb e=>h y hb (e▸ha)⟩
   have hks:=hidL_succ hi'
   have hts:=totL_succ hi'
   have hmsu:=hm_succ hi'
   have htle:=totL_le (l:=l) (i:=i+1)
   have htk:∀c,c∈l.take (i+1)↔c∈l.take i∨c=l.getD i default:=fun c=>by rw [take_succ hi'];simp
   refine⟨fun h2=> ?_,fun h2=>hbad fun h=>h2 (by rw [sumsC,if_pos (h.2.1 _ hmem)])⟩
   have hc0:okCh (l.getD i default):=sumsC_0.1 h2
   have hcn:=okCh_nd hc0
   have hA:=allC_le (l.getD i default)
   change totL (l.take (i+1))=totL (l.take i)+(sumsC (l.getD i default)).2.1 at hts
   change (sumsC (l.getD i default)).2.1≤MM at hA
   have hadd:¬(addM [totL (l.take i),(sumsC (l.getD i default)).2.1]).2=0→¬okLd l:=fun h3 h=>h3 (addM_0.2 (by
    have:=h.2.2.2.2
    simp only [List.mem_cons,List.not_mem_nil,or_false,forall_eq_or_imp,forall_eq,List.sum_cons,List.sum_nil]
    unfold MM at*
    omega))
   generalize hc:l.getD i default=c at*
   refine⟨fun h3=>⟨?_,fun h4=>hbad fun h=> ?_,fun h4=>⟨fun h5 _=> ?_,fun h5=>hbad (hadd h5)⟩⟩,fun h3=>⟨fun h5 _=> ?_,fun h5=>hbad (hadd h5)⟩⟩
   ·rw [i64_in _ (by omega)];omega
   ·rw [i64_in _ (by omega),show((i:Int) - 1).toNat=i - 1 by omega]at h4
    have:=h.2.2.1 i hi' (by omega)
    rw [hc]at this
    simp only [ltN]at this
    have:=cmpS_neg (x:=((l.getD (i - 1) default).id:Int)) (y:=c.id)
    omega
   all_goals
    have hord:0<i→(l.getD (i - 1) default).id<c.id:=fun h0=>by
     first
     |(exfalso;omega)
     |(rw [i64_in _ (by omega),show((i:Int) - 1).toNat=i - 1 by omega]at h4
       have:=cmpS_neg (x:=((l.getD (i - 1) default).id:Int)) (y:=c.id)
       omega)
    have hsum:=addM_1 h5
    have hsum2:=(addM_0.1 h5).2
    simp only [List.sum_cons,List.sum_nil,Nat.add_zero]at hsum hsum2
    rw [hsum]
    refine SWp.loop (ι:={k:Nat // k≤c.holds.length∧∀j,j<k→(c.holds.getD j default).id∉hidL (l.take i)}) (fun k=>⟨[(0, .sl (chs l)),(4, .mp 0),(5, .int .u64 ((totL (l.take i)+(sumsC c).2.1:Nat):Int)),(6, .int .i64 i),(18, .sl (chs l)),(19, .int .i64 l.length),(20, .int .i64 i),(57, .sl (hds c.holds)),(58, .int .i64 c.holds.length),(59, .int .i64 k.1)],[(0, .map [.int .u64] (kvN .u64 .i64 (hm 0 (l.take i)++(c.holds.take k.1).map fun x=>(x.id,(i:Int)))))],3⟩) (fun k=>c.holds.length - k.1) ⟨0,by simp⟩ ?_ ?_
    ·simp [go_sem]
    ·rintro⟨k,hk,hin⟩
     refine aw hT lv115 (vc ?_)
     have hkeys:∀m,m≤c.holds.length→(hm 0 (l.take i)++(c.holds.take m).map fun x=>(x.id,(i:Int))).map (·.1)=hidL (l.take i)++(c.holds.take m).map Hd.id:=fun m hm=>by
      rw [List.map_append,hm_keys,List.map_map];rfl
     refine⟨fun h6=>⟨by omega,fun a ha=>hbad fun h=> ?_,fun ha=> ?_⟩,fun h6=> ?_⟩
     ·have hk':k<c.holds.length:=by omega
      have h7:¬nlk (c.holds.getD k default).id (hm 0 (l.take i)++(c.holds.take k).map fun x=>(x.id,(i:Int)))=none:=by rw [ha];simp
      rw [nlk_none,hkeys k hk,Classical.not_not,List.mem_append]at h7
      rcases h7 with h7|h7
      ·have:=hidL_nd (i:=i+1) h.2.2.2.1
       rw [hks,hsub]at this
       exact this.2.2 _ (List.mem_map.2 ⟨_,mem_getD.2 ⟨k,hk',rfl⟩,rfl⟩) h7
      ·have h8:(c.holds.take (k+1)).map Hd.id=(c.holds.take k).map Hd.id++[(c.holds.getD k default).id]:=by rw [take_succ hk'];simp
       have h9:((c.holds.take (k+1)).map Hd.id).Nodup:=by
        rw [List.map_take];exact hcn.sublist (List.take_sublist _ _)
       rw [h8,hsub]at h9
       exact h9.2.2 _ (by simp) h7
     ·have hk':k<c.holds.length:=by omega
      have h7:=nlk_none.1 ha
      rw [nset_new h7]
      rw [hkeys k hk,List.mem_append,not_or]at h7
      refine⟨⟨k+1,hk',fun j hj=> ?_⟩,by dsimp only;omega,i64_in _ (by omega), ?_⟩
      ·by_cases hji:j=k
       ·subst hji;exact h7.1
       ·exact hin j (by omega)
      ·dsimp only
       rw [take_succ hk',List.map_append,←List.append_assoc];rfl
     ·have hk':k=c.holds.length:=by omega
      subst hk'
      refine⟨⟨i+1,hi',fun d hd=>((htk d).1 hd).elim (hall d) (fun e=>e▸hc0),fun j hj h0=> ?_, ?_,by rw [hts];exact hsum2⟩,by dsimp only;omega,⟨by dsimp only;rw [hts];omega,i64_in _ (by omega)⟩, ?_⟩
      ·by_cases hji:j=i
       ·subst hji;rw [hc];exact hord h0
       ·exact ho j (by omega) h0
      ·rw [hks,hsub]
       refine⟨hn,hcn,fun x hx=> ?_⟩
       obtain⟨y,hy,rfl⟩:=List.mem_map.1 hx
       obtain⟨j,hj,rfl⟩:=mem_getD.1 hy
       exact hin j (by omega)
      ·dsimp only
       rw [List.take_length,hmsu]
  ·have hi':i=l.length:=by omega
   subst hi'
   rw [List.take_length]at hall hn hs⊢
   rw [readL,if_pos ⟨by omega,hall,fun j hj h0=>ho j hj h0,hn,hs⟩]
   exact⟨⟨_,_,rfl,kvC_kvN, .refl _⟩,rfl⟩⟩
attribute [go_sem] Tryz.f70
@[go_sem] def c_lcheck:Ct Tryz.prog:=⟨70,arg kChs fun l=>pu (.int .i64 (chkL l)),arg_ok fun l=>ret_ok fun _=>by
 refine run [c_lread] Tryz.f70 lv70 fun hT=>vc ?_
 rw [readL,chkL];split<;>rfl⟩
open Go Go.Proofs Go.IntWalk
attribute [go_sem] Tryz.f120
@[go_sem] def c_hclone:Ct Tryz.prog:=⟨120,arg kHds fun l=>ret (l.length≤1000000) (.sl (hds l)) [],arg_ok fun l=>ret_ok fun h=>by
 refine run [] Tryz.f120 lv120 fun hT=>vc ?_
 exact fun b hb=>⟨hb,fun _=>⟨by omega,_,_,_,rfl⟩⟩⟩
attribute [go_sem] Tryz.f75
@[go_sem] def c_own:Ct Tryz.prog:=⟨75,arg kCh fun c=>ret (c.holds.length≤1000000) (.agg [.int .u64 c.id, .int .u64 c.loc, .int .u64 c.rem, .int .u64 c.res, .int .u64 c.most, .sl (hds c.holds), .bool c.op]) [],arg_ok fun c=>ret_ok fun h=>by
 refine run [c_hclone] Tryz.f75 lv75 fun hT=>vc ?_
 exact h⟩
def placeL (l:List Ch) (id:Nat):Int×Int:=if okLd l then(if Srt.thr Ch.id ltN l id=true then((Srt.pos Ch.id ltN l id:Nat),0)else(0,5))else(0,1)
attribute [go_sem] Tryz.f139 Tryz.f71
@[go_sem] def c_place:Ct Tryz.prog:=⟨139,arg kChs fun l=>arg kU64 fun id=>pu (.tup [.int .i64 (placeL l id).1, .int .i64 (placeL l id).2]),arg_ok fun l=>arg_ok fun id=>ret_ok fun _=>by
 refine run [c_lcheck,c_lorder] Tryz.f139 lv139 fun hT=>vc ?_
 have hcz:chkL l=0↔okLd l:=by unfold chkL;split<;>simp_all
 refine⟨fun hok0=> ?_,fun hno0=>by
  have hno:¬okLd l:=fun h=>hno0 (hcz.2 h)
  rw [placeL,chkL,if_neg hno,if_neg hno];exact⟨rfl,rfl⟩⟩
 have hok:=hcz.1 hok0
 have hu:Srt.Up Ch.id ltN l:=(Srt.chn_up (lt:=ltN) Srt.totNat).1 hok.2.2.1
 have hl32:=hok.1
 refine cl hT Tryz.f71 lv71 (vc ?_)
 refine fun _=>SWp.loop (ι:={x:Nat×Nat // x.1≤x.2∧x.2≤l.length∧(∀k,k<x.1→(l.getD k default).id<id)∧∀k,x.2≤k→k<l.length→¬(l.getD k default).id<id}) (fun x=>⟨[(0, .sl (chs l)),(1, .int .u64 id),(2, .fn (.func 72) [] []),(8, .int .i64 l.length),(9, .int .i64 x.1.1),(10, .int .i64 x.1.2)],[],0⟩) (fun x=>x.1.2 - x.1.1) ⟨(0,l.length),by simp,by simp,fun k hk=>absurd hk (by simp),fun k h1 h2=>absurd h1 (by simpa using h2)⟩ ?_ ?_
 ·simp [go_sem]
 ·rintro⟨⟨i,j⟩,hij,hj,hlo,hup⟩
  dsimp only at hij hj hlo hup
  refine aw hT lv71 (vc ?_)
  rw [mid_eq hij hj ‹_›]
  refine⟨fun h4=> ?_,fun h4=> ?_⟩
  ·have hm:(i+j) / 2<l.length:=by omega
   rw [cmpS_neg,Int.toNat_natCast]
   refine⟨by omega,fun h5=>⟨⟨((i+j) / 2+1,j),by dsimp only;omega,hj,fun k hk=> ?_,hup⟩,by dsimp only;omega,i64_in _ (by omega),rfl⟩,fun h5=>⟨⟨(i,(i+j) / 2),by dsimp only;omega,by dsimp only;omega,hlo,fun k hk1 hk2=> ?_⟩,by dsimp only;omega,rfl,rfl⟩⟩
   ·dsimp only at hk
    by_cases hkm:k=(i+j) / 2
    ·rw [hkm];omega
    ·have:=Srt.up_get.1 hu k _ (by omega) hm
     simp only [ltN]at this;omega
   ·dsimp only at hk1
    by_cases hkm:k=(i+j) / 2
    ·rw [hkm];omega
    ·have:=Srt.up_get.1 hu ((i+j) / 2) k (by omega) hk2
     simp only [ltN]at this;omega
  ·have hp:Srt.pos Ch.id ltN l id=i:=Srt.pos_eq (by omega) hlo (fun h=>hup i (by omega) h)
   rw [placeL,if_pos hok,Srt.thr,hp,cmpS_0]
   refine⟨fun h5=>⟨by omega,fun h6=> ?_,fun h6=> ?_⟩,fun h5=> ?_⟩
   ·rw [if_pos (decide_eq_true ⟨by omega,by omega⟩)];exact⟨rfl,rfl⟩
   ·rw [if_neg (by rw [decide_eq_true_iff];omega)];exact⟨rfl,rfl⟩
   ·rw [if_neg (by rw [decide_eq_true_iff];omega)];exact⟨rfl,rfl⟩⟩
def getL (l:List Ch) (id:Nat):Ch×Int:=if okLd l then(if Srt.thr Ch.id ltN l id=true then(l.getD (Srt.pos Ch.id ltN l id) default,0)else(default,5))else(default,1)
open Go Go.Proofs Go.IntWalk
attribute [go_sem] Tryz.f119
@[go_sem] def c_cclone:Ct Tryz.prog:=⟨119,arg kChs fun l=>ret (l.length≤1000000) (.vec 0 l.length) ([(7,53,true,chs l)]),arg_ok fun l=>retF_ok fun h=>by
 refine runF [] Tryz.f119 lv119 fun hT=>vc ?_
 refine fun b hb=>⟨fun h=> ?_,fun h=> ?_⟩
 ·exact⟨[none],by simp [go_sem,hb h],by cases l<;>simp_all [go_sem,chs]⟩
 ·exact⟨by omega,[some 0],by simp [go_sem]⟩⟩
def whereI (l:List Ch) (h:Nat):Nat×Int:=if okLd l then(match nlk h (hm 0 l)with
 |some i=>((l.getD i.toNat default).id,0)
 |none=>(0,5))else(0,1)
theorem hm_range:∀{l:List Ch} {s:Int} {k:Nat} {a:Int},(k,a)∈hm s l→s≤a∧a<s+l.length
 |[],_,_,_,h=>by cases h
 |c::l,s,k,a,h=>by
  rw [hm,List.mem_append]at h
  simp only [List.length_cons]
  rcases h with h|h
  ·obtain⟨x,_,hx⟩:=List.mem_map.1 h
   cases hx
   omega
  ·have:=hm_range h
   omega
attribute [go_sem] Tryz.f90
@[go_sem] def c_lwhere:Ct Tryz.prog:=⟨90,arg kChs fun l=>arg kU64 fun h=>pu (.tup [.int .u64 ((whereI l h).1:Int), .int .i64 (whereI l h).2]),arg_ok fun l=>arg_ok fun h=>ret_ok fun _=>by
 refine run [c_lread] Tryz.f90 lv90 fun hT=>vc ?_
 by_cases hok:okLd l
 ·have e1:readL l=(hm 0 l,0):=by rw [readL,if_pos hok]
  rw [e1,whereI,if_pos hok]
  refine⟨fun _=>⟨fun a ha=> ?_,fun hn=> ?_⟩,fun h=>absurd rfl h⟩
  ·have hnd:((hm 0 l).map (·.1)).Nodup:=by rw [hm_keys];exact hok.2.2.2.1
   have:=hm_range ((nlk_some hnd).1 ha)
   rw [ha]
   exact⟨⟨by omega,by omega⟩,rfl,rfl⟩
  ·rw [hn];exact⟨rfl,rfl⟩
 ·have e1:readL l=([],1):=by rw [readL,if_neg hok]
  rw [e1,whereI,if_neg hok]
  exact⟨fun h=>absurd h (by decide),fun _=>⟨rfl,rfl⟩⟩⟩
attribute [go_sem] Tryz.f74
@[go_sem] def c_owns:Ct Tryz.prog:=⟨74,arg kChs fun l=>ret (l.length≤1000000∧∀c∈l,c.holds.length≤1000000) (.vec 0 l.length) ([(7,53,true,chs l)]),arg_ok fun l=>retF_ok fun h=>by
 refine runF [c_cclone,c_own] Tryz.f74 lv74 fun hT=>vc ?_
 refine⟨h.1,fun _=>SWp.loop (ι:={i:Nat // i≤l.length}) (fun i=>⟨[(0, .vec 0 l.length),(7, .vec 0 l.length),(8, .int .i64 l.length),(9, .int .i64 i.1)],[(0, .vec true 7 53 (chs l))],1⟩) (fun i=>l.length - i.1) ⟨0,by omega⟩ ?_ ?_⟩
 ·simp [go_sem]
 ·rintro⟨i,hi⟩
  refine aw hT lv74 (vc ?_)
  refine⟨fun h1=> ?_,fun _=>⟨[some 0],by simp [go_sem]⟩⟩
  have hi':i<l.length:=by omega
  have hself:l.set i (l.getD i default)=l:=by
   rw [getD_lt hi'];exact List.set_getElem_self hi'
  exact⟨by omega,hi',h.2 _ (mem_getD.2 ⟨i,hi',rfl⟩),by omega,hi',⟨i+1,hi'⟩,by dsimp only;omega,i64_in _ (by omega),by rw [hself]⟩⟩
open Go Go.Proofs Go.IntWalk
structure Py where
 id:Nat
 hash:Nat
 chan:Nat
 n:Nat
 state:Int
deriving DecidableEq,Inhabited
@[go_sem] def Py.enc (e:Py):List C:=[.int .u64 (e.id:Int), .int .u64 (e.hash:Int), .int .u64 (e.chan:Int), .int .u64 (e.n:Int), .int .i64 e.state]
@[go_sem] def Py.dec:List C→Py
 |[.int .u64 z41, .int .u64 z42, .int .u64 z43, .int .u64 z44, .int .i64 z45]=>(⟨z41.toNat,z42.toNat,z43.toNat,z44.toNat,z45⟩:Py)
 |_=>default
def pys (l:List Py):List (List C):=l.map Py.enc
def dpys (l:List (List C)):List Py:=l.map Py.dec
abbrev kPy:=kAg Py.enc Py.dec
abbrev kPys:=kSl pys dpys
@[simp,go_sem] theorem pys_length (l:List Py):(pys l).length=l.length:=by simp [pys]
@[go_sem] theorem pys_get (l:List Py) (i:Nat):(pys l).getD i [.int .u64 0, .int .u64 0, .int .u64 0, .int .u64 0, .int .i64 0]=(l.getD i default).enc:=by
 simp only [pys,List.getD_eq_getElem?_getD,List.getElem?_map]
 cases l[i]? <;>rfl
@[go_sem] theorem pys_wide (l:List Py):Wide 5 (pys l)=True:=by
 simp [Wide,pys,Py.enc]
theorem Py.dec_enc (e:Py):Py.dec e.enc=e:=by
 simp [Py.enc,Py.dec]
@[go_sem] theorem dpys_pys (l:List Py):dpys (pys l)=l:=by
 simp only [dpys,pys,List.map_map]
 exact List.map_id'' (fun e=>Py.dec_enc e) l
@[go_sem] theorem pys_app (a b:List Py):pys a++pys b=pys (a++b):=by simp [pys]
@[go_sem] theorem pys_drop (l:List Py) (k:Nat):(pys l).drop k=pys (l.drop k):=by simp [pys]
@[go_sem] theorem pys_take (l:List Py) (k:Nat):(pys l).take k=pys (l.take k):=by simp [pys]
@[go_sem] theorem pys_one (z46:Int) (z47:Int) (z48:Int) (z49:Int) (z50:Int) (hz46:0≤z46) (hz47:0≤z47) (hz48:0≤z48) (hz49:0≤z49):[[C.int .u64 z46,C.int .u64 z47,C.int .u64 z48,C.int .u64 z49,C.int .i64 z50]]=pys [⟨z46.toNat,z47.toNat,z48.toNat,z49.toNat,z50⟩]:=by simp [pys,Py.enc,Int.toNat_of_nonneg hz46,Int.toNat_of_nonneg hz47,Int.toNat_of_nonneg hz48,Int.toNat_of_nonneg hz49]
@[go_sem] theorem pys_set (l:List Py) (i:Nat) (z46:Int) (z47:Int) (z48:Int) (z49:Int) (z50:Int) (hz46:0≤z46) (hz47:0≤z47) (hz48:0≤z48) (hz49:0≤z49):(pys l).set i [C.int .u64 z46,C.int .u64 z47,C.int .u64 z48,C.int .u64 z49,C.int .i64 z50]=pys (l.set i ⟨z46.toNat,z47.toNat,z48.toNat,z49.toNat,z50⟩):=by simp [pys,List.map_set,Py.enc,Int.toNat_of_nonneg hz46,Int.toNat_of_nonneg hz47,Int.toNat_of_nonneg hz48,Int.toNat_of_nonneg hz49]
@[go_sem] theorem pys_cons (l:List Py) (z46:Int) (z47:Int) (z48:Int) (z49:Int) (z50:Int) (hz46:0≤z46) (hz47:0≤z47) (hz48:0≤z48) (hz49:0≤z49):[C.int .u64 z46,C.int .u64 z47,C.int .u64 z48,C.int .u64 z49,C.int .i64 z50]::pys l=pys (⟨z46.toNat,z47.toNat,z48.toNat,z49.toNat,z50⟩::l):=by simp [pys,Py.enc,Int.toNat_of_nonneg hz46,Int.toNat_of_nonneg hz47,Int.toNat_of_nonneg hz48,Int.toNat_of_nonneg hz49]
@[go_sem] theorem pys_flat (l:List Py):flatE (pys l)=True:=eq_true fun x hx c hc=>by
 obtain⟨e,_,rfl⟩:=List.mem_map.1 hx
 simp only [Py.enc,List.mem_cons,List.not_mem_nil,or_false]at hc
 rcases hc with rfl|rfl|rfl|rfl|rfl<;>rfl
@[go_sem] theorem Py.eta {e:Py}:(⟨e.id,e.hash,e.chan,e.n,e.state⟩:Py)=e:=rfl
@[go_sem] theorem Py.eqD {a b:Py}:eqD Tryz.prog 98 [D.c (.int .u64 (a.id:Int)),D.c (.int .u64 (a.hash:Int)),D.c (.int .u64 (a.chan:Int)),D.c (.int .u64 (a.n:Int)),D.c (.int .i64 a.state)] [D.c (.int .u64 (b.id:Int)),D.c (.int .u64 (b.hash:Int)),D.c (.int .u64 (b.chan:Int)),D.c (.int .u64 (b.n:Int)),D.c (.int .i64 b.state)]=some (decide (a=b)):=by
 cases a;cases b
 simp only [Dm.eqD,eqOf_98,eqCells,eqC,List.getElem?_cons_zero,List.getElem?_cons_succ,if_true,Option.some.injEq,Py.mk.injEq]
 rw [Bool.eq_iff_iff]
 simp [Int.ofNat_inj]
def okPy1 (x:Py):Prop:=(x.n≠0∧x.n≤MM)∧1≤x.state∧x.state≤3
instance (x:Py):Decidable (okPy1 x):=by unfold okPy1;infer_instance
def okPy (l:List Py):Prop:=l.length≤256∧(∀x∈l,okPy1 x)∧Srt.Chn Py.id ltN l
instance (l:List Py):Decidable (Srt.Chn Py.id ltN l):=by unfold Srt.Chn;infer_instance
instance (l:List Py):Decidable (okPy l):=by unfold okPy;infer_instance
def chkP (l:List Py):Int:=if okPy l then 0 else 1
attribute [go_sem] Tryz.f136
@[go_sem] def c_porder:Ct Tryz.prog:=⟨136,arg kPy fun x=>arg kU64 fun id=>pu (.int .i64 (cmpS x.id id)),arg_ok fun x=>arg_ok fun id=>ret_ok fun _=>by
 exact run [c_cmp] Tryz.f136 lv136 fun hT=>vc0⟩
attribute [go_sem] Tryz.f82
@[go_sem] def c_pmay:Ct Tryz.prog:=⟨82,arg kPy fun p=>pu (.bool (decide (okPy1 p))),arg_ok fun p=>ret_ok fun _=>by
 refine run [c_moncheck] Tryz.f82 lv82 fun hT=>vc ?_
 have hm:monS [p.n]=0↔p.n≤MM:=mon1_0
 rw [hm]
 have ho:okPy1 p↔(p.n≠0∧p.n≤MM)∧1≤p.state∧p.state≤3:= .rfl
 rw [show decide (okPy1 p)=decide ((p.n≠0∧p.n≤MM)∧1≤p.state∧p.state≤3)from decide_eq_decide.2 ho]
 refine⟨fun h=>⟨fun h2=>⟨fun h3=> ?_,fun h3=> ?_⟩,fun h2=> ?_⟩,fun h=> ?_⟩
 ·rw [decide_eq_decide];exact⟨fun h4=>⟨⟨by omega,h2⟩,h3,h4⟩,fun h4=>h4.2.2⟩
 ·exact(decide_eq_false fun h4=>h3 h4.2.1).symm
 ·exact(decide_eq_false fun h4=>h2 h4.1.2).symm
 ·exact(decide_eq_false fun h4=>h4.1.1 (by omega)).symm⟩
attribute [go_sem] Tryz.f134
@[go_sem] def c_pcheck:Ct Tryz.prog:=⟨134,arg kPys fun l=>pu (.int .i64 (chkP l)),arg_ok fun l=>ret_ok fun _=>by
 refine run [c_pmay,c_porder] Tryz.f134 lv134 fun hT=>vc ?_
 have hbad:¬okPy l→1=chkP l:=fun h=>by rw [chkP,if_neg h]
 refine fun _=>⟨fun h=>hbad fun ho=> ?_,fun h _=> ?_⟩
 ·have:=ho.1;omega
 refine SWp.loop (ι:={i:Nat // i≤l.length∧(∀j,j<i→okPy1 (l.getD j default)∧(0<j→(l.getD (j - 1) default).id<(l.getD j default).id))}) (fun i=>⟨[(0, .sl (pys l)),(8, .sl (pys l)),(9, .int .i64 l.length),(10, .int .i64 i.1)],[],0⟩) (fun i=>l.length - i.1) ⟨0,by simp⟩ ?_ ?_
 ·simp [go_sem]
 ·rintro⟨i,hi,hall⟩
  refine aw hT lv134 (vc ?_)
  refine⟨fun h1=>⟨by omega, ?_⟩,fun h1=> ?_⟩
  ·refine dr us134_6 hT (vc ?_)
   have hi':i<l.length:=by omega
   have hm:okPy l→okPy1 (l.getD i default):=fun h=>h.2.1 _ (mem_getD.2 ⟨i,hi',rfl⟩)
   refine⟨fun h2=> ?_,fun h2=>hbad fun h=>h2 (hm h)⟩
   have hnext:(0<i→(l.getD (i - 1) default).id<(l.getD i default).id)→∃i_1:{i:Nat // i≤l.length∧(∀j,j<i→okPy1 (l.getD j default)∧(0<j→(l.getD (j - 1) default).id<(l.getD j default).id))},l.length - i_1.val<l.length - i∧IntKind.i64.wrap ((i:Int)+1)=i_1.val:=fun ho=>by
    refine⟨⟨i+1,hi',fun j hj=> ?_⟩,by dsimp only;omega,i64_in _ (by omega)⟩
    by_cases hji:j=i
    ·subst hji;exact⟨h2,ho⟩
    ·exact hall j (by omega)
   refine⟨fun h3=> ?_,fun h3=>hnext fun h=>absurd h (by omega)⟩
   rw [i64_in _ (by omega),show((i:Int) - 1).toNat=i - 1 by omega]
   have hc:∀a b:Nat,0≤cmpS a b↔¬a<b:=fun a b=>by
    have:=cmpS_neg (x:=a) (y:=b);omega
   rw [hc]
   exact⟨by omega,fun h4=>hbad fun h=>h4 (h.2.2 i hi' (by omega)),fun h4=>hnext fun _=>by omega⟩
  ·have hi':i=l.length:=by omega
   subst hi'
   rw [chkP,if_pos]
   exact⟨by omega,fun x hx=>by obtain⟨j,hj,rfl⟩:=mem_getD.1 hx;exact(hall j hj).1,fun j hj h0=>(hall j hj).2 h0⟩⟩
def findP (l:List Py) (id:Nat):Int×Int:=if okPy l then((Srt.pos Py.id ltN l id:Nat),if Srt.thr Py.id ltN l id=true then 0 else 5)else(0,1)
attribute [go_sem] Tryz.f81 Tryz.f135
@[go_sem] def c_pfind:Ct Tryz.prog:=⟨81,arg kPys fun l=>arg kU64 fun id=>pu (.tup [.int .i64 (findP l id).1, .int .i64 (findP l id).2]),arg_ok fun l=>arg_ok fun id=>ret_ok fun _=>by
 refine run [c_pcheck,c_porder] Tryz.f81 lv81 fun hT=>vc ?_
 have hcz:chkP l=0↔okPy l:=by unfold chkP;split<;>simp_all
 refine⟨fun hok0=> ?_,fun hno0=>by
  have hno:¬okPy l:=fun h=>hno0 (hcz.2 h)
  rw [findP,chkP,if_neg hno,if_neg hno];exact⟨rfl,rfl⟩⟩
 have hok:=hcz.1 hok0
 have hu:Srt.Up Py.id ltN l:=(Srt.chn_up (lt:=ltN) Srt.totNat).1 hok.2.2
 have hl32:=hok.1
 refine cl hT Tryz.f135 lv135 (vc ?_)
 refine fun _=>SWp.loop (ι:={x:Nat×Nat // x.1≤x.2∧x.2≤l.length∧(∀k,k<x.1→(l.getD k default).id<id)∧∀k,x.2≤k→k<l.length→¬(l.getD k default).id<id}) (fun x=>⟨[(0, .sl (pys l)),(1, .int .u64 id),(2, .fn (.func 136) [] []),(8, .int .i64 l.length),(9, .int .i64 x.1.1),(10, .int .i64 x.1.2)],[],0⟩) (fun x=>x.1.2 - x.1.1) ⟨(0,l.length),by simp,by simp,fun k hk=>absurd hk (by simp),fun k h1 h2=>absurd h1 (by simpa using h2)⟩ ?_ ?_
 ·simp [go_sem]
 ·rintro⟨⟨i,j⟩,hij,hj,hlo,hup⟩
  dsimp only at hij hj hlo hup
  refine aw hT lv135 (vc ?_)
  rw [mid_eq hij hj ‹_›]
  refine⟨fun h4=> ?_,fun h4=> ?_⟩
  ·have hm:(i+j) / 2<l.length:=by omega
   rw [cmpS_neg,Int.toNat_natCast]
   refine⟨by omega,fun h5=>⟨⟨((i+j) / 2+1,j),by dsimp only;omega,hj,fun k hk=> ?_,hup⟩,by dsimp only;omega,i64_in _ (by omega),rfl⟩,fun h5=>⟨⟨(i,(i+j) / 2),by dsimp only;omega,by dsimp only;omega,hlo,fun k hk1 hk2=> ?_⟩,by dsimp only;omega,rfl,rfl⟩⟩
   ·dsimp only at hk
    by_cases hkm:k=(i+j) / 2
    ·rw [hkm];omega
    ·have:=Srt.up_get.1 hu k _ (by omega) hm
     simp only [ltN]at this;omega
   ·dsimp only at hk1
    by_cases hkm:k=(i+j) / 2
    ·rw [hkm];omega
    ·have:=Srt.up_get.1 hu ((i+j) / 2) k (by omega) hk2
     simp only [ltN]at this;omega
  ·have hp:Srt.pos Py.id ltN l id=i:=Srt.pos_eq (by omega) hlo (fun h=>hup i (by omega) h)
   rw [findP,if_pos hok,Srt.thr,hp,cmpS_0]
   refine⟨fun h5=>⟨by omega,fun h6=> ?_,fun h6=> ?_⟩,fun h5=> ?_⟩
   ·rw [if_pos (decide_eq_true ⟨by omega,by omega⟩)];exact⟨rfl,rfl⟩
   ·rw [if_neg (by rw [decide_eq_true_iff];omega)];exact⟨rfl,rfl⟩
   ·rw [if_neg (by rw [decide_eq_true_iff];omega)];exact⟨rfl,rfl⟩⟩
open Go Go.Proofs Go.IntWalk
def hlC (c:Ch):List K3:=c.holds.map fun h=>(c.id,h.id,h.n)
def hlL (cs:List Ch):List K3:=cs.flatMap hlC
def pend (l:List Py):List Py:=l.filter fun p=>decide (p.state=1)
def agrL (l:List Py) (cs:List Ch):Bool×Int:=if okPy l∧cs.length≤32∧(cs.map Ch.id).Nodup then(decide ((∀p∈pend l,(p.chan,p.id,p.n)∈hlL cs)∧(hlL cs).length=(pend l).length),0)else(false,1)
theorem hl_len:∀{cs:List Ch} {n:Nat},(∀c∈cs,c.holds.length≤1000000)→cs.length≤n→(hlL cs).length≤n*1000000
 |[],n,_,_=>by simp [hlL]
 |c::cs,n,h,hn=>by
  have h1:hlL (c::cs)=hlC c++hlL cs:=rfl
  rw [h1,List.length_append]
  have h2:(hlC c).length≤1000000:=by unfold hlC;rw [List.length_map];exact h c (.head _)
  have h3:=hl_len (cs:=cs) (n:=cs.length) (fun d hd=>h d (.tail _ hd)) (Nat.le_refl _)
  simp only [List.length_cons]at hn
  omega
attribute [go_sem] Tryz.f113
@[go_sem] def c_pagree:Ct Tryz.prog:=⟨113,arg kPys fun l=>arg kChs fun cs=>ret (∀c∈cs,c.holds.length≤1000000) (.tup [.bool (agrL l cs).1, .int .i64 (agrL l cs).2]) [],arg_ok fun l=>arg_ok fun cs=>ret_ok fun hs=>by
 refine run [c_pcheck] Tryz.f113 lv113 fun hT=>vc ?_
 have hbad:¬(okPy l∧cs.length≤32∧(cs.map Ch.id).Nodup)→false=(agrL l cs).1∧1=(agrL l cs).2:=fun h=>by rw [agrL,if_neg h];exact⟨rfl,rfl⟩
 have hcz:chkP l=0↔okPy l:=by unfold chkP;split<;>rename_i h<;>simp only [h]<;>decide
 refine⟨fun h0 hl=>⟨fun h=>hbad fun ho=> ?_,fun hle _=> ?_⟩,fun h0=>hbad fun h=>h0 (hcz.2 h.1)⟩
 ·have:=ho.2.1;omega
 have hok:=hcz.1 h0
 refine SWp.loop (ι:={x:Nat×List (K3×Int)×List (Nat×Int) // x.1≤cs.length∧((cs.take x.1).map Ch.id).Nodup∧(∀k,(alk k x.2.1).getD 0=(List.count k (hlL (cs.take x.1)):Nat))∧(∀k,(nlk k x.2.2).getD 0=(List.count k ((cs.take x.1).map Ch.id):Nat))})
  (fun x=>⟨[(0, .sl (pys l)),(6, .mp 0),(7, .mp 1),(8, .int .i64 (hlL (cs.take x.1.1)).length),(25, .sl (chs cs)),(26, .int .i64 cs.length),(27, .int .i64 x.1.1)],[(1, .map [.int .u64] (kvN .u64 .i64 x.1.2.2)),(0, .map [.int .u64, .int .u64, .int .u64] (kv3 x.1.2.1))],2⟩) (fun x=>cs.length - x.1.1)
  ⟨(0,[],[]),by simp,by simp,fun k=>by simp [alk,hlL],fun k=>by simp [nlk]⟩ ?_ ?_
 ·simp [go_sem,kvN,kv3,hlL]
 ·rintro⟨⟨i,m,ids⟩,hi,hnd,hm,hids⟩
  dsimp only at hi hnd hm hids
  refine aw hT lv113 ?_
  simp -implicitDefEqProofs only [cdA,go_sem,okL_z,simprocAttr, -Int.reduceEq,List.cons.injEq,cdB]
  have hlen:(hlL (cs.take i)).length≤i*1000000:=hl_len (fun c hc=>hs c (List.mem_of_mem_take hc)) (by rw [List.length_take];omega)
  refine⟨fun h1=>⟨by omega, ?_⟩,fun h1 _=> ?_⟩
  ·have hi':i<cs.length:=by omega
   have hcm:cs.getD i default∈cs:=mem_getD.2 ⟨i,hi',rfl⟩
   have htk:cs.take (i+1)=cs.take i++[cs.getD i default]:=take_succ hi'
   generalize cs.getD i default=c at*
   have hcl:=hs c hcm
   have hcle:List.count c.id ((cs.take i).map Ch.id)≤32:=Nat.le_trans List.count_le_length (by simp;omega)
   rw [hids,i64_in _ (by omega),nlk_nset,if_pos rfl]
   generalize hids':nset c.id ((List.count c.id ((cs.take i).map Ch.id):Nat)+1:Int) ids=ids'
   have hid2:∀k,(nlk k ids').getD 0=(List.count k ((cs.take (i+1)).map Ch.id):Nat):=fun k=>by
    rw [←hids',nlk_nset,htk,List.map_append,List.count_append]
    split
    ·rename_i h;subst h;simp
    ·rename_i h
     rw [hids];simp [List.count_cons,Ne.symm h]
   refine⟨fun h2=>hbad fun ho=> ?_,fun h2 _=> ?_⟩
   ·have h3:(cs.take (i+1)).map Ch.id<+:cs.map Ch.id:=(List.take_prefix _ _).map _
    have h4:=h3.sublist.nodup ho.2.2
    rw [htk,List.map_append,List.nodup_append]at h4
    have h5:0<List.count c.id ((cs.take i).map Ch.id):=by
     simp only [Option.getD_some]at h2;omega
    exact h4.2.2 _ (List.count_pos_iff.1 h5) c.id (by simp) rfl
   ·have hnd':((cs.take (i+1)).map Ch.id).Nodup:=by
     rw [htk,List.map_append,List.nodup_append]
     refine⟨hnd,by simp,fun x hx y hy=> ?_⟩
     simp at hy
     rintro rfl
     subst hy
     have:=List.count_pos_iff.2 hx
     simp only [Option.getD_some]at h2;omega
    refine SWp.loop (ι:={x:Nat×List (K3×Int) // x.1≤c.holds.length∧∀k,(alk k x.2).getD 0=(List.count k (hlL (cs.take i)++(hlC c).take x.1):Nat)})
     (fun x=>⟨[(0, .sl (pys l)),(6, .mp 0),(7, .mp 1),(8, .int .i64 ((hlL (cs.take i)).length+x.1.1:Nat)),(10, .ref 2 0),(25, .sl (chs cs)),(26, .int .i64 cs.length),(27, .int .i64 i),(42, .c (.sl (hds c.holds))),(43, .int .i64 c.holds.length),(44, .int .i64 x.1.1)],
      [(2, .box [.c (.int .u64 c.id), .c (.int .u64 c.loc), .c (.int .u64 c.rem), .c (.int .u64 c.res), .c (.int .u64 c.most), .c (.sl (hds c.holds)), .c (.bool c.op)]),(1, .map [.int .u64] (kvN .u64 .i64 ids')),(0, .map [.int .u64, .int .u64, .int .u64] (kv3 x.1.2))],3⟩) (fun x=>c.holds.length - x.1.1)
     ⟨(0,m),by simp,fun k=>by simp [hm]⟩ ?_ ?_
    ·simp [go_sem]
    ·rintro⟨⟨k,m⟩,hk,hm⟩
     dsimp only at hk hm
     refine aw hT lv113 ?_
     simp -implicitDefEqProofs only [cdA,go_sem,okL_z,simprocAttr, -Int.reduceEq,List.cons.injEq,cdB]
     refine⟨fun h3=>⟨by omega, ?_⟩,fun h3=> ?_⟩
     ·refine ADraw.runC us113_13 [0,0,2,0,14,31,63,63,159,511] hT follows_mixed (by kernel_rfl) (by kernel_rfl) (by kernel_rfl) ?_
      simp -implicitDefEqProofs only [cdA,go_sem,okL_z,simprocAttr, -Int.reduceEq,List.cons.injEq,cdB]
      have hk':k<c.holds.length:=by omega
      have hcl':(hlC c).length=c.holds.length:=by unfold hlC;rw [List.length_map]
      have hct:List.count (c.id,(c.holds.getD k default).id,(c.holds.getD k default).n) (hlL (cs.take i)++(hlC c).take k)≤i*1000000+1000000:=
       Nat.le_trans List.count_le_length (by rw [List.length_append,List.length_take];omega)
      have hstep:(hlC c).take (k+1)=(hlC c).take k++[(c.id,(c.holds.getD k default).id,(c.holds.getD k default).n)]:=by
       rw [take_succ (by rw [hcl'];exact hk')]
       congr 2
       unfold hlC
       rw [getD_lt (by rw [List.length_map];exact hk'),getD_lt hk',List.getElem_map]
      refine⟨⟨(k+1,_),hk',fun q=> ?_⟩,by dsimp only;omega,⟨by rw [i64_in _ (by omega)];dsimp only;omega,i64_in _ (by omega)⟩,rfl⟩
      dsimp only
      rw [hm,i64_in _ (by omega),alk_aset,hstep,←List.append_assoc]
      generalize hlL (cs.take i)++(hlC c).take k=A at*
      generalize (c.id,(c.holds.getD k default).id,(c.holds.getD k default).n)=t at*
      rw [List.count_append,List.count_singleton]
      split
      ·rename_i h;subst h
       rw [if_pos (by simp),Option.getD_some];omega
      ·rename_i h
       rw [hm,if_neg (by simpa using Ne.symm h)];omega
     ·have hk':k=c.holds.length:=by omega
      subst hk'
      have hcl':(hlC c).length=c.holds.length:=by unfold hlC;rw [List.length_map]
      have hl1:hlL (cs.take (i+1))=hlL (cs.take i)++hlC c:=by rw [htk];simp [hlL]
      refine⟨⟨(i+1,m,ids'),hi',hnd',fun q=> ?_,hid2⟩,by dsimp only;omega,⟨by dsimp only;rw [hl1,List.length_append,hcl'];omega,i64_in _ (by omega)⟩,rfl,rfl⟩
      dsimp only
      rw [hm,hl1,←hcl',List.take_length]
  ·have hi':i=cs.length:=by omega
   subst hi'
   rw [List.take_length]at hnd hm hids hlen⊢
   have hA:okPy l∧cs.length≤32∧(cs.map Ch.id).Nodup:=⟨hok,by omega,hnd⟩
   have hl256:=hok.1
   have hpl:∀j,(pend (l.take j)).length≤256:=fun j=>Nat.le_trans (List.length_filter_le _ _) (by rw [List.length_take];omega)
   refine SWp.loop (ι:={j:Nat // j≤l.length∧∀p∈pend (l.take j),(p.chan,p.id,p.n)∈hlL cs}) (fun j=>⟨[(6, .mp 0),(8, .int .i64 ((hlL cs).length - (pend (l.take j.1)).length:Int)),(61, .sl (pys l)),(62, .int .i64 l.length),(63, .int .i64 j.1)],[(1, .map [.int .u64] (kvN .u64 .i64 ids)),(0, .map [.int .u64, .int .u64, .int .u64] (kv3 m))],2⟩) (fun j=>l.length - j.1) ⟨0,by simp [pend]⟩ ?_ ?_
   ·simp [go_sem,pend]
   ·rintro⟨j,hj,hin⟩
    have hpj:=hpl j
    refine aw hT lv113 ?_
    simp -implicitDefEqProofs only [cdA,go_sem,okL_z,simprocAttr, -Int.reduceEq,List.cons.injEq,cdB]
    refine⟨fun h1=>⟨by omega,fun h2=> ?_,fun h2=> ?_⟩,fun h1=> ?_⟩
    ·have hj':j<l.length:=by omega
     have hst:pend (l.take (j+1))=pend (l.take j)++[l.getD j default]:=by
      unfold pend
      rw [take_succ hj',List.filter_append]
      simp only [List.filter_cons,decide_eq_true h2,if_true,List.filter_nil]
     rw [hm]
     refine⟨fun h3=> ?_,fun h3=> ?_⟩
     ·rw [agrL,if_pos hA]
      refine⟨(decide_eq_false fun h4=> ?_).symm,rfl⟩
      have h5:=h4.1 (l.getD j default) (List.mem_filter.2 ⟨mem_getD.2 ⟨j,hj',rfl⟩,decide_eq_true h2⟩)
      have:=List.count_pos_iff.2 h5
      omega
     ·refine⟨⟨j+1,hj',fun p hp=> ?_⟩,by dsimp only;omega, ?_,i64_in _ (by omega)⟩
      ·rw [hst]at hp
       rcases List.mem_append.1 hp with hp|hp
       ·exact hin p hp
       ·rw [List.mem_singleton]at hp
        rw [hp]
        exact List.count_pos_iff.1 (by omega)
      ·rw [i64_in _ (by omega)]
       dsimp only
       rw [hst,List.length_append,List.length_singleton];omega
    ·have hj':j<l.length:=by omega
     have hst:pend (l.take (j+1))=pend (l.take j):=by
      unfold pend
      rw [take_succ hj',List.filter_append]
      simp only [List.filter_cons,decide_eq_false h2,List.filter_nil,List.append_nil,Bool.false_eq_true,if_false]
     exact⟨⟨j+1,hj',fun p hp=>hin p (by rwa [hst]at hp)⟩,by dsimp only;omega,by dsimp only;rw [hst],i64_in _ (by omega)⟩
    ·have hj':j=l.length:=by omega
     subst hj'
     rw [List.take_length]at hin hpj⊢
     rw [agrL,if_pos hA]
     refine⟨?_,rfl⟩
     rw [decide_eq_decide]
     exact⟨fun h=>⟨hin,by omega⟩,fun h=>by omega⟩⟩
open Go Go.Proofs Go.IntWalk
structure Iv where
 hash:Nat
 n:Nat
 till:Nat
 state:Int
deriving DecidableEq,Inhabited
@[go_sem] def Iv.enc (e:Iv):List C:=[.int .u64 (e.hash:Int), .int .u64 (e.n:Int), .int .u64 (e.till:Int), .int .i64 e.state]
@[go_sem] def Iv.dec:List C→Iv
 |[.int .u64 z32, .int .u64 z33, .int .u64 z34, .int .i64 z35]=>(⟨z32.toNat,z33.toNat,z34.toNat,z35⟩:Iv)
 |_=>default
def ivs (l:List Iv):List (List C):=l.map Iv.enc
def divs (l:List (List C)):List Iv:=l.map Iv.dec
abbrev kIv:=kAg Iv.enc Iv.dec
abbrev kIvs:=kSl ivs divs
@[simp,go_sem] theorem ivs_length (l:List Iv):(ivs l).length=l.length:=by simp [ivs]
@[go_sem] theorem ivs_get (l:List Iv) (i:Nat):(ivs l).getD i [.int .u64 0, .int .u64 0, .int .u64 0, .int .i64 0]=(l.getD i default).enc:=by
 simp only [ivs,List.getD_eq_getElem?_getD,List.getElem?_map]
 cases l[i]? <;>rfl
@[go_sem] theorem ivs_wide (l:List Iv):Wide 4 (ivs l)=True:=by
 simp [Wide,ivs,Iv.enc]
theorem Iv.dec_enc (e:Iv):Iv.dec e.enc=e:=by
 simp [Iv.enc,Iv.dec]
@[go_sem] theorem divs_ivs (l:List Iv):divs (ivs l)=l:=by
 simp only [divs,ivs,List.map_map]
 exact List.map_id'' (fun e=>Iv.dec_enc e) l
@[go_sem] theorem ivs_app (a b:List Iv):ivs a++ivs b=ivs (a++b):=by simp [ivs]
@[go_sem] theorem ivs_drop (l:List Iv) (k:Nat):(ivs l).drop k=ivs (l.drop k):=by simp [ivs]
@[go_sem] theorem ivs_take (l:List Iv) (k:Nat):(ivs l).take k=ivs (l.take k):=by simp [ivs]
@[go_sem] theorem ivs_one (z36:Int) (z37:Int) (z38:Int) (z39:Int) (hz36:0≤z36) (hz37:0≤z37) (hz38:0≤z38):[[C.int .u64 z36,C.int .u64 z37,C.int .u64 z38,C.int .i64 z39]]=ivs [⟨z36.toNat,z37.toNat,z38.toNat,z39⟩]:=by simp [ivs,Iv.enc,Int.toNat_of_nonneg hz36,Int.toNat_of_nonneg hz37,Int.toNat_of_nonneg hz38]
@[go_sem] theorem ivs_set (l:List Iv) (i:Nat) (z36:Int) (z37:Int) (z38:Int) (z39:Int) (hz36:0≤z36) (hz37:0≤z37) (hz38:0≤z38):(ivs l).set i [C.int .u64 z36,C.int .u64 z37,C.int .u64 z38,C.int .i64 z39]=ivs (l.set i ⟨z36.toNat,z37.toNat,z38.toNat,z39⟩):=by simp [ivs,List.map_set,Iv.enc,Int.toNat_of_nonneg hz36,Int.toNat_of_nonneg hz37,Int.toNat_of_nonneg hz38]
@[go_sem] theorem ivs_cons (l:List Iv) (z36:Int) (z37:Int) (z38:Int) (z39:Int) (hz36:0≤z36) (hz37:0≤z37) (hz38:0≤z38):[C.int .u64 z36,C.int .u64 z37,C.int .u64 z38,C.int .i64 z39]::ivs l=ivs (⟨z36.toNat,z37.toNat,z38.toNat,z39⟩::l):=by simp [ivs,Iv.enc,Int.toNat_of_nonneg hz36,Int.toNat_of_nonneg hz37,Int.toNat_of_nonneg hz38]
@[go_sem] theorem ivs_flat (l:List Iv):flatE (ivs l)=True:=eq_true fun x hx c hc=>by
 obtain⟨e,_,rfl⟩:=List.mem_map.1 hx
 simp only [Iv.enc,List.mem_cons,List.not_mem_nil,or_false]at hc
 rcases hc with rfl|rfl|rfl|rfl<;>rfl
@[go_sem] theorem Iv.eta {e:Iv}:(⟨e.hash,e.n,e.till,e.state⟩:Iv)=e:=rfl
@[go_sem] theorem Iv.eqD {a b:Iv}:eqD Tryz.prog 112 [D.c (.int .u64 (a.hash:Int)),D.c (.int .u64 (a.n:Int)),D.c (.int .u64 (a.till:Int)),D.c (.int .i64 a.state)] [D.c (.int .u64 (b.hash:Int)),D.c (.int .u64 (b.n:Int)),D.c (.int .u64 (b.till:Int)),D.c (.int .i64 b.state)]=some (decide (a=b)):=by
 cases a;cases b
 simp only [Dm.eqD,eqOf_112,eqCells,eqC,List.getElem?_cons_zero,List.getElem?_cons_succ,if_true,Option.some.injEq,Iv.mk.injEq]
 rw [Bool.eq_iff_iff]
 simp [Int.ofNat_inj]
def okIv1 (x:Iv):Prop:=(x.n≠0∧x.n≤MM)∧1≤x.state∧x.state≤3
instance (x:Iv):Decidable (okIv1 x):=by unfold okIv1;infer_instance
def okIv (l:List Iv):Prop:=l.length≤256∧(∀x∈l,okIv1 x)∧Srt.Chn Iv.hash ltN l
instance (l:List Iv):Decidable (Srt.Chn Iv.hash ltN l):=by unfold Srt.Chn;infer_instance
instance (l:List Iv):Decidable (okIv l):=by unfold okIv;infer_instance
def chkI (l:List Iv):Int:=if okIv l then 0 else 1
attribute [go_sem] Tryz.f153
@[go_sem] def c_iorder:Ct Tryz.prog:=⟨153,arg kIv fun x=>arg kU64 fun id=>pu (.int .i64 (cmpS x.hash id)),arg_ok fun x=>arg_ok fun id=>ret_ok fun _=>by
 exact run [c_cmp] Tryz.f153 lv153 fun hT=>vc0⟩
attribute [go_sem] Tryz.f154
@[go_sem] def c_ibill:Ct Tryz.prog:=⟨154,arg kU64 fun n=>pu (.bool (decide (n≠0∧n≤MM))),arg_ok fun n=>ret_ok fun _=>by
 refine run [c_moncheck] Tryz.f154 lv154 fun hT=>vc ?_
 have hm:monS [n]=0↔n≤MM:=mon1_0
 refine⟨fun h=> ?_,fun h=> ?_⟩
 ·rw [decide_eq_decide,hm];exact⟨fun h2=>⟨by omega,h2⟩,fun h2=>h2.2⟩
 ·exact(decide_eq_false fun h2=>h2.1 (by omega)).symm⟩
attribute [go_sem] Tryz.f111
@[go_sem] def c_icheck:Ct Tryz.prog:=⟨111,arg kIvs fun l=>pu (.int .i64 (chkI l)),arg_ok fun l=>ret_ok fun _=>by
 refine run [c_ibill,c_iorder] Tryz.f111 lv111 fun hT=>vc ?_
 have hbad:¬okIv l→1=chkI l:=fun h=>by rw [chkI,if_neg h]
 refine fun _=>⟨fun h=>hbad fun ho=> ?_,fun h _=> ?_⟩
 ·have:=ho.1;omega
 refine SWp.loop (ι:={i:Nat // i≤l.length∧(∀j,j<i→okIv1 (l.getD j default)∧(0<j→(l.getD (j - 1) default).hash<(l.getD j default).hash))}) (fun i=>⟨[(0, .sl (ivs l)),(8, .sl (ivs l)),(9, .int .i64 l.length),(10, .int .i64 i.1)],[],0⟩) (fun i=>l.length - i.1) ⟨0,by simp⟩ ?_ ?_
 ·simp [go_sem]
 ·rintro⟨i,hi,hall⟩
  refine aw hT lv111 (vc ?_)
  refine⟨fun h1=>⟨by omega, ?_⟩,fun h1=> ?_⟩
  ·refine dr us111_6 hT (vc ?_)
   have hi':i<l.length:=by omega
   have hnext:(0<i→(l.getD (i - 1) default).hash<(l.getD i default).hash)→
    (¬(l.getD i default).n=0∧(l.getD i default).n≤MM→(¬(l.getD i default).state<1→(3<(l.getD i default).state→1=chkI l)∧(¬3<(l.getD i default).state→
     ∃i_1:{i:Nat // i≤l.length∧(∀j,j<i→okIv1 (l.getD j default)∧(0<j→(l.getD (j - 1) default).hash<(l.getD j default).hash))},l.length - i_1.val<l.length - i∧IntKind.i64.wrap ((i:Int)+1)=i_1.val))∧((l.getD i default).state<1→1=chkI l))∧
    (¬(¬(l.getD i default).n=0∧(l.getD i default).n≤MM)→1=chkI l):=fun ho=>by
    have hm:okIv l→okIv1 (l.getD i default):=fun h=>h.2.1 _ (mem_getD.2 ⟨i,hi',rfl⟩)
    refine⟨fun h2=>⟨fun h3=>⟨fun h4=>hbad fun h=> ?_,fun h4=>⟨⟨i+1,hi',fun j hj=> ?_⟩,by dsimp only;omega,i64_in _ (by omega)⟩⟩,fun h3=>hbad fun h=> ?_⟩,fun h2=>hbad fun h=>h2 (hm h).1⟩
    ·have:=(hm h).2.2;omega
    ·by_cases hji:j=i
     ·subst hji;exact⟨⟨h2,by omega,by omega⟩,ho⟩
     ·exact hall j (by omega)
    ·have:=(hm h).2.1;omega
   refine⟨fun h2=> ?_,fun h2=>hnext fun h=>absurd h (by omega)⟩
   rw [i64_in _ (by omega),show((i:Int) - 1).toNat=i - 1 by omega]
   have hc:∀a b:Nat,0≤cmpS a b↔¬a<b:=fun a b=>by
    have:=cmpS_neg (x:=a) (y:=b);omega
   rw [hc]
   exact⟨by omega,fun h3=>hnext fun _=>by omega,fun h3=>hbad fun h=>h3 (h.2.2 i hi' (by omega))⟩
  ·have hi':i=l.length:=by omega
   subst hi'
   rw [chkI,if_pos]
   exact⟨by omega,fun x hx=>by obtain⟨j,hj,rfl⟩:=mem_getD.1 hx;exact(hall j hj).1,fun j hj h0=>(hall j hj).2 h0⟩⟩
open Go Go.Proofs Go.IntWalk
structure Ev where
 seq:Nat
 kind:Int
 a:Nat
 n:Nat
deriving DecidableEq,Inhabited
@[go_sem] def Ev.enc (e:Ev):List C:=[.int .u64 (e.seq:Int), .int .i64 e.kind, .int .u64 (e.a:Int), .int .u64 (e.n:Int)]
@[go_sem] def Ev.dec:List C→Ev
 |[.int .u64 z52, .int .i64 z53, .int .u64 z54, .int .u64 z55]=>(⟨z52.toNat,z53,z54.toNat,z55.toNat⟩:Ev)
 |_=>default
def evs (l:List Ev):List (List C):=l.map Ev.enc
def devs (l:List (List C)):List Ev:=l.map Ev.dec
abbrev kEvs:=kSl evs devs
@[simp,go_sem] theorem evs_length (l:List Ev):(evs l).length=l.length:=by simp [evs]
@[go_sem] theorem evs_get (l:List Ev) (i:Nat):(evs l).getD i [.int .u64 0, .int .i64 0, .int .u64 0, .int .u64 0]=(l.getD i default).enc:=by
 simp only [evs,List.getD_eq_getElem?_getD,List.getElem?_map]
 cases l[i]? <;>rfl
@[go_sem] theorem evs_wide (l:List Ev):Wide 4 (evs l)=True:=by
 simp [Wide,evs,Ev.enc]
theorem Ev.dec_enc (e:Ev):Ev.dec e.enc=e:=by
 simp [Ev.enc,Ev.dec]
@[go_sem] theorem devs_evs (l:List Ev):devs (evs l)=l:=by
 simp only [devs,evs,List.map_map]
 exact List.map_id'' (fun e=>Ev.dec_enc e) l
@[go_sem] theorem evs_app (a b:List Ev):evs a++evs b=evs (a++b):=by simp [evs]
@[go_sem] theorem evs_drop (l:List Ev) (k:Nat):(evs l).drop k=evs (l.drop k):=by simp [evs]
@[go_sem] theorem evs_take (l:List Ev) (k:Nat):(evs l).take k=evs (l.take k):=by simp [evs]
@[go_sem] theorem evs_one (z56:Int) (z57:Int) (z58:Int) (z59:Int) (hz56:0≤z56) (hz58:0≤z58) (hz59:0≤z59):[[C.int .u64 z56,C.int .i64 z57,C.int .u64 z58,C.int .u64 z59]]=evs [⟨z56.toNat,z57,z58.toNat,z59.toNat⟩]:=by simp [evs,Ev.enc,Int.toNat_of_nonneg hz56,Int.toNat_of_nonneg hz58,Int.toNat_of_nonneg hz59]
@[go_sem] theorem evs_set (l:List Ev) (i:Nat) (z56:Int) (z57:Int) (z58:Int) (z59:Int) (hz56:0≤z56) (hz58:0≤z58) (hz59:0≤z59):(evs l).set i [C.int .u64 z56,C.int .i64 z57,C.int .u64 z58,C.int .u64 z59]=evs (l.set i ⟨z56.toNat,z57,z58.toNat,z59.toNat⟩):=by simp [evs,List.map_set,Ev.enc,Int.toNat_of_nonneg hz56,Int.toNat_of_nonneg hz58,Int.toNat_of_nonneg hz59]
@[go_sem] theorem evs_cons (l:List Ev) (z56:Int) (z57:Int) (z58:Int) (z59:Int) (hz56:0≤z56) (hz58:0≤z58) (hz59:0≤z59):[C.int .u64 z56,C.int .i64 z57,C.int .u64 z58,C.int .u64 z59]::evs l=evs (⟨z56.toNat,z57,z58.toNat,z59.toNat⟩::l):=by simp [evs,Ev.enc,Int.toNat_of_nonneg hz56,Int.toNat_of_nonneg hz58,Int.toNat_of_nonneg hz59]
@[go_sem] theorem evs_flat (l:List Ev):flatE (evs l)=True:=eq_true fun x hx c hc=>by
 obtain⟨e,_,rfl⟩:=List.mem_map.1 hx
 simp only [Ev.enc,List.mem_cons,List.not_mem_nil,or_false]at hc
 rcases hc with rfl|rfl|rfl|rfl<;>rfl
@[go_sem] theorem Ev.eta {e:Ev}:(⟨e.seq,e.kind,e.a,e.n⟩:Ev)=e:=rfl
@[go_sem] theorem Ev.eqD {a b:Ev}:eqD Tryz.prog 159 [D.c (.int .u64 (a.seq:Int)),D.c (.int .i64 a.kind),D.c (.int .u64 (a.a:Int)),D.c (.int .u64 (a.n:Int))] [D.c (.int .u64 (b.seq:Int)),D.c (.int .i64 b.kind),D.c (.int .u64 (b.a:Int)),D.c (.int .u64 (b.n:Int))]=some (decide (a=b)):=by
 cases a;cases b
 simp only [Dm.eqD,eqOf_159,eqCells,eqC,List.getElem?_cons_zero,List.getElem?_cons_succ,if_true,Option.some.injEq,Ev.mk.injEq]
 rw [Bool.eq_iff_iff]
 simp [Int.ofNat_inj]
structure Fd where
 next:Nat
 l:List Ev
deriving DecidableEq,Inhabited
@[go_sem] def Fd.enc (e:Fd):List C:=[.int .u64 (e.next:Int), .sl (evs e.l)]
@[go_sem] def Fd.dec:List C→Fd
 |[.int .u64 z61, .sl z62]=>(⟨z61.toNat,(devs z62)⟩:Fd)
 |_=>default
def fds (l:List Fd):List (List C):=l.map Fd.enc
def dfds (l:List (List C)):List Fd:=l.map Fd.dec
abbrev kFd:=kAg Fd.enc Fd.dec
@[simp,go_sem] theorem fds_length (l:List Fd):(fds l).length=l.length:=by simp [fds]
@[go_sem] theorem fds_get (l:List Fd) (i:Nat):(fds l).getD i [.int .u64 0, .sl []]=(l.getD i default).enc:=by
 simp only [fds,List.getD_eq_getElem?_getD,List.getElem?_map]
 cases l[i]? <;>rfl
@[go_sem] theorem fds_wide (l:List Fd):Wide 2 (fds l)=True:=by
 simp [Wide,fds,Fd.enc]
theorem Fd.dec_enc (e:Fd):Fd.dec e.enc=e:=by
 simp [Fd.enc,Fd.dec,devs_evs]
@[go_sem] theorem dfds_fds (l:List Fd):dfds (fds l)=l:=by
 simp only [dfds,fds,List.map_map]
 exact List.map_id'' (fun e=>Fd.dec_enc e) l
@[go_sem] theorem fds_app (a b:List Fd):fds a++fds b=fds (a++b):=by simp [fds]
@[go_sem] theorem fds_drop (l:List Fd) (k:Nat):(fds l).drop k=fds (l.drop k):=by simp [fds]
@[go_sem] theorem fds_take (l:List Fd) (k:Nat):(fds l).take k=fds (l.take k):=by simp [fds]
@[go_sem] theorem fds_one (z63:Int) (z64:List Ev) (hz63:0≤z63):[[C.int .u64 z63,C.sl (evs z64)]]=fds [⟨z63.toNat,z64⟩]:=by simp [fds,Fd.enc,Int.toNat_of_nonneg hz63]
@[go_sem] theorem fds_set (l:List Fd) (i:Nat) (z63:Int) (z64:List Ev) (hz63:0≤z63):(fds l).set i [C.int .u64 z63,C.sl (evs z64)]=fds (l.set i ⟨z63.toNat,z64⟩):=by simp [fds,List.map_set,Fd.enc,Int.toNat_of_nonneg hz63]
@[go_sem] theorem fds_cons (l:List Fd) (z63:Int) (z64:List Ev) (hz63:0≤z63):[C.int .u64 z63,C.sl (evs z64)]::fds l=fds (⟨z63.toNat,z64⟩::l):=by simp [fds,Fd.enc,Int.toNat_of_nonneg hz63]
@[go_sem] theorem Fd.eta {e:Fd}:(⟨e.next,e.l⟩:Fd)=e:=rfl
def kindS (k:Int):Bool:=decide (0≤k∧k<16)
attribute [go_sem] Tryz.f121
@[go_sem] def c_fkind:Ct Tryz.prog:=⟨121,arg kI64 fun k=>pu (.bool (kindS k)),arg_ok fun k=>ret_ok fun _=>by
 refine run [] Tryz.f121 lv121 fun hT=>vc ?_
 have e:kindS k=decide (0≤k∧k<16):=rfl
 rw [e]
 exact⟨fun h=>by rw [decide_eq_decide];exact⟨fun h2=>⟨h,h2⟩,fun h2=>h2.2⟩,fun h=>(decide_eq_false fun h2=>h h2.1).symm⟩⟩
attribute [go_sem] Tryz.f42
@[go_sem] def c_fnew:Ct Tryz.prog:=⟨42,pu (.agg [.int .u64 1, .sl (evs [])]),ret_ok fun _=>by
 refine run [] Tryz.f42 lv42 fun hT=>vc ?_
 rfl⟩
theorem rev_take {n k:Nat} (h:k<n):(List.finRange n).reverse.take k++[⟨n - 1 - k,by omega⟩]=(List.finRange n).reverse.take (k+1):=by
 have hl:k<(List.finRange n).reverse.length:=by simpa using h
 rw [List.take_add_one,List.getElem?_eq_getElem hl]
 simp
theorem back_iter (l:List Ev) (hl:l.length≤1000000):IterOk Tryz.prog 172 [.rp [.sl (evs l)]] (m:=l.length) (fun x=>[.int .i64 x.1, .agg ((l.getD x.1 default).enc.map .c)]) (List.finRange l.length).reverse:=by
 refine IterOk.of (n:=19) (fn:=Tryz.f172) (by kernel_rfl) rfl rfl rfl (Nat.le_of_ble_eq_true rfl) rfl ?_
 intro y I J Jx hY
 refine SY.seq (SY.region .nil hY rfl ?_)
 simp -implicitDefEqProofs only [cdA,go_sem,aopsY,yargs,St.nums,numsL,List.contains_cons,List.contains_nil,Nat.reduceBEq,Bool.or_self,simprocAttr, -Int.reduceEq,List.cons.injEq,cdB]
 refine fun _=>SY.block (SY.loop l.length (fun k=>⟨[(0, .fn (.yield y) [] []),(1, .rp [.sl (evs l)]),(3, .int .i64 ((l.length:Int) - 1 - k))],[],0⟩) (fun k=>((List.finRange l.length).reverse.take k,true)) 0 ?_ (Nat.zero_le _) ?_)
 ·intro a w h
  rw [i64_in _ (by omega)]at h
  have h:=h.sub (s':=⟨[(0, .fn (.yield y) [] []),(1, .rp [.sl (evs l)]),(3, .int .i64 ((l.length:Int) - 1 - (0:Nat)))],[],0⟩) ⟨rfl,rfl,by simp [go_sem]⟩
  simpa using h
 ·intro k hk
  refine SY.seq (SY.seq (SY.region .nil hY rfl ?_))
  simp -implicitDefEqProofs only [cdA,go_sem,aopsY,yargs,St.nums,numsL,List.contains_cons,List.contains_nil,Nat.reduceBEq,Bool.or_self,simprocAttr, -Int.reduceEq,List.cons.injEq,cdB]
  refine SY.cond rfl (fun hc=>SY.skip ?_) (fun hc=>SY.exit ?_)
  ·have hk':k<l.length:=by simp at hc;omega
   refine SY.seq (SY.block (SY.seq (SY.region .nil hY rfl ?_)))
   simp -implicitDefEqProofs only [cdA,go_sem,aopsY,yargs,St.nums,numsL,List.contains_cons,List.contains_nil,Nat.reduceBEq,Bool.or_self,simprocAttr, -Int.reduceEq,List.cons.injEq,cdB]
   refine⟨by omega,by simp;omega,⟨l.length - 1 - k,by omega⟩, ?_, ?_, ?_⟩
   ·have e1:((l.length:Int) - 1 - k).toNat=l.length - 1 - k:=by omega
    have e2:((l.length:Int) - 1 - k)=((l.length - 1 - k:Nat):Int):=by omega
    rw [e1,e2];exact⟨rfl,rfl⟩
   ·refine SY.cond (b:=false) rfl (fun h=>by cases h) (fun _=>SY.skip (SY.region .nil hY rfl ?_))
    simp -implicitDefEqProofs only [cdA,go_sem,aopsY,yargs,simprocAttr, -Int.reduceEq,List.cons.injEq,cdB]
    rw [i64_in _ (by omega)]
    exact⟨hk',by rw [rev_take hk'],by omega⟩
   ·refine SY.cond (b:=true) rfl (fun _=>SY.ret ?_) (fun h=>by cases h)
    refine⟨.inr rfl, .inr ⟨rfl, ?_⟩⟩
    rw [rev_take hk']
    exact List.take_prefix _ _
  ·have hk':k=l.length:=by simp at hc;omega
   have:List.take l.length (List.finRange l.length).reverse=(List.finRange l.length).reverse:=List.take_of_length_le (by simp)
   simp [hk',this]
attribute [go_sem] Tryz.f155
@[go_sem] def c_fback:Ct Tryz.prog:=⟨155,arg kEvs fun l=>pu (.fn (.func 172) [] [.rp [.sl (evs l)]]),arg_ok fun l=>ret_ok fun _=>by
 refine run [] Tryz.f155 lv155 fun hT=>vc ?_
 exact⟨_,rfl,rfl⟩⟩
def okEv (n:Int):List Ev→Bool
 |[]=>true
 |e::r=>decide ((e.seq:Int)=n - (r.length+1))&&kindS e.kind&&okEv n r
def okFd (f:Fd):Prop:=1≤f.next∧f.next≤MM∧f.l.length=min (f.next - 1) 64∧okEv f.next f.l=true
instance (f:Fd):Decidable (okFd f):=by unfold okFd;infer_instance
def chkF (f:Fd):Int:=if okFd f then 0 else 1
theorem okEv_get (n:Int):∀(l:List Ev),okEv n l=true↔∀i:Nat,i<l.length→((l.getD i default).seq:Int)=n - (l.length - i:Int)∧kindS (l.getD i default).kind=true
 |[]=>by simp [okEv]
 |e::r=>by
  rw [okEv,Bool.and_eq_true,Bool.and_eq_true,okEv_get n r,decide_eq_true_eq]
  constructor
  ·rintro⟨⟨h1,h2⟩,h3⟩ i hi
   cases i with
   |zero=>simp [h1,h2]
   |succ i=>
    have:=h3 i (by simpa using hi)
    simp only [List.getD_cons_succ,List.length_cons]
    refine⟨?_,this.2⟩
    rw [this.1]
    omega
  ·intro h
   refine⟨?_,fun i hi=> ?_⟩
   ·have:=h 0 (by simp)
    simp at this
    exact⟨by rw [this.1],this.2⟩
   ·have:=h (i+1) (by simpa using hi)
    simp only [List.getD_cons_succ,List.length_cons]at this
    refine⟨?_,this.2⟩
    rw [this.1]
    omega
theorem check_bad {f:Fd} {pre:List (Fin f.l.length)} {x:Fin f.l.length} (h:pre++[x]<+:(List.finRange f.l.length).reverse)
 (hb:¬(((f.l.getD x.1 default).seq:Int)=f.next - (pre.length+1:Int)∧kindS (f.l.getD x.1 default).kind=true)):chkF f=1:=by
 unfold chkF
 rw [if_neg]
 rintro⟨_,_,_,h4⟩
 obtain⟨t,ht⟩:=h
 have h5:(List.finRange f.l.length).reverse[pre.length]? =some x:=by rw [←ht];simp
 have h6:=(okEv_get f.next f.l).1 h4 x.1 x.2
 have hlt:pre.length<f.l.length:=by
  have:=(List.getElem?_eq_some_iff.1 h5).1
  simpa using this
 have h7:x.1=f.l.length - 1 - pre.length:=by
  rw [List.getElem?_eq_getElem (by simpa using hlt)]at h5
  simp at h5
  rw [←h5]
 refine hb ⟨?_,h6.2⟩
 rw [h6.1,h7]
 omega
attribute [go_sem] setps asg rfp
@[go_sem] def c_fcheck:Ct Tryz.prog:=⟨112,arg kFd fun f=>ret (f.next≤18446744073709551615) (.int .i64 (chkF f)) [],arg_ok fun f=>ret_ok fun h=>by
 have hT:=tb_ok (P:=Tryz.prog) [c_fkind,c_fback]
 refine .of (acall_introM (n:=44) (fn:=Tryz.f112) (by kernel_rfl) rfl rfl rfl (Nat.le_of_ble_eq_true rfl) (rs:=[.cell 2 37]) rfl ?_)
 refine SWm.seq (SWm.awp hT.toS lv112 rfl ?_)
 refine vc ?_
 refine SWm.seq (SWm.awp hT.toS lv112 rfl ?_)
 refine vc ?_
 have hbad:¬okFd f→1=chkF f:=fun h=>by rw [chkF,if_neg h]
 refine⟨fun h1=>⟨fun h2 h3=>⟨fun h4=> ?_,fun h4=>hbad fun ho=>h4 ?_⟩,fun h2=>hbad fun ho=> ?_⟩,fun h1=>hbad fun ho=> ?_⟩
 rotate_left 1
 ·have:=ho.2.2.1
  rw [u64_in f.l.length (by omega),u64_in ((f.next:Int) - 1) (by omega)];omega
 ·have:=ho.2.1;unfold MM at this;omega
 ·have:=ho.1;omega
 ·refine SWm.seq (SWm.awp hT.toS lv112 rfl ?_)
  refine vc ?_
  refine SWm.seq (SWm.seq (SWm.awp hT.toS lv112 rfl ?_))
  refine vc ?_
  have hle:(f.l.length:Int)≤64∧(f.l.length:Int)≤f.next - 1:=by
   rw [u64_in f.l.length (by omega),u64_in ((f.next:Int) - 1) (by omega)]at h4
   omega
  have hlen:f.l.length≤1000000:=by omega
  refine SWm.block (SWm.rangeFunc hT.toS lv112 (caps:=[.rp [.sl (evs f.l)]]) rfl (by simp [D.pure1]) (back_iter f.l hlen)
   (fun pre=>[(2, .box [.int .u64 ((f.next:Int) - pre.length)]),(1, .box [.int .i64 0]),(0, .box [.int .u64 f.next, .sl (evs f.l)])])
   (fun pre=>∀(j:Nat) (x:Fin f.l.length),pre[j]? =some x→((f.l.getD x.1 default).seq:Int)=f.next - (j+1)∧kindS (f.l.getD x.1 default).kind=true)
   (fun x=>rfl) (by decide) (Nat.zero_le _) rfl rfl rfl rfl ?_ ?_ ?_)
  ·simp [go_sem]
  ·intro pre x hok hpre
   refine vc ?_
   rw [u64_in ((f.next:Int) - _ - 1) (by omega)]
   refine⟨fun h5=>⟨fun h6=>⟨fun j y hj=> ?_,by omega⟩,fun h6 hp=> ?_⟩,fun h5 hp=> ?_⟩
   ·rw [List.getElem?_append]at hj
    split at hj
    ·exact hok j y hj
    ·rename_i hge
     have:j=pre.length:=by
      have:=(List.getElem?_eq_some_iff.1 hj).1
      simp at this
      omega
     subst this
     simp at hj
     subst hj
     exact⟨by omega,h6⟩
   ·exact(check_bad hp fun h=>by rw [h6]at h;cases h.2).symm
   ·exact(check_bad hp fun h=>h5 (by omega)).symm
  ·intro hok
   refine SWm.awp hT.toS lv112 rfl ?_
   refine vc ?_
   rw [u64_in f.l.length (by omega),u64_in ((f.next:Int) - 1) (by omega)]at h4
   have hE:okEv f.next f.l=true:=by
    rw [okEv_get]
    intro i hi
    have h5:(List.finRange f.l.length).reverse[f.l.length - 1 - i]? =some ⟨i,hi⟩:=by
     rw [List.getElem?_eq_getElem (by simp;omega)]
     simp
     try omega
    obtain⟨h6,h7⟩:=hok _ _ h5
    refine⟨?_,h7⟩
    rw [h6]
    omega
   rw [chkF,if_pos (show okFd f from⟨by omega,by unfold MM;omega,by omega,hE⟩)]⟩
theorem chkF_0 {f:Fd}:chkF f=0↔okFd f:=by unfold chkF;split<;>rename_i h<;>simp only [h]<;>decide
attribute [go_sem] Tryz.f122
@[go_sem] def c_evclone:Ct Tryz.prog:=⟨122,arg kEvs fun l=>ret (l.length≤1000000) (.vec 0 l.length) ([(4,159,true,evs l)]),arg_ok fun l=>retF_ok fun hl=>by
 refine runF [] Tryz.f122 lv122 fun hT=>vc ?_
 refine fun b hb=>⟨fun h=> ?_,fun h=> ?_⟩
 ·exact⟨[none],by simp [go_sem,hb h],by cases l<;>simp_all [go_sem,evs]⟩
 ·exact⟨by omega,[some 0],by simp [go_sem]⟩⟩
def addF (f:Fd) (k:Int) (a n:Nat):Fd×Nat×Int:=if okFd f∧kindS k=true then(if f.next=MM then((⟨0,[]⟩:Fd),0,7)else((⟨f.next+1,(f.l++[(⟨f.next,k,a,n⟩:Ev)]).drop (f.l.length+1 - 64)⟩:Fd),f.next,0))else((⟨0,[]⟩:Fd),0,1)
attribute [go_sem] Tryz.f78
@[go_sem] def c_fadd:Ct Tryz.prog:=⟨78,arg kFd fun f=>arg kI64 fun k=>arg kU64 fun a=>arg kU64 fun n=>ret (f.next≤18446744073709551615) (.tup [.agg [.int .u64 (addF f k a n).1.next, .sl (evs (addF f k a n).1.l)], .int .u64 (addF f k a n).2.1, .int .i64 (addF f k a n).2.2]) [],arg_ok fun f=>arg_ok fun k=>arg_ok fun a=>arg_ok fun n=>ret_ok fun h=>by
 refine run [c_fcheck,c_fkind,c_evclone] Tryz.f78 lv78 fun hT=>vc ?_
 have hbad:¬(okFd f∧kindS k=true)→(0=((addF f k a n).1.next:Int)∧evs (addF f k a n).1.l=[])∧0=((addF f k a n).2.1:Int)∧1=(addF f k a n).2.2:=fun h=>by
  rw [addF,if_neg h];exact⟨⟨rfl,rfl⟩,rfl,rfl⟩
 refine⟨h,fun h0=>⟨fun hk=>⟨fun hm=> ?_,fun hm=> ?_⟩,fun hk=>hbad fun ho=>by rw [hk]at ho;cases ho.2⟩,fun h0=>hbad fun ho=>h0 (chkF_0.2 ho.1)⟩
 ·rw [addF,if_pos ⟨chkF_0.1 h0,hk⟩,if_pos (by unfold MM;omega)];exact⟨⟨rfl,rfl⟩,rfl,rfl⟩
 ·have ho:=chkF_0.1 h0
  have h1:=ho.2.2.1
  have h2:=ho.2.1
  unfold MM at h2
  rw [addF,if_pos ⟨ho,hk⟩,if_neg (by unfold MM;omega)]
  have e:(max (IntKind.i64.wrap ((f.l.length:Int)+1 - 64)) 0).toNat=f.l.length+1 - 64:=by rw [i64_in _ (by omega)];omega
  rw [e,u64_in _ (by omega)]
  refine⟨by omega,by omega,fun _=>⟨⟨by omega,by rw [i64_in _ (by omega)];omega⟩,⟨by dsimp only;omega,rfl,_,_,_,rfl⟩,rfl,rfl⟩⟩⟩
open Go Go.Proofs Go.IntWalk
structure Wt where
 id:Nat
 w:Option Nat
deriving DecidableEq
instance:Inhabited Wt:=⟨⟨default,some 0⟩⟩
@[go_sem] def Wt.enc (e:Wt):List C:=[.int .u64 (e.id:Int), .flt .f64 e.w]
@[go_sem] def Wt.dec:List C→Wt
 |[.int .u64 z22, .flt .f64 z23]=>(⟨z22.toNat,z23⟩:Wt)
 |_=>default
def wts (l:List Wt):List (List C):=l.map Wt.enc
def dwts (l:List (List C)):List Wt:=l.map Wt.dec
abbrev kWts:=kSl wts dwts
@[simp,go_sem] theorem wts_length (l:List Wt):(wts l).length=l.length:=by simp [wts]
@[go_sem] theorem wts_get (l:List Wt) (i:Nat):(wts l).getD i [.int .u64 0, .flt .f64 (some 0)]=(l.getD i default).enc:=by
 simp only [wts,List.getD_eq_getElem?_getD,List.getElem?_map]
 cases l[i]? <;>rfl
@[go_sem] theorem wts_wide (l:List Wt):Wide 2 (wts l)=True:=by
 simp [Wide,wts,Wt.enc]
theorem Wt.dec_enc (e:Wt):Wt.dec e.enc=e:=by
 simp [Wt.enc,Wt.dec]
@[go_sem] theorem dwts_wts (l:List Wt):dwts (wts l)=l:=by
 simp only [dwts,wts,List.map_map]
 exact List.map_id'' (fun e=>Wt.dec_enc e) l
@[go_sem] theorem wts_app (a b:List Wt):wts a++wts b=wts (a++b):=by simp [wts]
@[go_sem] theorem wts_drop (l:List Wt) (k:Nat):(wts l).drop k=wts (l.drop k):=by simp [wts]
@[go_sem] theorem wts_take (l:List Wt) (k:Nat):(wts l).take k=wts (l.take k):=by simp [wts]
@[go_sem] theorem wts_one (z24:Int) (z25:Option Nat) (hz24:0≤z24):[[C.int .u64 z24,C.flt .f64 z25]]=wts [⟨z24.toNat,z25⟩]:=by simp [wts,Wt.enc,Int.toNat_of_nonneg hz24]
@[go_sem] theorem wts_set (l:List Wt) (i:Nat) (z24:Int) (z25:Option Nat) (hz24:0≤z24):(wts l).set i [C.int .u64 z24,C.flt .f64 z25]=wts (l.set i ⟨z24.toNat,z25⟩):=by simp [wts,List.map_set,Wt.enc,Int.toNat_of_nonneg hz24]
@[go_sem] theorem wts_cons (l:List Wt) (z24:Int) (z25:Option Nat) (hz24:0≤z24):[C.int .u64 z24,C.flt .f64 z25]::wts l=wts (⟨z24.toNat,z25⟩::l):=by simp [wts,Wt.enc,Int.toNat_of_nonneg hz24]
@[go_sem] theorem wts_flat (l:List Wt):flatE (wts l)=True:=eq_true fun x hx c hc=>by
 obtain⟨e,_,rfl⟩:=List.mem_map.1 hx
 simp only [Wt.enc,List.mem_cons,List.not_mem_nil,or_false]at hc
 rcases hc with rfl|rfl<;>rfl
@[go_sem] theorem Wt.eta {e:Wt}:(⟨e.id,e.w⟩:Wt)=e:=rfl
structure Mk where
 id:Nat
 s:Option Nat
deriving DecidableEq
instance:Inhabited Mk:=⟨⟨default,some 0⟩⟩
@[go_sem] def Mk.enc (e:Mk):List C:=[.int .u64 (e.id:Int), .flt .f64 e.s]
@[go_sem] def Mk.dec:List C→Mk
 |[.int .u64 z27, .flt .f64 z28]=>(⟨z27.toNat,z28⟩:Mk)
 |_=>default
def mks (l:List Mk):List (List C):=l.map Mk.enc
def dmks (l:List (List C)):List Mk:=l.map Mk.dec
@[simp,go_sem] theorem mks_length (l:List Mk):(mks l).length=l.length:=by simp [mks]
@[go_sem] theorem mks_get (l:List Mk) (i:Nat):(mks l).getD i [.int .u64 0, .flt .f64 (some 0)]=(l.getD i default).enc:=by
 simp only [mks,List.getD_eq_getElem?_getD,List.getElem?_map]
 cases l[i]? <;>rfl
@[go_sem] theorem mks_wide (l:List Mk):Wide 2 (mks l)=True:=by
 simp [Wide,mks,Mk.enc]
theorem Mk.dec_enc (e:Mk):Mk.dec e.enc=e:=by
 simp [Mk.enc,Mk.dec]
@[go_sem] theorem dmks_mks (l:List Mk):dmks (mks l)=l:=by
 simp only [dmks,mks,List.map_map]
 exact List.map_id'' (fun e=>Mk.dec_enc e) l
@[go_sem] theorem mks_app (a b:List Mk):mks a++mks b=mks (a++b):=by simp [mks]
@[go_sem] theorem mks_drop (l:List Mk) (k:Nat):(mks l).drop k=mks (l.drop k):=by simp [mks]
@[go_sem] theorem mks_take (l:List Mk) (k:Nat):(mks l).take k=mks (l.take k):=by simp [mks]
@[go_sem] theorem mks_one (z29:Int) (z30:Option Nat) (hz29:0≤z29):[[C.int .u64 z29,C.flt .f64 z30]]=mks [⟨z29.toNat,z30⟩]:=by simp [mks,Mk.enc,Int.toNat_of_nonneg hz29]
@[go_sem] theorem mks_set (l:List Mk) (i:Nat) (z29:Int) (z30:Option Nat) (hz29:0≤z29):(mks l).set i [C.int .u64 z29,C.flt .f64 z30]=mks (l.set i ⟨z29.toNat,z30⟩):=by simp [mks,List.map_set,Mk.enc,Int.toNat_of_nonneg hz29]
@[go_sem] theorem mks_cons (l:List Mk) (z29:Int) (z30:Option Nat) (hz29:0≤z29):[C.int .u64 z29,C.flt .f64 z30]::mks l=mks (⟨z29.toNat,z30⟩::l):=by simp [mks,Mk.enc,Int.toNat_of_nonneg hz29]
@[go_sem] theorem mks_flat (l:List Mk):flatE (mks l)=True:=eq_true fun x hx c hc=>by
 obtain⟨e,_,rfl⟩:=List.mem_map.1 hx
 simp only [Mk.enc,List.mem_cons,List.not_mem_nil,or_false]at hc
 rcases hc with rfl|rfl<;>rfl
@[go_sem] theorem Mk.eta {e:Mk}:(⟨e.id,e.s⟩:Mk)=e:=rfl
abbrev F1:Option Nat:=some 4607182418800017408
def fless (a b:Option Nat):Bool:=decide (fkey a<fkey b)
attribute [go_sem] Tryz.f165
@[go_sem] def c_isnanf:Ct Tryz.prog:=⟨165,arg kF64 fun x=>pu (.bool (fnan x)),arg_ok fun x=>ret_ok fun _=>by
 refine run [] Tryz.f165 lv165 fun hT=>vc ?_
 rfl⟩
attribute [go_sem] Tryz.f133
@[go_sem] def c_cmpf:Ct Tryz.prog:=⟨133,arg kF64 fun x=>arg kF64 fun y=>pu (.int .i64 (cmpS (fkey x) (fkey y))),arg_ok fun x=>arg_ok fun y=>ret_ok fun _=>by
 refine run [c_isnanf] Tryz.f133 lv133 fun hT=>vc ?_
 have h1:=fkey_ge x
 have h2:=fkey_ge y
 rw [fnan_key,fnan_key,ford_lt,ford_gt]
 generalize fkey x=a at*
 generalize fkey y=b at*
 generalize kNan=k at*
 unfold cmpS
 simp only [decide_eq_true_eq,decide_eq_false_iff_not,Bool.and_eq_true,Bool.and_eq_false_iff,ne_eq,Classical.not_not]
 refine⟨fun h3=>⟨fun h4=> ?_,fun h4=> ?_⟩,fun h3=>⟨fun h4=> ?_,fun h4=>⟨fun h5=> ?_,fun h5=>⟨fun h6=> ?_,fun h6=> ?_⟩⟩⟩⟩
 all_goals (repeat' split)<;>first|rfl|(exfalso;omega)⟩
attribute [go_sem] Tryz.f67
@[go_sem] def c_rfless:Ct Tryz.prog:=⟨67,arg kF64 fun a=>arg kF64 fun b=>pu (.bool (fless a b)),arg_ok fun a=>arg_ok fun b=>ret_ok fun _=>by
 refine run [] Tryz.f67 lv67 fun hT=>vc ?_
 have h1:=fkey_ge a
 have h2:=fkey_ge b
 have hf:=fnan_key a
 unfold fnan at hf
 rw [hf,ford_lt,ford_eqk,fless]
 generalize fkey a=x at*
 generalize fkey b=y at*
 generalize kNan=k at*
 by_cases h3:x=k
 ·by_cases h4:y=k
  ·have:¬x<y:=by omega
   simp [h3,h4]
  ·have:x<y:=by omega
   have:k<y:=by omega
   simp [h3,h4,this]
 ·simp [h3]⟩
def fsame (a b:Option Nat):Bool:=decide (fkey a=fkey b)
attribute [go_sem] Tryz.f35
@[go_sem] def c_rfsame:Ct Tryz.prog:=⟨35,arg kF64 fun a=>arg kF64 fun b=>pu (.bool (fsame a b)),arg_ok fun a=>arg_ok fun b=>ret_ok fun _=>by
 refine run [c_rfless] Tryz.f35 lv35 fun hT=>vc ?_
 unfold fless fsame
 generalize fkey a=x at*
 generalize fkey b=y at*
 by_cases h3:x<y
 ·have:¬x=y:=by omega
  simp [h3,this]
 ·by_cases h4:y<x
  ·have:¬x=y:=by omega
   simp [h3,h4,this]
  ·have:x=y:=by omega
   simp [this]⟩
def weighS (l:List Wt) (id:Nat):Option Nat:=match l.find? fun x=>decide (x.id=id)with
 |some x=>x.w
 |none=>F1
attribute [go_sem] Tryz.f148
@[go_sem] def c_rweigh:Ct Tryz.prog:=⟨148,arg kWts fun l=>arg kU64 fun id=>pu (.c (.flt .f64 (weighS l id))),arg_ok fun l=>arg_ok fun id=>ret_ok fun _=>by
 refine run [] Tryz.f148 lv148 fun hT=>vc ?_
 refine fun hl=>SWp.loop (ι:={i:Nat // i≤l.length∧∀j,j<i→(l.getD j default).id≠id}) (fun i=>⟨[(1, .int .u64 id),(7, .sl (wts l)),(8, .int .i64 l.length),(9, .int .i64 i.1)],[],0⟩) (fun i=>l.length - i.1) ⟨0,by simp⟩ ?_ ?_
 ·simp [go_sem]
 ·rintro⟨i,hi,hall⟩
  refine aw hT lv148 (vc ?_)
  have hno:(∀j,j<l.length→(l.getD j default).id≠id)→weighS l id=F1:=fun h=>by
   have:l.find? (fun x=>decide (x.id=id))=none:=by
    rw [List.find?_eq_none]
    intro x hx
    obtain⟨j,hj,rfl⟩:=mem_getD.1 hx
    simpa using h j hj
   rw [weighS,this]
  have hyes:i<l.length→(l.getD i default).id=id→weighS l id=(l.getD i default).w:=fun h h'=>by
   have:l.find? (fun x=>decide (x.id=id))=some (l.getD i default):=by
    rw [List.find?_eq_some_iff_getElem]
    refine⟨by simpa using h',i,h,(getD_lt h).symm,fun j hj=> ?_⟩
    have:=hall j hj
    rw [getD_lt (by omega)]at this
    simpa using this
   rw [weighS,this]
  refine⟨fun h=>⟨by omega,fun h1=> ?_,fun h1=>⟨⟨i+1,by omega,fun j hj=> ?_⟩,by dsimp only;omega,i64_in _ (by omega)⟩⟩,fun h=> ?_⟩
  ·rw [hyes (by omega) (by omega)]
  ·by_cases hji:j=i
   ·subst hji;omega
   ·exact hall j (by omega)
  ·rw [hno fun j hj=>hall j (by omega)]⟩
attribute [go_sem] Tryz.f127 Tryz.f160 Tryz.f161
@[go_sem] def c_weigh:Ct Tryz.prog:=⟨127,arg kWts fun l=>arg kU64 fun id=>pu (.c (.flt .f64 (weighS l id))),arg_ok fun l=>arg_ok fun id=>ret_ok fun _=>by
 refine run [] Tryz.f127 lv127 fun hT=>vc ?_
 refine cl hT Tryz.f160 lv160 (vc ?_)
 refine fun hl=>SWp.loop (ι:={i:Nat // i≤l.length∧∀j,j<i→(l.getD j default).id≠id}) (fun i=>⟨[(0, .sl (wts l)),(1, .fn (.func 161) [] [.ref 0 0]),(7, .int .i64 l.length),(8, .int .i64 i.1)],[(0, .box [.int .u64 id])],1⟩) (fun i=>l.length - i.1) ⟨0,by simp⟩ ?_ ?_
 ·simp [go_sem]
 ·rintro⟨i,hi,hall⟩
  refine aw hT lv160 (vc ?_)
  have hno:(∀j,j<l.length→(l.getD j default).id≠id)→weighS l id=F1:=fun h=>by
   have:l.find? (fun x=>decide (x.id=id))=none:=by
    rw [List.find?_eq_none]
    intro x hx
    obtain⟨j,hj,rfl⟩:=mem_getD.1 hx
    simpa using h j hj
   rw [weighS,this]
  have hyes:i<l.length→(l.getD i default).id=id→weighS l id=(l.getD i default).w:=fun h h'=>by
   have:l.find? (fun x=>decide (x.id=id))=some (l.getD i default):=by
    rw [List.find?_eq_some_iff_getElem]
    refine⟨by simpa using h',i,h,(getD_lt h).symm,fun j hj=> ?_⟩
    have:=hall j hj
    rw [getD_lt (by omega)]at this
    simpa using this
   rw [weighS,this]
  refine⟨fun h=>⟨by omega, ?_⟩,fun h=> ?_⟩
  ·skip
   refine cl hT Tryz.f161 lv161 (vc ?_)
   refine⟨fun h1=>⟨fun h2=>by omega,fun _=>⟨by omega, ?_⟩⟩,fun h1=>⟨⟨i+1,by omega,fun j hj=> ?_⟩,by dsimp only;omega,i64_in _ (by omega)⟩⟩
   ·rw [hyes (by omega) (by omega)]
   ·by_cases hji:j=i
    ·subst hji;omega
    ·exact hall j (by omega)
  ·rw [hno fun j hj=>hall j (by omega)]⟩
def oneS (c:Ch) (w n:Option Nat):Option Nat×Int:=if okCh c then(far .mul w (far .quo (far .sub (fofi (roomC c).1) n) (fofi (sumsC c).2.1)),0)else(some 0,1)
theorem roomC_0 {c:Ch}:(roomC c).2=0↔okCh c:=by
 unfold roomC
 by_cases h:okCh c
 ·rw [if_pos h]
  simp only [h,iff_true]
  split<;>rfl
 ·rw [if_neg h]
  simp [h]
attribute [go_sem] Tryz.f126
@[go_sem] def c_one:Ct Tryz.prog:=⟨126,arg kCh fun c=>arg kF64 fun w=>arg kF64 fun n=>pu (.tup [.c (.flt .f64 (oneS c w n).1), .int .i64 (oneS c w n).2]),arg_ok fun c=>arg_ok fun w=>arg_ok fun n=>ret_ok fun _=>by
 refine run [c_croom,c_call] Tryz.f126 lv126 fun hT=>vc ?_
 have hr:=roomC_0 (c:=c)
 rw [hr,sumsC_0,oneS]
 by_cases h:okCh c
 ·have e:(sumsC c).2.2=0:=sumsC_0.2 h
  simp [h]
 ·have e:(roomC c).2=1:=by rw [roomC,if_neg h]
  simp [h,e]⟩
attribute [go_sem] Tryz.f147
@[go_sem] def c_rone:Ct Tryz.prog:=⟨147,arg kCh fun c=>arg kF64 fun w=>arg kF64 fun n=>pu (.tup [.c (.flt .f64 (oneS c w n).1), .int .i64 (oneS c w n).2]),arg_ok fun c=>arg_ok fun w=>arg_ok fun n=>ret_ok fun _=>by
 refine run [c_r9room,c_r9all] Tryz.f147 lv147 fun hT=>vc ?_
 have hr:=roomC_0 (c:=c)
 rw [hr,oneS]
 by_cases h:okCh c
 ·simp [h]
 ·have e:(roomC c).2=1:=by rw [roomC,if_neg h]
  simp [h,e]⟩
attribute [go_sem] Tryz.f128
@[go_sem] def c_misnan:Ct Tryz.prog:=⟨128,arg kF64 fun x=>pu (.bool (fnan x)),arg_ok fun x=>ret_ok fun _=>by
 refine run [] Tryz.f128 lv128 fun hT=>vc ?_
 rfl⟩
attribute [go_sem] Tryz.f129
@[go_sem] def c_mnan:Ct Tryz.prog:=⟨129,pu (.c (.flt .f64 none)),ret_ok fun _=>by
 refine run [ovC' 162] Tryz.f129 lv129 fun hT=>vc ?_
 exact⟨_,rfl,rfl,rfl,rfl,by kernel_rfl⟩⟩
def mkO (a b:Mk):Int:=orS [cmpS (fkey b.s) (fkey a.s),cmpS a.id b.id]
attribute [go_sem] Tryz.f131
theorem mkcmp_ok (a:Mk) (b:Mk):PureFn Tryz.prog 131 [.agg [.c (.int .u64 (a.id:Int)), .c (.flt .f64 a.s)], .agg [.c (.int .u64 (b.id:Int)), .c (.flt .f64 b.s)]] (.int .i64 (mkO a b)):=by
 refine run [c_cmpf,c_cmp,c_cmpor] Tryz.f131 lv131 fun hT=>vc ?_
 refine dr us131_1 hT (vc ?_)
 rfl
end Dm
namespace Go.Proofs
open Go.Shelf Go.RowKit Go.Lib Go.Sort
def Tryz.sortMk_ren:Go.Shelf.Ren:=⟨fun|6=>130|15=>164|14=>163|28=>183|29=>171|20=>175|21=>176|22=>177|23=>178|24=>179|25=>180|26=>181|27=>182|46=>186|47=>187|48=>188|49=>189|50=>190|57=>192|n=>n,fun|22=>173|24=>181|25=>185|3=>3|39=>106|0=>0|53=>153|55=>26|4=>4|46=>223|45=>222|50=>116|5=>5|9=>9|66=>230|70=>234|76=>237|77=>238|n=>n,fun|n=>n⟩
theorem Tryz.sortMk:Go.Proofs.SlLaysF0.n6 Tryz.prog Tryz.sortMk_ren:={
 mixed:=by kernel_rfl
 f6:=⟨Tryz.f130.name,by decide,Tryz.func130.trans (congrArg some (by kernel_rfl))⟩
 f14:=⟨Tryz.f163.name,by decide,Tryz.func163.trans (congrArg some (by kernel_rfl))⟩
 f15:=Tryz.func164.trans (congrArg some (by kernel_rfl))
 f20:=⟨Tryz.f175.name,by decide,Tryz.func175.trans (congrArg some (by kernel_rfl))⟩
 f21:=⟨Tryz.f176.name,by decide,Tryz.func176.trans (congrArg some (by kernel_rfl))⟩
 f22:=⟨Tryz.f177.name,by decide,Tryz.func177.trans (congrArg some (by kernel_rfl))⟩
 f23:=⟨Tryz.f178.name,by decide,Tryz.func178.trans (congrArg some (by kernel_rfl))⟩
 f24:=⟨Tryz.f179.name,by decide,Tryz.func179.trans (congrArg some (by kernel_rfl))⟩
 f25:=⟨Tryz.f180.name,by decide,Tryz.func180.trans (congrArg some (by kernel_rfl))⟩
 f26:=⟨Tryz.f181.name,by decide,Tryz.func181.trans (congrArg some (by kernel_rfl))⟩
 f27:=⟨Tryz.f182.name,by decide,Tryz.func182.trans (congrArg some (by kernel_rfl))⟩
 f28:=Tryz.func183.trans (congrArg some (by kernel_rfl))
 f29:=Tryz.func171.trans (congrArg some (by kernel_rfl))
 f46:=⟨Tryz.f186.name,by decide,Tryz.func186.trans (congrArg some (by kernel_rfl))⟩
 f47:=Tryz.func187.trans (congrArg some (by kernel_rfl))
 f48:=Tryz.func188.trans (congrArg some (by kernel_rfl))
 f49:=⟨Tryz.f189.name,by decide,Tryz.func189.trans (congrArg some (by kernel_rfl))⟩
 f50:=⟨Tryz.f190.name,by decide,Tryz.func190.trans (congrArg some (by kernel_rfl))⟩
 f57:=⟨Tryz.f192.name,by decide,Tryz.func192.trans (congrArg some (by kernel_rfl))⟩
 t0:=Tryz.underlying0
 a0:=Tryz.isAgg0
 z0:=Tryz.sizeOf0
 v0:=Tryz.zeroValue0
 t3:=Tryz.underlying3
 a3:=Tryz.isAgg3
 z3:=Tryz.sizeOf3
 v3:=Tryz.zeroValue3
 t4:=Tryz.underlying4
 a4:=Tryz.isAgg4
 z4:=Tryz.sizeOf4
 v4:=Tryz.zeroValue4
 t5:=Tryz.underlying5
 a5:=Tryz.isAgg5
 z5:=Tryz.sizeOf5
 v5:=Tryz.zeroValue5
 t9:=Tryz.underlying9
 a9:=Tryz.isAgg9
 z9:=Tryz.sizeOf9
 v9:=Tryz.zeroValue9
 t22:=Tryz.underlying173
 a22:=Tryz.isAgg173
 z22:=Tryz.sizeOf173
 v22:=Tryz.zeroValue173
 t25:=Tryz.underlying185
 a25:=Tryz.isAgg185
 z25:=Tryz.sizeOf185
 v25:=Tryz.zeroValue185
 t39:=Tryz.underlying106
 a39:=Tryz.isAgg106
 z39:=Tryz.sizeOf106
 v39:=Tryz.zeroValue106
 t45:=Tryz.underlying222
 a45:=Tryz.isAgg222
 z45:=Tryz.sizeOf222
 v45:=Tryz.zeroValue222
 t46:=Tryz.underlying223
 a46:=Tryz.isAgg223
 z46:=Tryz.sizeOf223
 v46:=Tryz.zeroValue223
 t50:=Tryz.underlying116
 a50:=Tryz.isAgg116
 z50:=Tryz.sizeOf116
 v50:=Tryz.zeroValue116
 t53:=Tryz.underlying153
 a53:=Tryz.isAgg153
 z53:=Tryz.sizeOf153
 v53:=Tryz.zeroValue153
 t55:=Tryz.underlying26
 a55:=Tryz.isAgg26
 z55:=Tryz.sizeOf26
 v55:=Tryz.zeroValue26
 t66:=Tryz.underlying230
 a66:=Tryz.isAgg230
 z66:=Tryz.sizeOf230
 v66:=Tryz.zeroValue230
 t70:=Tryz.underlying234
 a70:=Tryz.isAgg234
 z70:=Tryz.sizeOf234
 v70:=Tryz.zeroValue234
 t76:=Tryz.underlying237
 a76:=Tryz.isAgg237
 z76:=Tryz.sizeOf237
 v76:=Tryz.zeroValue237
 t77:=Tryz.underlying238
 a77:=Tryz.isAgg238
 z77:=Tryz.sizeOf238
 v77:=Tryz.zeroValue238}
end Go.Proofs
namespace Dm
open Go Go.Proofs Go.IntWalk
abbrev ltM (a b:Int×Nat):Prop:=b.1<a.1∨(a.1=b.1∧a.2<b.2)
instance:DecidableRel ltM:=fun a b=>by unfold ltM;infer_instance
theorem totM:Srt.Tot ltM:=⟨fun a=>by unfold ltM;omega,fun h h'=>by unfold ltM at*;omega,fun a b=>by
 unfold ltM
 have:a=b↔a.1=b.1∧a.2=b.2:=Prod.ext_iff
 rw [this];omega⟩
def Mk.key (m:Mk):Int×Nat:=(fkey m.s,m.id)
theorem mkO_neg {a b:Mk}:mkO a b<0↔ltM a.key b.key:=by
 unfold mkO orS ltM Mk.key cmpS
 by_cases h1:fkey b.s<fkey a.s
 ·simp [h1]
 ·by_cases h2:fkey a.s<fkey b.s
  ·simp [h1,h2];omega
  ·by_cases h3:(a.id:Int)<b.id
   ·simp [h1,h2,h3];omega
   ·by_cases h4:(b.id:Int)<a.id
    ·simp [h1,h2,h3,h4];omega
    ·simp [h1,h2,h3,h4];omega
def ordM (l:List Mk):List Mk:=l.foldl (Srt.put Mk.key ltM) []
def elig (n:Nat) (c:Ch):Bool:=c.op&&decide (max n 1≤(roomC c).1)
def mkOf (w:List Wt) (n:Nat) (c:Ch):Mk:=⟨c.id,(oneS c (weighS w c.id) (fofi n)).1⟩
def mksOf (l:List Ch) (w:List Wt) (n:Nat):List Mk:=(l.filter (elig n)).map (mkOf w n)
def ordL (l:List Ch) (w:List Wt) (n:Nat):List Nat×Int:=if okLd l then((ordM (mksOf l w n)).map Mk.id,0)else([],1)
theorem mksOf_succ {l:List Ch} {w:List Wt} {n i:Nat} (h:i<l.length):mksOf (l.take (i+1)) w n=mksOf (l.take i) w n++(if elig n (l.getD i default)=true then [mkOf w n (l.getD i default)]else []):=by
 rw [take_succ h,mksOf,List.filter_append,List.map_append]
 congr 1
 generalize l.getD i default=x
 by_cases h:elig n x=true<;>simp [h]
theorem mksOf_len {l:List Ch} {w:List Wt} {n:Nat}:(mksOf l w n).length≤l.length:=by
 rw [mksOf,List.length_map];exact List.length_filter_le _ _
theorem flo_canon {n:Nat} (h:fnan (flo .f64 n)=true):flo .f64 n=none:=by
 rw [fnan_key,decide_eq_true_iff,flo_key,dkey_nan (read_dbl n)]at h
 exact flo_nan h
theorem far_canon {op:BinOp} {a b:Option Nat} (h:fnan (far op a b)=true):far op a b=none:=by
 unfold far at*
 cases a with
 |none=>rfl
 |some x=>cases b with
  |none=>rfl
  |some y=>
   simp only at*
   have key:∀o:Option Nat,fnan (o.bind (flo .f64))=true→o.bind (flo .f64)=none:=fun o ho=>by
    cases o with
    |none=>rfl
    |some z=>exact flo_canon ho
   split at h<;>exact key _ h
theorem ordM_put {l:List Mk}:∀{m:List Mk},Srt.Up Mk.key ltM m→Srt.Up Mk.key ltM (l.foldl (Srt.put Mk.key ltM) m):=by
 induction l with
 |nil=>exact fun h=>h
 |cons x l ih=>exact fun h=>ih (Srt.put_up totM h)
theorem ordM_up {l:List Mk}:Srt.Up Mk.key ltM (ordM l):=ordM_put .nil
theorem ordM_mem {l:List Mk} (hd:(l.map Mk.id).Nodup) {x:Mk}:x∈ordM l↔x∈l:=by
 have key:∀(l m:List Mk),Srt.Up Mk.key ltM m→((m++l).map Mk.id).Nodup→∀x,x∈l.foldl (Srt.put Mk.key ltM) m↔x∈m∨x∈l:=by
  intro l
  induction l with
  |nil=>intro m _ _ x;simp
  |cons y l ih=>
   intro m hu hn x
   rw [List.foldl_cons,ih _ (Srt.put_up totM hu) ?_]
   ·rw [Srt.mem_put totM hu]
    simp only [List.mem_cons]
    constructor
    ·rintro((h|h)|h)
     ·exact .inr (.inl h)
     ·exact .inl h.1
     ·exact .inr (.inr h)
    ·rintro(h|h|h)
     ·refine .inl (.inr ⟨h,fun he=> ?_⟩)
      have:x.id=y.id:=congrArg Prod.snd he
      rw [List.map_append,List.nodup_append]at hn
      exact hn.2.2 _ (List.mem_map.2 ⟨x,h,rfl⟩) _ (by simp) this
     ·exact .inl (.inl h)
     ·exact .inr h
   ·have hp:(Srt.put Mk.key ltM m y).Perm (m++[y]):=by
     have ht:¬Srt.thr Mk.key ltM m y.key=true:=fun h=>by
      obtain⟨z,hz,he⟩:=(Srt.thr_iff totM hu).1 h
      have:z.id=y.id:=congrArg Prod.snd he
      rw [List.map_append,List.nodup_append]at hn
      exact hn.2.2 _ (List.mem_map.2 ⟨z,hz,rfl⟩) _ (by simp) this
     rw [Srt.put,if_neg ht]
     exact Srt.ins_perm.trans (List.perm_append_comm (l₁:=[y]))
    have:=(hp.append_right l).map Mk.id
    rw [List.append_assoc]at this
    exact this.nodup_iff.2 hn
 have:=key l [] .nil (by simpa using hd) x
 simpa [ordM]using this
theorem ordM_eq {l m:List Mk} (hd:(l.map Mk.id).Nodup) (hu:Srt.Up Mk.key ltM m) (hm:∀x,x∈m↔x∈l):m=ordM l:=
 Srt.ext totM hu ordM_up fun x=>by rw [hm,ordM_mem hd]
theorem mksOf_ids {l:List Ch} {w:List Wt} {n:Nat} (h:okLd l):((mksOf l w n).map Mk.id).Nodup:=by
 have h1:=(Srt.chn_up (lt:=ltN) Srt.totNat).1 h.2.2.1
 unfold Srt.Up at h1
 rw [mksOf,List.map_map,List.Nodup,List.pairwise_map]
 exact(h1.sublist List.filter_sublist).imp fun hlt he=>by
  change _<_ at hlt
  change Ch.id _=Ch.id _ at he
  omega
theorem sorted_ord {l:List Mk} {els:List (List C)} (hd:(l.map Mk.id).Nodup) (hp:els.Perm (mks l)) (hs:els.Pairwise fun x y=>¬mkO (Mk.dec y) (Mk.dec x)<0):els=mks (ordM l):=by
 have h1:mks (els.map Mk.dec)=els:=by
  simp only [mks,List.map_map]
  refine(List.map_congr_left fun x hx=> ?_).trans (List.map_id _)
  obtain⟨a,_,rfl⟩:=List.mem_map.1 (hp.mem_iff.1 hx)
  show(Mk.dec a.enc).enc=a.enc
  rw [Mk.dec_enc]
 have h2:(els.map Mk.dec).Perm l:=by
  have:=hp.map Mk.dec
  rwa [show(mks l).map Mk.dec=l from dmks_mks l]at this
 have h3:els.map Mk.dec=ordM l:=by
  refine ordM_eq hd ?_ fun x=>h2.mem_iff
  have hd2:((els.map Mk.dec).map Mk.id).Nodup:=((h2.map Mk.id).nodup_iff).2 hd
  unfold Srt.Up
  rw [List.Nodup,List.pairwise_map]at hd2
  have hs2:(els.map Mk.dec).Pairwise fun x y=>¬mkO y x<0:=by rw [List.pairwise_map];exact hs
  refine hd2.imp₂ ?_ hs2
  intro a b hne hno
  rw [mkO_neg]at hno
  unfold ltM Mk.key at*
  simp only at*
  omega
 rw [←h3,h1]
attribute [go_sem] Tryz.f80
@[go_sem] def c_order:Ct Tryz.prog:=⟨80,arg kChs fun l=>arg kWts fun w=>arg kU64 fun n=>pu (.tup [.sl (u64s (ordL l w n).1), .int .i64 (ordL l w n).2]),arg_ok fun l=>arg_ok fun w=>arg_ok fun n=>ret_ok fun _=>by
 refine run [c_lcheck,c_croom,c_one,c_weigh,c_misnan,c_mnan] Tryz.f80 lv80 fun hT=>vc ?_
 have hcz:chkL l=0↔okLd l:=by unfold chkL;split<;>simp_all
 rw [hcz]
 refine⟨fun hok hl=> ?_,fun hno=>by rw [ordL,chkL,if_neg hno,if_neg hno];exact⟨rfl,rfl⟩⟩
 have hl32:=hok.1
 refine SWp.nilvec 9 2 181 rfl (Nat.zero_le _) ?_
 refine SWp.loop (ι:={i:Nat // i≤l.length}) (fun i=>⟨[(1, .sl (wts w)),(2, .int .u64 n),(9, .vec 0 (mksOf (l.take i.1) w n).length),(23, .sl (chs l)),(24, .int .i64 l.length),(25, .int .i64 i.1)],[(0, .vec true 2 181 (mks (mksOf (l.take i.1) w n)))],1⟩) (fun i=>l.length - i.1) ⟨0,by omega⟩ ?_ ?_
 ·simp [go_sem,mksOf,mks]
 ·rintro⟨i,hi⟩
  refine aw hT lv80 (vc ?_)
  refine⟨fun h=>⟨by omega, ?_⟩,fun h=> ?_⟩
  ·have hi':i<l.length:=by omega
   have hc0:okCh (l.getD i default):=hok.2.1 _ (mem_getD.2 ⟨i,hi',rfl⟩)
   have hst:=mksOf_succ (w:=w) (n:=n) hi'
   have hr0:=roomC_0.2 hc0
   have hone:(oneS (l.getD i default) (weighS w (l.getD i default).id) (fofi n)).2=0:=by rw [oneS,if_pos hc0]
   have hlen:=mksOf_len (l:=l.take i) (w:=w) (n:=n)
   rw [List.length_take]at hlen
   generalize hc:l.getD i default=c at*
   have hskip:elig n c≠true→mksOf (l.take (i+1)) w n=mksOf (l.take i) w n:=fun he=>by rw [hst,if_neg he,List.append_nil]
   refine⟨fun _=>⟨fun hop=>⟨fun hr=> ?_,fun hr=> ?_⟩,fun hop=> ?_⟩,fun hr=>absurd hr0 hr⟩
   ·exact⟨⟨i+1,hi'⟩,by dsimp only;omega,by dsimp only;rw [hskip (by rw [elig];simp;intro _;omega)];exact⟨⟨rfl,i64_in _ (by omega)⟩,rfl⟩⟩
   ·refine dr us80_10 hT (vc ?_)
    have hwm:∀a b,wts [⟨a,b⟩]=mks [⟨a,b⟩]:=fun _ _=>rfl
    have hel:elig n c=true:=by
     simp at hop
     rw [elig,hop];simp;omega
    rw [if_pos hel]at hst
    have hfin:mks (mksOf (l.take i) w n)++wts [⟨c.id,(oneS c (weighS w c.id) (fofi n)).1⟩]=mks (mksOf (l.take (i+1)) w n):=by rw [hwm,mks_app,hst];rfl
    have hnext:∀s,s=(oneS c (weighS w c.id) (fofi n)).1→((mksOf (l.take i) w n).length+1)*16≤140737488355328∧∃i_1:{i:Nat // i≤l.length},l.length - i_1.val<l.length - i∧(D.vec 0 ((mksOf (l.take i) w n).length+1)=D.vec 0 (mksOf (l.take i_1.val) w n).length∧IntKind.i64.wrap ((i:Int)+1)=i_1.val)∧Ob.vec true 2 181 (mks (mksOf (l.take i) w n)++wts [⟨c.id,s⟩])=Ob.vec true 2 181 (mks (mksOf (l.take i_1.val) w n)):=fun s hs=>by
     refine⟨by omega,⟨i+1,hi'⟩,by dsimp only;omega,⟨by dsimp only;rw [hst];simp,i64_in _ (by omega)⟩, ?_⟩
     rw [hs,hfin]
    refine⟨fun _=>⟨fun hnan=>hnext _ ?_,fun _=>hnext _ rfl⟩,fun h=>absurd hone h⟩
    have e1:(oneS c (weighS w c.id) (fofi n)).1=far .mul (weighS w c.id) (far .quo (far .sub (fofi (roomC c).1) (fofi n)) (fofi (sumsC c).2.1)):=by rw [oneS,if_pos hc0]
    rw [e1]at hnan⊢
    exact(far_canon hnan).symm
   ·exact⟨⟨i+1,hi'⟩,by dsimp only;omega,by dsimp only;rw [hskip (by rw [elig];simp at hop;simp [hop])];exact⟨⟨rfl,i64_in _ (by omega)⟩,rfl⟩⟩
  ·have hi':i=l.length:=by omega
   subst hi'
   rw [List.take_length]
   have hlen:=mksOf_len (l:=l) (w:=w) (n:=n)
   have hdec:∀a:Mk,Mk.dec a.enc=a:=Mk.dec_enc
   have hin:∀x∈mks (mksOf l w n),∃a:Mk,x=a.enc:=fun x hx=>by
    obtain⟨a,_,rfl⟩:=List.mem_map.1 hx
    exact⟨a,rfl⟩
   refine ACall.sort Tryz.sortMk (k:=2) (by decide) Tryz.isAgg181 Tryz.sizeOf181 rfl (cf:=fun x y=>mkO (Mk.dec x) (Mk.dec y)) rfl (by simp) (by omega) ?_ ?_ ?_ ?_ ?_
   ·intro x hx y hy
    obtain⟨a,rfl⟩:=hin x hx
    obtain⟨b,rfl⟩:=hin y hy
    rw [hdec,hdec]
    exact mkcmp_ok a b
   ·intro x hx
    rw [mkO_neg];exact totM.irr _
   ·intro x _ y _ z _
    rw [mkO_neg,mkO_neg,mkO_neg];exact totM.tr
   ·intro x _ y _ z _
    rw [mkO_neg,mkO_neg,mkO_neg]
    unfold ltM;omega
   ·intro els' hp hs
    have he:=sorted_ord (mksOf_ids hok) hp hs
    subst he
    have hol:(ordM (mksOf l w n)).length=(mksOf l w n).length:=by
     have:=hp.length_eq
     rwa [mks_length,mks_length]at this
    clear hp hs
    generalize hM:ordM (mksOf l w n)=M at*
    rw [←hol]
    have hml:M.length≤32:=by omega
    refine vc ?_
    refine fun _=>⟨⟨by omega,by omega⟩,fun _=> ?_⟩
    have hz:List.replicate M.length [C.int .u64 0]=u64s (List.replicate M.length 0):=by simp [u64s]
    rw [hz]
    refine SWp.loop (ι:={x:Nat×List Nat // x.1≤M.length∧x.2.length=M.length∧∀j,j<x.1→x.2.getD j default=(M.getD j default).id}) (fun x=>⟨[(15, .vec 1 M.length),(77, .vec 0 M.length),(78, .int .i64 M.length),(79, .int .i64 x.1.1)],
     [(1, .vec true 1 26 (u64s x.1.2)),(0, .vec true 2 181 (mks M))],2⟩) (fun x=>M.length - x.1.1) ⟨(0,List.replicate M.length 0),by simp⟩ ?_ ?_
    ·simp [go_sem]
    ·rintro⟨⟨j,X⟩,hj,hX,hall⟩
     dsimp only at hj hX hall
     refine aw hT lv80 (vc ?_)
     refine⟨fun h2=>⟨by omega,by omega,by omega,⟨hX.symm,by omega⟩,⟨(j+1,X.set j (M.getD j default).id),by dsimp only;omega,by dsimp only;rw [List.length_set];exact hX,fun q hq=> ?_⟩,by dsimp only;omega,i64_in _ (by omega),rfl⟩,fun h2=> ?_⟩
     ·dsimp only at hq⊢
      rw [Srt.set_getD (by omega)]
      by_cases hqj:q=j
      ·rw [if_pos hqj,hqj]
      ·rw [if_neg hqj];exact hall q (by omega)
     ·have hXm:X=M.map Mk.id:=by
       apply List.ext_getElem (by simpa using hX)
       intro q h3 h4
       have:=hall q (by omega)
       rw [getD_lt h3,getD_lt (by omega)]at this
       simpa using this
      rw [ordL,if_pos hok,hM,hXm]
      exact⟨⟨by simp,_,_,_,rfl⟩,rfl⟩⟩
attribute [go_sem] Tryz.f97
@[go_sem] def c_rorder:Ct Tryz.prog:=⟨97,arg kChs fun l=>arg kWts fun w=>arg kU64 fun n=>pu (.tup [.sl (u64s (ordL l w n).1), .int .i64 (ordL l w n).2]),arg_ok fun l=>arg_ok fun w=>arg_ok fun n=>ret_ok fun _=>by
 refine run [c_r10check,c_r9room,c_rone,c_rweigh,c_rfless] Tryz.f97 lv97 fun hT=>vc ?_
 have hcz:chkL l=0↔okLd l:=by unfold chkL;split<;>simp_all
 rw [hcz]
 refine⟨fun hok hl=> ?_,fun hno=>by rw [ordL,if_neg hno];exact⟨rfl,rfl⟩⟩
 have hl32:=hok.1
 refine SWp.nilsl 8 rfl ?_
 refine SWp.nilsl 9 rfl ?_
 refine SWp.loopF [8,9] (ι:={i:Nat // i≤l.length}) (fun i=>⟨[(1, .sl (wts w)),(2, .int .u64 n),(8, .sl (u64s ((ordM (mksOf (l.take i.1) w n)).map Mk.id))),(9, .sl (f64s ((ordM (mksOf (l.take i.1) w n)).map Mk.s))),(20, .sl (chs l)),(21, .int .i64 l.length),(22, .int .i64 i.1)],[],0⟩) (fun i=>l.length - i.1) ⟨0,by omega⟩ ?_ ?_
 ·simp [go_sem,mksOf,ordM,u64s,f64s,St.rep]
 ·rintro⟨i,hi⟩
  refine aw hT lv97 (vc ?_)
  refine⟨fun h=>⟨by omega, ?_⟩,fun h=> ?_⟩
  ·have hi':i<l.length:=by omega
   have hc0:okCh (l.getD i default):=hok.2.1 _ (mem_getD.2 ⟨i,hi',rfl⟩)
   have hst:=mksOf_succ (w:=w) (n:=n) hi'
   have hlen:=mksOf_len (l:=l.take i) (w:=w) (n:=n)
   rw [List.length_take]at hlen
   have hids:=mksOf_ids (w:=w) (n:=n) hok
   generalize hc:l.getD i default=c at*
   have hskip:elig n c≠true→∃i_1:{i:Nat // i≤l.length},l.length - i_1.val<l.length - i∧u64s ((ordM (mksOf (l.take i) w n)).map Mk.id)=u64s ((ordM (mksOf (l.take i_1.val) w n)).map Mk.id)∧f64s ((ordM (mksOf (l.take i) w n)).map Mk.s)=f64s ((ordM (mksOf (l.take i_1.val) w n)).map Mk.s)∧IntKind.i64.wrap ((i:Int)+1)=i_1.val:=fun he=>
    ⟨⟨i+1,hi'⟩,by dsimp only;omega,by dsimp only;rw [hst,if_neg he,List.append_nil],by dsimp only;rw [hst,if_neg he,List.append_nil],i64_in _ (by omega)⟩
   refine⟨fun hop=>⟨fun hr0=>⟨fun hr=>hskip (by rw [elig];simp;intro _;omega),fun hr=> ?_⟩,fun hr=>hskip (by rw [elig];simp;intro _;omega)⟩,fun hop=>hskip (by rw [elig];simp at hop;simp [hop])⟩
   have hel:elig n c=true:=by
    simp at hop
    rw [elig,hop];simp;omega
   rw [if_pos hel]at hst
   refine dr us97_10 hT (vc ?_)
   have hLu:Srt.Up Mk.key ltM (ordM (mksOf (l.take i) w n)):=ordM_up
   have hLn:((mksOf (l.take i) w n).map Mk.id).Nodup:=by
    have h5:mksOf (l.take i) w n<+:mksOf l w n:=by
     unfold mksOf
     exact((List.take_prefix i l).filter _).map _
    exact(h5.sublist.map Mk.id).nodup hids
   have hLm:∀x∈ordM (mksOf (l.take i) w n),x.id<c.id:=fun x hx=>by
    have h5:=(ordM_mem hLn).1 hx
    obtain⟨d,hd,rfl⟩:=List.mem_map.1 h5
    have h6:=(List.mem_filter.1 hd).1
    obtain⟨q,hq,rfl⟩:=mem_getD.1 h6
    rw [List.length_take]at hq
    have h7:=(Srt.up_get).1 ((Srt.chn_up (lt:=ltN) Srt.totNat).1 hok.2.2.1) q i (by omega) hi'
    rw [hc]at h7
    have h8:(l.take i).getD q default=l.getD q default:=by
     simp only [List.getD_eq_getElem?_getD,List.getElem?_take]
     rw [if_pos (by omega)]
    rw [h8]
    exact h7
   have hLl:(ordM (mksOf (l.take i) w n)).length≤32:=by
    have h5:(ordM (mksOf (l.take i) w n)).length≤(mksOf (l.take i) w n).length:=by
     have key:∀(l m:List Mk),(l.foldl (Srt.put Mk.key ltM) m).length≤m.length+l.length:=by
      intro l
      induction l with
      |nil=>intro m;simp
      |cons x l ih=>
       intro m
       have h1:=ih (Srt.put Mk.key ltM m x)
       have h2:(Srt.put Mk.key ltM m x).length≤m.length+1:=by rw [Srt.put_len];split<;>omega
       rw [List.foldl_cons,List.length_cons];omega
     have:=key (mksOf (l.take i) w n) []
     unfold ordM
     simpa using this
    omega
   have hLs:ordM (mksOf (l.take (i+1)) w n)=Srt.put Mk.key ltM (ordM (mksOf (l.take i) w n)) (mkOf w n c):=by rw [hst,ordM,List.foldl_append];rfl
   generalize hL:ordM (mksOf (l.take i) w n)=L at*
   have hms:(mkOf w n c).s=(oneS c (weighS w c.id) (fofi n)).1:=rfl
   have hmi:(mkOf w n c).id=c.id:=rfl
   generalize hm:mkOf w n c=m at*
   rw [←hms]
   refine fun _=>SWp.loop (ι:={k:Nat // k≤L.length∧(k<L.length→fkey (L.getD k default).s<fkey m.s)}) (fun k=>⟨[(1, .sl (wts w)),(2, .int .u64 n),(8, .sl (u64s (L.map Mk.id))),(9, .sl (f64s (L.map Mk.s))),(11, .ref 0 0),(14, .c (.flt .f64 m.s)),(16, .int .i64 k.1),(20, .sl (chs l)),(21, .int .i64 l.length),(22, .int .i64 i)],
    [(0, .box [.int .u64 c.id, .int .u64 c.loc, .int .u64 c.rem, .int .u64 c.res, .int .u64 c.most, .sl (hds c.holds), .bool c.op])],1⟩) (fun k=>k.1) ⟨L.length,by omega,fun h=>absurd h (by omega)⟩ ?_ ?_
   ·simp [go_sem]
   ·rintro⟨k,hk,hk2⟩
    refine aw hT lv97 (vc ?_)
    have hsk:∀q,q<L.length→(L.map Mk.s).getD q (some 0)=(L.getD q default).s:=fun q hq=>by
     rw [List.getD_eq_getElem?_getD,List.getElem?_map,getD_lt hq,List.getElem?_eq_getElem hq];rfl
    have hfin:(0<k→¬fkey (L.getD (k - 1) default).s<fkey m.s)→Srt.put Mk.key ltM L m=L.take k++m::L.drop k:=fun hlast=>by
     have hmid:∀q,q<L.length→(L.getD q default).id<m.id:=fun q hq=>by rw [hmi];exact hLm _ (mem_getD.2 ⟨q,hq,rfl⟩)
     have hp:Srt.pos Mk.key ltM L m.key=k:=by
      refine Srt.pos_eq hk (fun j hj=> ?_) (fun hkl=> ?_)
      ·have h5:ltM (L.getD (k - 1) default).key m.key:=by
        have h6:=hlast (by omega)
        have h7:=hmid (k - 1) (by omega)
        unfold ltM Mk.key;simp only;omega
       by_cases hjk:j=k - 1
       ·rw [hjk];exact h5
       ·exact totM.tr (Srt.up_get.1 hLu j (k - 1) (by omega) (by omega)) h5
      ·have h6:=hk2 hkl
       unfold ltM Mk.key;simp only;omega
     have ht:¬Srt.thr Mk.key ltM L m.key=true:=fun h=>by
      obtain⟨z,hz,he⟩:=(Srt.thr_iff totM hLu).1 h
      have:z.id=m.id:=congrArg Prod.snd he
      have:=hLm z hz
      omega
     rw [Srt.put,if_neg ht,hp];rfl
    have hcons:List.length (L.map Mk.id)=L.length:=by simp
    refine⟨fun h5=>⟨?gB, ?gC,fun h6=> ?_⟩,fun h5=> ?_⟩
    case gB=>rw [i64_in _ (by omega)];simp;omega
    case gC=>
     rw [i64_in _ (by omega),show((k:Int) - 1).toNat=k - 1 by omega,hsk _ (by omega)]
     exact fun h6=>⟨⟨k - 1,by omega,fun _=>of_decide_eq_true h6⟩,by dsimp only;omega,by dsimp only;omega⟩
    all_goals
     have hput:=hfin fun h0=>by
      first
      |(exfalso;omega)
      |(rw [i64_in _ (by omega),show((k:Int) - 1).toNat=k - 1 by omega,hsk _ (by omega)]at h6
        exact of_decide_eq_false h6)
     have hl1:(List.take k (L.map Mk.id)).length=k:=by simp;omega
     have hl2:(List.drop k (L.map Mk.id)).length=L.length - k:=by simp
     have hl3:(List.take k (L.map Mk.s)).length=k:=by simp;omega
     have hl4:(List.drop k (L.map Mk.s)).length=L.length - k:=by simp
     have hcons2:List.length (L.map Mk.s)=L.length:=by simp
     refine dr us97_14 hT (vc ?_)
     rw [hl1,hl2,hcons]
     refine⟨by omega,by omega,by omega,by omega,by omega, ?_⟩
     refine dr us97_15 hT (vc ?_)
     rw [hl1,hl2,hl3,hl4,hcons2]
     refine⟨by omega,by omega,by omega,by omega,by omega,by omega,by omega,⟨i+1,hi'⟩,by dsimp only;omega, ?_, ?_,i64_in _ (by omega)⟩
     ·dsimp only;rw [hLs,hput,List.map_append,List.map_cons,List.map_take,List.map_drop,hmi]
     ·dsimp only;rw [hLs,hput,List.map_append,List.map_cons,List.map_take,List.map_drop]
  ·have hi':i=l.length:=by omega
   subst hi'
   rw [List.take_length,ordL,if_pos hok];exact⟨rfl,rfl⟩⟩
def firstL (l:List Ch) (w:List Wt) (n:Nat):Nat×Int:=if(ordL l w n).2=0 then(match (ordL l w n).1 with
 |[]=>(0,5)
 |x::_=>(x,0))else(0,(ordL l w n).2)
attribute [go_sem] Tryz.f48
@[go_sem] def c_first:Ct Tryz.prog:=⟨48,arg kChs fun l=>arg kWts fun w=>arg kU64 fun n=>pu (.tup [.int .u64 ((firstL l w n).1:Int), .int .i64 (firstL l w n).2]),arg_ok fun l=>arg_ok fun w=>arg_ok fun n=>ret_ok fun _=>by
 refine run [c_order] Tryz.f48 lv48 fun hT=>vc ?_
 unfold firstL
 refine⟨fun h hl=> ?_,fun h=>by rw [if_neg h];exact⟨rfl,rfl⟩⟩
 rw [if_pos h]
 cases (ordL l w n).1 with
 |nil=>exact⟨fun _=>⟨rfl,rfl⟩,fun h=>absurd rfl h⟩
 |cons x t=>exact⟨fun h=>absurd h (by rw [List.length_cons];omega),fun _=>⟨by rw [List.length_cons];omega,rfl,rfl⟩⟩⟩
attribute [go_sem] Tryz.f55
@[go_sem] def c_rfirst:Ct Tryz.prog:=⟨55,arg kChs fun l=>arg kWts fun w=>arg kU64 fun n=>pu (.tup [.int .u64 ((firstL l w n).1:Int), .int .i64 (firstL l w n).2]),arg_ok fun l=>arg_ok fun w=>arg_ok fun n=>ret_ok fun _=>by
 refine run [c_rorder] Tryz.f55 lv55 fun hT=>vc ?_
 unfold firstL
 refine⟨fun h hl=> ?_,fun h=>by rw [if_neg h];exact⟨rfl,rfl⟩⟩
 rw [if_pos h]
 cases (ordL l w n).1 with
 |nil=>exact⟨fun _=>⟨rfl,rfl⟩,fun h=>absurd rfl h⟩
 |cons x t=>exact⟨fun h=>absurd h (by rw [List.length_cons];omega),fun _=>⟨by rw [List.length_cons];omega,rfl,rfl⟩⟩⟩
attribute [go_sem] Tryz.f14
@[go_sem] def c_samenums:Ct Tryz.prog:=⟨14,arg (kSl u64s du64s) fun a=>arg (kSl u64s du64s) fun b=>pu (.bool (decide (a=b))),arg_ok fun a=>arg_ok fun b=>ret_ok fun _=>by
 refine run [] Tryz.f14 lv14 fun hT=>vc ?_
 refine fun ha hb=>⟨fun h _=> ?_,fun h=> ?_⟩
 ·have hl:a.length=b.length:=by omega
  refine SWp.loop (ι:={i:Nat // i≤a.length∧∀j,j<i→a.getD j default=b.getD j default}) (fun i=>⟨[(0, .sl (u64s a)),(1, .sl (u64s b)),(12, .int .i64 a.length),(13, .int .i64 i.1)],[],0⟩) (fun i=>a.length - i.1) ⟨0,by simp⟩ ?_ ?_
  ·simp [go_sem]
  ·rintro⟨i,hi,hall⟩
   refine aw hT lv14 (vc ?_)
   refine⟨fun h1=> ?_,fun h1=> ?_⟩
   ·refine dr us14_6 hT (vc ?_)
    refine⟨by omega,by omega,fun h2=>⟨⟨i+1,by omega,fun j hj=> ?_⟩,by dsimp only;omega,i64_in _ (by omega)⟩,fun h2=> ?_⟩
    ·by_cases hji:j=i
     ·subst hji;omega
     ·exact hall j (by omega)
    ·rw [eq_comm,decide_eq_false_iff_not]
     rintro rfl
     exact h2 rfl
   ·have:a=b:=by
     apply List.ext_getElem hl
     intro q h3 h4
     have:=hall q (by omega)
     rwa [getD_lt h3,getD_lt h4]at this
    rw [decide_eq_true this]
 ·rw [eq_comm,decide_eq_false_iff_not]
  rintro rfl
  exact h rfl⟩
open Go Go.Proofs Go.IntWalk
structure Wl where
 c:List Ch
 w:List Wt
 i:List Iv
 p:List Py
 f:Fd
 next:Nat
 tick:Nat
deriving DecidableEq,Inhabited
@[go_sem] def Wl.enc (e:Wl):List C:=[.sl (chs e.c), .sl (wts e.w), .sl (ivs e.i), .sl (pys e.p), .int .u64 (e.f.next:Int), .sl (evs e.f.l), .int .u64 (e.next:Int), .int .u64 (e.tick:Int)]
@[go_sem] def Wl.dec:List C→Wl
 |[.sl z66, .sl z67, .sl z68, .sl z69, .int .u64 z71, .sl z72, .int .u64 z73, .int .u64 z74]=>(⟨(dchs z66),(dwts z67),(divs z68),(dpys z69),(⟨z71.toNat,(devs z72)⟩:Fd),z73.toNat,z74.toNat⟩:Wl)
 |_=>default
def wls (l:List Wl):List (List C):=l.map Wl.enc
def dwls (l:List (List C)):List Wl:=l.map Wl.dec
abbrev kWl:=kAg Wl.enc Wl.dec
@[simp,go_sem] theorem wls_length (l:List Wl):(wls l).length=l.length:=by simp [wls]
@[go_sem] theorem wls_get (l:List Wl) (i:Nat):(wls l).getD i [.sl [], .sl [], .sl [], .sl [], .int .u64 0, .sl [], .int .u64 0, .int .u64 0]=(l.getD i default).enc:=by
 simp only [wls,List.getD_eq_getElem?_getD,List.getElem?_map]
 cases l[i]? <;>rfl
@[go_sem] theorem wls_wide (l:List Wl):Wide 8 (wls l)=True:=by
 simp [Wide,wls,Wl.enc]
theorem Wl.dec_enc (e:Wl):Wl.dec e.enc=e:=by
 simp [Wl.enc,Wl.dec,dchs_chs,devs_evs,divs_ivs,dpys_pys,dwts_wts]
@[go_sem] theorem dwls_wls (l:List Wl):dwls (wls l)=l:=by
 simp only [dwls,wls,List.map_map]
 exact List.map_id'' (fun e=>Wl.dec_enc e) l
@[go_sem] theorem wls_app (a b:List Wl):wls a++wls b=wls (a++b):=by simp [wls]
@[go_sem] theorem wls_drop (l:List Wl) (k:Nat):(wls l).drop k=wls (l.drop k):=by simp [wls]
@[go_sem] theorem wls_take (l:List Wl) (k:Nat):(wls l).take k=wls (l.take k):=by simp [wls]
@[go_sem] theorem wls_one (z75:List Ch) (z76:List Wt) (z77:List Iv) (z78:List Py) (z79:Int) (z80:List Ev) (z81:Int) (z82:Int) (hz79:0≤z79) (hz81:0≤z81) (hz82:0≤z82):[[C.sl (chs z75),C.sl (wts z76),C.sl (ivs z77),C.sl (pys z78),C.int .u64 z79,C.sl (evs z80),C.int .u64 z81,C.int .u64 z82]]=wls [⟨z75,z76,z77,z78,⟨z79.toNat,z80⟩,z81.toNat,z82.toNat⟩]:=by simp [wls,Wl.enc,Int.toNat_of_nonneg hz79,Int.toNat_of_nonneg hz81,Int.toNat_of_nonneg hz82]
@[go_sem] theorem wls_set (l:List Wl) (i:Nat) (z75:List Ch) (z76:List Wt) (z77:List Iv) (z78:List Py) (z79:Int) (z80:List Ev) (z81:Int) (z82:Int) (hz79:0≤z79) (hz81:0≤z81) (hz82:0≤z82):(wls l).set i [C.sl (chs z75),C.sl (wts z76),C.sl (ivs z77),C.sl (pys z78),C.int .u64 z79,C.sl (evs z80),C.int .u64 z81,C.int .u64 z82]=wls (l.set i ⟨z75,z76,z77,z78,⟨z79.toNat,z80⟩,z81.toNat,z82.toNat⟩):=by simp [wls,List.map_set,Wl.enc,Int.toNat_of_nonneg hz79,Int.toNat_of_nonneg hz81,Int.toNat_of_nonneg hz82]
@[go_sem] theorem wls_cons (l:List Wl) (z75:List Ch) (z76:List Wt) (z77:List Iv) (z78:List Py) (z79:Int) (z80:List Ev) (z81:Int) (z82:Int) (hz79:0≤z79) (hz81:0≤z81) (hz82:0≤z82):[C.sl (chs z75),C.sl (wts z76),C.sl (ivs z77),C.sl (pys z78),C.int .u64 z79,C.sl (evs z80),C.int .u64 z81,C.int .u64 z82]::wls l=wls (⟨z75,z76,z77,z78,⟨z79.toNat,z80⟩,z81.toNat,z82.toNat⟩::l):=by simp [wls,Wl.enc,Int.toNat_of_nonneg hz79,Int.toNat_of_nonneg hz81,Int.toNat_of_nonneg hz82]
@[go_sem] theorem Wl.eta {e:Wl}:(⟨e.c,e.w,e.i,e.p,e.f,e.next,e.tick⟩:Wl)=e:=rfl
def okW (w:Wl):Prop:=okLd w.c∧okIv w.i∧okFd w.f∧w.w.length≤32∧w.next≠0∧w.next≤MM∧(0<w.p.length→(w.p.getD (w.p.length - 1) default).id<w.next)∧agrL w.p w.c=(true,0)
instance (w:Wl):Decidable (okW w):=by unfold okW;infer_instance
def chkW (w:Wl):Int:=if okW w then 0 else 1
theorem chkW_0 {w:Wl}:chkW w=0↔okW w:=by unfold chkW;split<;>rename_i h<;>simp only [h]<;>decide
attribute [go_sem] Tryz.f17
@[go_sem] def c_wnew:Ct Tryz.prog:=⟨17,pu (.agg [.sl (chs []), .sl (wts []), .sl (ivs []), .sl (pys []), .int .u64 1, .sl (evs []), .int .u64 1, .int .u64 0]),ret_ok fun _=>by
 refine run [c_fnew] Tryz.f17 lv17 fun hT=>vc ?_
 exact⟨rfl,rfl,rfl,rfl⟩⟩
attribute [go_sem] Tryz.f68
@[go_sem] def c_wcheck:Ct Tryz.prog:=⟨68,arg kWl fun w=>ret (w.f.next≤18446744073709551615) (.int .i64 (chkW w)) [],arg_ok fun w=>ret_ok fun h=>by
 refine run [c_lcheck,c_icheck,c_fcheck,c_pagree] Tryz.f68 lv68 fun hT=>vc ?_
 have hbad:¬okW w→1=chkW w:=fun h=>by rw [chkW,if_neg h]
 have hl0:chkL w.c=0↔okLd w.c:=by unfold chkL;split<;>rename_i h<;>simp only [h]<;>decide
 have hi0:chkI w.i=0↔okIv w.i:=by unfold chkI;split<;>rename_i h<;>simp only [h]<;>decide
 refine⟨fun h1=>⟨fun h2=>⟨h,fun h3 _=>⟨fun h4=>⟨fun h5=>⟨fun h6=>hbad fun ho=> ?_,fun h6 _=> ?_⟩,fun h5=>hbad fun ho=> ?_⟩,fun h4=>hbad fun ho=> ?_⟩,fun h3=>hbad fun ho=>h3 (chkF_0.2 ho.2.2.1)⟩,fun h2=>hbad fun ho=>h2 (hi0.2 ho.2.1)⟩,fun h1=>hbad fun ho=>h1 (hl0.2 ho.1)⟩
 rotate_left 1
 ·refine dr us68_4 hT (vc ?_)
  have hL:=hl0.1 h1
  have hh:∀c∈w.c,c.holds.length≤1000000:=fun c hc=>by have:=(hL.2.1 c hc).2.2.1;omega
  have hfin:(0<w.p.length→(w.p.getD (w.p.length - 1) default).id<w.next)→((agrL w.p w.c).2=0→((agrL w.p w.c).1=true→0=chkW w)∧((agrL w.p w.c).1=false→1=chkW w))∧(¬(agrL w.p w.c).2=0→1=chkW w):=fun h7=>
   ⟨fun h8=>⟨fun h9=>by
    rw [chkW,if_pos (show okW w from⟨hL,hi0.1 h2,chkF_0.1 h3,by omega,by omega,by unfold MM;omega,h7,Prod.ext h9 h8⟩)],fun h9=>hbad fun ho=>by have:=ho.2.2.2.2.2.2.2;rw [this]at h9;cases h9⟩,
    fun h8=>hbad fun ho=>by have:=ho.2.2.2.2.2.2.2;rw [this]at h8;exact h8 rfl⟩
  refine⟨fun h7=> ?_,fun h7=>⟨hh,hfin fun h=>absurd h (by omega)⟩⟩
  rw [i64_in _ (by omega),show((w.p.length:Int) - 1).toNat=w.p.length - 1 by omega]
  refine⟨by omega,fun h8=>hbad fun ho=> ?_,fun h8=>⟨hh,hfin fun _=>by omega⟩⟩
  have:=ho.2.2.2.2.2.2.1 (by omega);omega
 ·have:=ho.2.2.2.2.1;omega
 ·have:=ho.2.2.2.1;omega
 ·have:=ho.2.2.2.2.2.1;unfold MM at this;omega⟩
open Go Go.Proofs Go.IntWalk
@[go_sem] def pins_T2:Tab:=[ovk 137]
theorem pins_T2_ok:TabOk Tryz.prog pins_T2:= .cons (ov_ok 137) .nil
@[go_sem] def pins_T3:Tab:=[fg 12]
theorem pins_T3_ok:TabOk Tryz.prog pins_T3:= .cons (fg_ok 12) .nil
theorem pins_wide (l:List Py):Wide 5 (pys l):=of_eq_true (pys_wide l)
theorem pins_ok (l:List Py) (x:Py) (i:Nat) (hi:i≤l.length) (hl:l.length≤1000000):
 ACall Tryz.prog 87 [.vec 0 l.length, .int .i64 i, .vec 1 1] [(1, .vec true 5 98 (pys [x])),(0, .vec true 5 98 (pys l))] 2 fun d os _=>Grown 5 98 (pys (Srt.ins l i x)) d os:=by
 have hil:(Srt.ins l i x).length=l.length+1:=Srt.ins_len
 have hq:∀j os,lk j os=some (.vec true 5 98 (pys (Srt.ins l i x)))→Grown 5 98 (pys (Srt.ins l i x)) (.vec j (l.length+1)) os:=fun j os h=>⟨j,by rw [pys_length,hil],h⟩
 by_cases hin:i=l.length
 ·refine ac87 pins_T3_ok (Nat.le_of_ble_eq_true rfl) ?_
  have e4:((1:Int)=0)=False:=eq_false (by decide)
  subst hin
  simp -implicitDefEqProofs only [cdA,go_sem,Go.Proofs.Tryz.f87,e4,decide_true,reduceIte,reduceCtorEq,Nat.reduceEqDiff,Nat.reduceAdd,Nat.reduceLeDiff,Nat.reduceSub,Nat.reduceMul,Nat.reduceLT,Nat.reduceShiftRight,Nat.reduceMod,Int.reduceLE,Int.reduceLT,Int.reduceToNat,List.cons.injEq,cdB]
  refine⟨Int.le_refl _,fun h=>h.elim,fun _=>⟨by omega,hq _ _ ?_⟩⟩
  rw [lk_cons,if_neg (by decide),lk_hd]
  simp [Srt.ins]
 ·have hlt:i<l.length:=by omega
  refine ACall.opn 0 rfl (by rw [pys_length];omega) fun c hc hcm=> ?_
  refine ACall.sld ?_
  rw [pys_length]at hc
  refine ac87 pins_T2_ok (Nat.le_of_ble_eq_true rfl) ?_
  have e1:IntKind.i64.wrap ((l.length:Int)+1)=((l.length+1:Nat):Int):=by rw [i64_in _ (by omega)];omega
  have e2:IntKind.i64.wrap ((i:Int)+1)=((i+1:Nat):Int):=by rw [i64_in _ (by omega)];omega
  have e3:((i:Int)=(l.length:Int))=False:=eq_false (by omega)
  have e4:((1:Int)=0)=False:=eq_false (by decide)
  have e5:IntKind.i64.wrap ((l.length:Int)+1 - (i:Int))=((l.length+1 - i:Nat):Int):=by rw [i64_in _ (by omega)];omega
  have e6:((l.length:Int)+1).toNat=l.length+1:=by omega
  have e7:((i:Int)+1).toNat=i+1:=by omega
  have e8:i+(l.length+1 - i)=l.length+1:=by omega
  simp -implicitDefEqProofs only [cdA,go_sem,Go.Proofs.Tryz.f87,e3,e4,e1,e2,e5,e6,e7,e8,decide_false,reduceIte,reduceCtorEq,Nat.reduceEqDiff,Nat.reduceAdd,Nat.reduceLeDiff,Nat.reduceSub,Nat.reduceMul,Nat.reduceLT,Nat.reduceShiftRight,Nat.reduceMod,Int.reduceLE,Int.reduceLT,Int.reduceToNat,List.cons.injEq,cdB]
  refine⟨by omega,fun _=>⟨fun h1=>⟨by omega,by omega,fun c1 h2 h3=>⟨by omega, ?_⟩⟩,fun h1=>⟨by omega,by omega, ?_, ?_⟩⟩⟩
  ·refine ADraw.run us87_11 pins_T2_ok follows_mixed (by kernel_rfl) (by kernel_rfl) ?_
   simp -implicitDefEqProofs only [cdA,go_sem,e1,e2,e5,e6,e7,e8,reduceIte,reduceCtorEq,Nat.reduceEqDiff,Nat.reduceAdd,Nat.reduceLeDiff,Nat.reduceSub,Nat.reduceMul,Nat.reduceLT,Nat.reduceShiftRight,Nat.reduceMod,Int.reduceLE,Int.reduceLT,Int.reduceToNat,List.cons.injEq,cdB]
   refine⟨by omega,by omega,fun y hy=>fit_wide (pins_wide l) y (List.mem_of_mem_take (List.mem_of_mem_drop hy)), ?_⟩
   have:=ins_new (sz:=5) (c:=c) (c1:=c1) (i:=i) (E:=pys l) (x:=x.enc) (z:=[C.int .u64 0,C.int .u64 0,C.int .u64 0,C.int .u64 0,C.int .i64 0]) (by rw [pys_length];exact hlt) (by rw [pys_length];exact hc) (by rw [pys_length];exact h2)
   rw [pys_length]at this
   refine hq _ _ ?_
   rw [lk_hd]
   congr 2
   rw [show pys (List.take (l.length+1 - i) [x])=List.take (l.length+1 - i) [x.enc] by simp [pys],this]
   simp [pys,Srt.ins]
  ·exact⟨_,25,4,_,rfl,rfl,rfl,rfl,by kernel_rfl,elOf_25⟩
  ·refine ADraw.run us87_15 pins_T2_ok follows_mixed (by kernel_rfl) (by kernel_rfl) ?_
   simp -implicitDefEqProofs only [cdA,go_sem,e1,e2,e5,e6,e7,e8,reduceIte,reduceCtorEq,Nat.reduceEqDiff,Nat.reduceAdd,Nat.reduceLeDiff,Nat.reduceSub,Nat.reduceMul,Nat.reduceLT,Nat.reduceShiftRight,Nat.reduceMod,Int.reduceLE,Int.reduceLT,Int.reduceToNat,List.cons.injEq,cdB]
   refine⟨by omega,by omega,fun y hy=>fit_wide (pins_wide l) y (List.mem_of_mem_take (List.mem_of_mem_drop hy)),by omega, ?_⟩
   have:=ins_old (sz:=5) (c:=c) (i:=i) (E:=pys l) (x:=x.enc) (by rw [pys_length];exact hlt) (by rw [pys_length];omega)
   rw [pys_length]at this
   refine hq _ _ ?_
   rw [lk_hd]
   congr 2
   rw [show pys (List.take (l.length+1 - i) [x])=List.take (l.length+1 - i) [x.enc] by simp [pys],this]
   simp [pys,Srt.ins]
attribute [go_sem] Tryz.f83
@[go_sem] def c_pclone:Ct Tryz.prog:=⟨83,arg kPys fun l=>ret (l.length≤1000000) (.vec 0 l.length) ([(5,98,true,pys l)]),arg_ok fun l=>retF_ok fun hl=>by
 refine runF [] Tryz.f83 lv83 fun hT=>vc ?_
 refine fun b hb=>⟨fun h=> ?_,fun h=> ?_⟩
 ·exact⟨[none],by simp [go_sem,hb h],by cases l<;>simp_all [go_sem,pys]⟩
 ·exact⟨by omega,[some 0],by simp [go_sem]⟩⟩
theorem del_old {c z i:Nat} {E Z:List (List C)} (hi:i<E.length) (hc:E.length≤c):
 (fit c z ((fit c z ((fit c z E).take i++(E.drop (i+1)++(fit c z E).drop (i+(E.drop (i+1)).length)))).take (i+(E.drop (i+1)).length)++Z)).take (i+(E.drop (i+1)).length)=E.eraseIdx i:=by
 have hD:(E.drop (i+1)).length=E.length - (i+1):=List.length_drop
 have hF:(fit c z E).length=c:=fit_length _ _ _
 have h1:((fit c z E).take i++(E.drop (i+1)++(fit c z E).drop (i+(E.drop (i+1)).length))).length=c:=by
  simp only [List.length_append,List.length_take,List.length_drop,hF];omega
 rw [fit_take (by rw [List.length_append,List.length_take,fit_length];omega) (by omega),List.take_append_of_le_length (by rw [List.length_take,fit_length];omega),List.take_take,Nat.min_self,
  fit_take (by omega) (by omega),←List.append_assoc,fit_take (by omega) (by omega),List.take_append_of_le_length (by rw [List.length_append,List.length_take];omega),List.eraseIdx_eq_take_drop_succ]
 rw [List.take_of_length_le (by rw [List.length_append,List.length_take];omega)]
theorem pys_erase (l:List Py) (i:Nat):(pys l).eraseIdx i=pys (l.eraseIdx i):=by
 simp [pys,List.eraseIdx_eq_take_drop_succ]
def idle (l:List Py):Option Nat:=l.findIdx? fun p=>decide (p.state≠1)
def startP (l:List Py) (p:Py):List Py×Int:=
 if¬okPy l∨¬okPy1 p∨p.state≠1 then([],1)else if Srt.thr Py.id ltN l p.id=true then([],6)else if l.length=256 then(match idle l with
  |none=>([],7)
  |some k=>(Srt.ins (l.eraseIdx k) (if k<Srt.pos Py.id ltN l p.id then Srt.pos Py.id ltN l p.id - 1 else Srt.pos Py.id ltN l p.id) p,0))
 else(Srt.ins l (Srt.pos Py.id ltN l p.id) p,0)
attribute [go_sem] Tryz.f51 Tryz.f84 Tryz.f85 Tryz.f86
@[go_sem] def c_pstart:Ct Tryz.prog:=⟨51,arg kPys fun l=>arg kPy fun p=>pu (.tup [.sl (pys (startP l p).1), .int .i64 (startP l p).2]),arg_ok fun l=>arg_ok fun p=>ret_ok fun _=>by
 refine run [c_pfind,c_pmay,c_pclone,fgC 13] Tryz.f51 lv51 fun hT=>vc ?_
 have hbad:(¬okPy l∨¬okPy1 p∨p.state≠1)→pys (startP l p).1=[]∧1=(startP l p).2:=fun h=>by rw [startP,if_pos h];exact⟨rfl,rfl⟩
 by_cases hok:okPy l
 rotate_left 1
 ·have e:findP l p.id=(0,1):=by rw [findP,if_neg hok]
  rw [e]
  exact⟨fun h=>absurd rfl h,fun _=>hbad (.inl hok)⟩
 have e:findP l p.id=(((Srt.pos Py.id ltN l p.id:Nat):Int),if Srt.thr Py.id ltN l p.id=true then 0 else 5):=by rw [findP,if_pos hok]
 have h256:=hok.1
 rw [e]
 refine⟨fun _=>⟨fun h1=>⟨fun h2=> ?_,fun h2=>hbad (.inr (.inr h2))⟩,fun h1=>hbad (.inr (.inl h1))⟩,fun h=>by dsimp only at h;split at h<;>cases h⟩
 have hA:¬(¬okPy l∨¬okPy1 p∨p.state≠1):=by rintro(h|h|h)<;>first|exact h hok|exact h h1|exact h h2
 by_cases ht:Srt.thr Py.id ltN l p.id=true
 ·rw [if_pos ht]
  exact⟨fun _=>by rw [startP,if_neg hA,if_pos ht];exact⟨rfl,rfl⟩,fun h=>absurd rfl h⟩
 rw [if_neg ht]
 refine⟨fun h=>absurd h (by dsimp only;decide),fun _=>⟨by omega,fun _=>⟨fun h3=> ?_,fun h3=> ?_⟩⟩⟩
 ·skip
  refine cl hT Tryz.f84 lv84 (vc ?_)
  refine fun _=>SWp.loop (ι:={i:Nat // i≤l.length∧∀j,j<i→(l.getD j default).state=1}) (fun i=>⟨[(0, .vec 1 l.length),(1, .fn (.func 85) [] []),(7, .int .i64 l.length),(8, .int .i64 i.1)],
   [(1, .vec true 5 98 (pys l)),(0, .box [.c (.int .u64 p.id), .c (.int .u64 p.hash), .c (.int .u64 p.chan), .c (.int .u64 p.n), .c (.int .i64 p.state)])],2⟩) (fun i=>l.length - i.1) ⟨0,by simp⟩ ?_ ?_
  ·simp [go_sem]
  ·rintro⟨i,hi,hall⟩
   refine aw hT lv84 (vc ?_)
   refine⟨fun h4=>⟨by omega,by omega, ?_⟩,fun h4=> ?_⟩
   ·skip
    refine cl hT Tryz.f85 lv85 (vc ?_)
    refine⟨fun h5=>⟨⟨i+1,by omega,fun j hj=> ?_⟩,by dsimp only;omega,i64_in _ (by omega)⟩,fun h5=>⟨fun h6=>by omega,fun _=> ?_⟩⟩
    ·by_cases hji:j=i
     ·subst hji;exact h5
     ·exact hall j (by omega)
    ·have hi':i<l.length:=by omega
     have hidle:idle l=some i:=by
      refine List.findIdx?_eq_some_iff_getElem.2 ⟨hi', ?_,fun j hj=> ?_⟩
      ·rw [←getD_lt hi'];exact decide_eq_true h5
      ·rw [←getD_lt (by omega)];simpa using hall j hj
     rw [i64_in _ (by omega)]
     refine ACall.opn 1 rfl (by rw [pys_length];omega) fun c hc hcm=> ?_
     refine ACall.sld ?_
     rw [pys_length]at hc
     refine cl hT Tryz.f86 lv86 (vc ?_)
     refine fun _=>⟨⟨by omega,by omega,by omega⟩,fun h=>absurd h (by omega),fun _ _=> ?_⟩
     refine dr us86_5 hT (vc ?_)
     have eF:List.take l.length (fit c 5 (pys l))=pys l:=by rw [fit_take (by rw [pys_length];exact Nat.le_refl _) hc,List.take_of_length_le (by rw [pys_length];exact Nat.le_refl _)]
     have e2:((i:Int)+1).toNat=i+1:=by omega
     rw [eF,e2]
     have hD:((pys l).drop (i+1)).length=l.length - (i+1):=by rw [List.length_drop,pys_length]
     have e3:((i:Int)+(((pys l).drop (i+1)).length:Int)).toNat=i+((pys l).drop (i+1)).length:=by omega
     simp only [e3]
     have hE:∀Z:List (List C),(fit c 5 ((fit c 5 ((fit c 5 (pys l)).take i++((pys l).drop (i+1)++(fit c 5 (pys l)).drop (i+((pys l).drop (i+1)).length)))).take (i+((pys l).drop (i+1)).length)++Z)).take (i+((pys l).drop (i+1)).length)=pys (l.eraseIdx i):=fun Z=>by
      rw [del_old (by rw [pys_length];exact hi') (by rw [pys_length];exact hc),pys_erase]
     rw [hE,hD]
     have hl1:i+(l.length - (i+1))=(l.eraseIdx i).length:=by rw [List.length_eraseIdx_of_lt hi'];omega
     rw [hl1]
     have hl2:(l.eraseIdx i).length=l.length - 1:=List.length_eraseIdx_of_lt hi'
     have hpl:Srt.pos Py.id ltN l p.id≤l.length:=Srt.pos_le
     refine⟨by omega,⟨by omega,by omega⟩,⟨fun x hx=> ?_,by omega⟩,fun _=>⟨⟨by omega,by omega,by omega⟩,fun h7=> ?_,fun h7=> ?_⟩⟩
     ·exact(of_eq_true (pys_wide l)) x (List.mem_of_mem_drop hx)
     ·rw [i64_in _ (by omega),show((Srt.pos Py.id ltN l p.id:Nat):Int) - 1=((Srt.pos Py.id ltN l p.id - 1:Nat):Int) by omega]
      refine ACall.grow (mid:=[.int .i64 _]) (pins_ok (l.eraseIdx i) p (Srt.pos Py.id ltN l p.id - 1) (by omega) (by omega)) rfl rfl (by decide) (by simp [Srt.ins_len]) (fun d hd g g' w v hv=> ?_) ?_
      ·simp at hd;subst hd
       cases hv with
       |c _ _ h=>cases h;exact .c _ _ (.int _ _)
      ·refine vc ?_
       rw [startP,if_neg hA,if_neg ht,if_pos (by omega),hidle]
       dsimp only
       rw [if_pos (by omega)]
       exact⟨⟨rfl,_,_,_,rfl⟩,rfl⟩
     ·refine ACall.grow (mid:=[.int .i64 _]) (pins_ok (l.eraseIdx i) p (Srt.pos Py.id ltN l p.id) (by omega) (by omega)) rfl rfl (by decide) (by simp [Srt.ins_len]) (fun d hd g g' w v hv=> ?_) ?_
      ·simp at hd;subst hd
       cases hv with
       |c _ _ h=>cases h;exact .c _ _ (.int _ _)
      ·refine vc ?_
       rw [startP,if_neg hA,if_neg ht,if_pos (by omega),hidle]
       dsimp only
       rw [if_neg (by omega)]
       exact⟨⟨rfl,_,_,_,rfl⟩,rfl⟩
   ·have:idle l=none:=by
     refine List.findIdx?_eq_none_iff.2 fun x hx=> ?_
     obtain⟨j,hj,rfl⟩:=mem_getD.1 hx
     simpa using hall j (by omega)
    rw [startP,if_neg hA,if_neg ht,if_pos (by omega),this]
    exact⟨rfl,rfl⟩
 ·have hpos:Srt.pos Py.id ltN l p.id≤l.length:=Srt.pos_le
  refine ACall.grow (mid:=[.int .i64 _]) (pins_ok l p (Srt.pos Py.id ltN l p.id) hpos (by omega)) rfl rfl (by decide) (by simp [Srt.ins_len]) (fun d hd g g' w v hv=> ?_) ?_
  ·simp at hd;subst hd
   cases hv with
   |c _ _ h=>cases h;exact .c _ _ (.int _ _)
  ·refine vc ?_
   rw [startP,if_neg hA,if_neg ht,if_neg (by omega)]
   exact⟨⟨rfl,_,_,_,rfl⟩,rfl⟩⟩
open Go Go.Proofs Go.IntWalk
attribute [go_sem] Tryz.f123
@[go_sem] def c_wtclone:Ct Tryz.prog:=⟨123,arg kWts fun l=>ret (l.length≤1000000) (.sl (wts l)) [],arg_ok fun l=>ret_ok fun h=>by
 refine run [] Tryz.f123 lv123 fun hT=>vc ?_
 exact fun b hb=>⟨hb,fun _=>⟨by omega,_,_,_,rfl⟩⟩⟩
attribute [go_sem] Tryz.f124
@[go_sem] def c_ivclone:Ct Tryz.prog:=⟨124,arg kIvs fun l=>ret (l.length≤1000000) (.sl (ivs l)) [],arg_ok fun l=>ret_ok fun h=>by
 refine run [] Tryz.f124 lv124 fun hT=>vc ?_
 exact fun b hb=>⟨hb,fun _=>⟨by omega,_,_,_,rfl⟩⟩⟩
attribute [go_sem] Tryz.f83
@[go_sem] def c_pyclone:Ct Tryz.prog:=⟨83,arg kPys fun l=>ret (l.length≤1000000) (.sl (pys l)) [],arg_ok fun l=>ret_ok fun h=>by
 refine run [] Tryz.f83 lv83 fun hT=>vc ?_
 exact fun b hb=>⟨hb,fun _=>⟨by omega,_,_,_,rfl⟩⟩⟩
attribute [go_sem] Tryz.f122
@[go_sem] def c_evclonep:Ct Tryz.prog:=⟨122,arg kEvs fun l=>ret (l.length≤1000000) (.sl (evs l)) [],arg_ok fun l=>ret_ok fun h=>by
 refine run [] Tryz.f122 lv122 fun hT=>vc ?_
 exact fun b hb=>⟨hb,fun _=>⟨by omega,_,_,_,rfl⟩⟩⟩
def smallW (w:Wl):Prop:=w.c.length≤1000000∧(∀c∈w.c,c.holds.length≤1000000)∧w.w.length≤1000000∧w.i.length≤1000000∧w.p.length≤1000000∧w.f.l.length≤1000000
attribute [go_sem] Tryz.f79
@[go_sem] def c_wown:Ct Tryz.prog:=⟨79,arg kWl fun w=>ret (smallW w) (.agg [.sl (chs w.c), .sl (wts w.w), .sl (ivs w.i), .sl (pys w.p), .int .u64 w.f.next, .sl (evs w.f.l), .int .u64 w.next, .int .u64 w.tick]) [],arg_ok fun w=>ret_ok fun h=>by
 refine run [c_cclone,c_hclone,c_wtclone,c_ivclone,c_pyclone,c_evclonep] Tryz.f79 lv79 fun hT=>vc ?_
 refine dr us79_1 hT (vc ?_)
 obtain⟨h1,h2,h3,h4,h5,h6⟩:=h
 refine⟨h1,h3,h4,h5,h6,fun _=>SWp.loop (ι:={i:Nat // i≤w.c.length}) (fun i=>⟨[(1, .ref 0 0),(2, .ref 1 0),(28, .vec 2 w.c.length),(29, .int .i64 w.c.length),(30, .int .i64 i.1)],
  [(2, .vec true 7 53 (chs w.c)),(0, .box [.vec 2 w.c.length, .sl (wts w.w), .sl (ivs w.i), .sl (pys w.p), .c (.int .u64 w.f.next), .sl (evs w.f.l), .c (.int .u64 w.next), .c (.int .u64 w.tick)]),
    (1, .box [.nil, .nil, .nil, .nil, .c (.int .u64 0), .nil, .c (.int .u64 0), .c (.int .u64 0)])],3⟩) (fun i=>w.c.length - i.1) ⟨0,by omega⟩ ?_ ?_⟩
 ·simp [go_sem]
 ·rintro⟨i,hi⟩
  refine aw hT lv79 (vc ?_)
  refine⟨fun h7=>⟨by omega,by omega, ?_⟩,fun _=>⟨_,_,_,rfl⟩⟩
  have hi':i<w.c.length:=by omega
  have hself:w.c.set i (w.c.getD i default)=w.c:=by
   rw [getD_lt hi'];exact List.set_getElem_self hi'
  have hhl:=h2 _ (mem_getD.2 ⟨i,hi',rfl⟩)
  refine dr us79_5 hT (vc ?_)
  exact⟨hhl,by omega,hi',⟨i+1,hi'⟩,by dsimp only;omega,i64_in _ (by omega),by rw [hself]⟩⟩
open Go Go.Proofs Go.IntWalk
@[go_sem] def hins_T2:Tab:=[ovk 167]
theorem hins_T2_ok:TabOk Tryz.prog hins_T2:= .cons (ov_ok 167) .nil
@[go_sem] def hins_T3:Tab:=[fg 12]
theorem hins_T3_ok:TabOk Tryz.prog hins_T3:= .cons (fg_ok 12) .nil
theorem hins_wide (l:List Hd):Wide 2 (hds l):=of_eq_true (hds_wide l)
theorem hins_ok (l:List Hd) (x:Hd) (i:Nat) (hi:i≤l.length) (hl:l.length≤1000000):
 ACall Tryz.prog 142 [.vec 0 l.length, .int .i64 i, .vec 1 1] [(1, .vec true 2 157 (hds [x])),(0, .vec true 2 157 (hds l))] 2 fun d os _=>Grown 2 157 (hds (Srt.ins l i x)) d os:=by
 have hil:(Srt.ins l i x).length=l.length+1:=Srt.ins_len
 have hq:∀j os,lk j os=some (.vec true 2 157 (hds (Srt.ins l i x)))→Grown 2 157 (hds (Srt.ins l i x)) (.vec j (l.length+1)) os:=fun j os h=>⟨j,by rw [hds_length,hil],h⟩
 by_cases hin:i=l.length
 ·refine ac142 hins_T3_ok (Nat.le_of_ble_eq_true rfl) ?_
  have e4:((1:Int)=0)=False:=eq_false (by decide)
  subst hin
  simp -implicitDefEqProofs only [cdA,go_sem,Go.Proofs.Tryz.f142,e4,decide_true,reduceIte,reduceCtorEq,Nat.reduceEqDiff,Nat.reduceAdd,Nat.reduceLeDiff,Nat.reduceSub,Nat.reduceMul,Nat.reduceLT,Nat.reduceShiftRight,Nat.reduceMod,Int.reduceLE,Int.reduceLT,Int.reduceToNat,List.cons.injEq,cdB]
  refine⟨Int.le_refl _,fun h=>h.elim,fun _=>⟨by omega,hq _ _ ?_⟩⟩
  rw [lk_cons,if_neg (by decide),lk_hd]
  simp [Srt.ins]
 ·have hlt:i<l.length:=by omega
  refine ACall.opn 0 rfl (by rw [hds_length];omega) fun c hc hcm=> ?_
  refine ACall.sld ?_
  rw [hds_length]at hc
  refine ac142 hins_T2_ok (Nat.le_of_ble_eq_true rfl) ?_
  have e1:IntKind.i64.wrap ((l.length:Int)+1)=((l.length+1:Nat):Int):=by rw [i64_in _ (by omega)];omega
  have e2:IntKind.i64.wrap ((i:Int)+1)=((i+1:Nat):Int):=by rw [i64_in _ (by omega)];omega
  have e3:((i:Int)=(l.length:Int))=False:=eq_false (by omega)
  have e4:((1:Int)=0)=False:=eq_false (by decide)
  have e5:IntKind.i64.wrap ((l.length:Int)+1 - (i:Int))=((l.length+1 - i:Nat):Int):=by rw [i64_in _ (by omega)];omega
  have e6:((l.length:Int)+1).toNat=l.length+1:=by omega
  have e7:((i:Int)+1).toNat=i+1:=by omega
  have e8:i+(l.length+1 - i)=l.length+1:=by omega
  simp -implicitDefEqProofs only [cdA,go_sem,Go.Proofs.Tryz.f142,e3,e4,e1,e2,e5,e6,e7,e8,decide_false,reduceIte,reduceCtorEq,Nat.reduceEqDiff,Nat.reduceAdd,Nat.reduceLeDiff,Nat.reduceSub,Nat.reduceMul,Nat.reduceLT,Nat.reduceShiftRight,Nat.reduceMod,Int.reduceLE,Int.reduceLT,Int.reduceToNat,List.cons.injEq,cdB]
  refine⟨by omega,fun _=>⟨fun h1=>⟨by omega,by omega,fun c1 h2 h3=>⟨by omega, ?_⟩⟩,fun h1=>⟨by omega,by omega, ?_, ?_⟩⟩⟩
  ·refine ADraw.run us142_11 hins_T2_ok follows_mixed (by kernel_rfl) (by kernel_rfl) ?_
   simp -implicitDefEqProofs only [cdA,go_sem,e1,e2,e5,e6,e7,e8,reduceIte,reduceCtorEq,Nat.reduceEqDiff,Nat.reduceAdd,Nat.reduceLeDiff,Nat.reduceSub,Nat.reduceMul,Nat.reduceLT,Nat.reduceShiftRight,Nat.reduceMod,Int.reduceLE,Int.reduceLT,Int.reduceToNat,List.cons.injEq,cdB]
   refine⟨by omega,by omega,fun y hy=>fit_wide (hins_wide l) y (List.mem_of_mem_take (List.mem_of_mem_drop hy)), ?_⟩
   have:=ins_new (sz:=2) (c:=c) (c1:=c1) (i:=i) (E:=hds l) (x:=x.enc) (z:=[C.int .u64 0,C.int .u64 0]) (by rw [hds_length];exact hlt) (by rw [hds_length];exact hc) (by rw [hds_length];exact h2)
   rw [hds_length]at this
   refine hq _ _ ?_
   rw [lk_hd]
   congr 2
   rw [show hds (List.take (l.length+1 - i) [x])=List.take (l.length+1 - i) [x.enc] by simp [hds],this]
   simp [hds,Srt.ins]
  ·exact⟨_,51,4,_,rfl,rfl,rfl,rfl,by kernel_rfl,elOf_51⟩
  ·refine ADraw.run us142_15 hins_T2_ok follows_mixed (by kernel_rfl) (by kernel_rfl) ?_
   simp -implicitDefEqProofs only [cdA,go_sem,e1,e2,e5,e6,e7,e8,reduceIte,reduceCtorEq,Nat.reduceEqDiff,Nat.reduceAdd,Nat.reduceLeDiff,Nat.reduceSub,Nat.reduceMul,Nat.reduceLT,Nat.reduceShiftRight,Nat.reduceMod,Int.reduceLE,Int.reduceLT,Int.reduceToNat,List.cons.injEq,cdB]
   refine⟨by omega,by omega,fun y hy=>fit_wide (hins_wide l) y (List.mem_of_mem_take (List.mem_of_mem_drop hy)),by omega, ?_⟩
   have:=ins_old (sz:=2) (c:=c) (i:=i) (E:=hds l) (x:=x.enc) (by rw [hds_length];exact hlt) (by rw [hds_length];omega)
   rw [hds_length]at this
   refine hq _ _ ?_
   rw [lk_hd]
   congr 2
   rw [show hds (List.take (l.length+1 - i) [x])=List.take (l.length+1 - i) [x.enc] by simp [hds],this]
   simp [hds,Srt.ins]
attribute [go_sem] Tryz.f120
@[go_sem] def c_hclonef:Ct Tryz.prog:=⟨120,arg kHds fun l=>ret (l.length≤1000000) (.vec 0 l.length) ([(2,157,true,hds l)]),arg_ok fun l=>retF_ok fun hl=>by
 refine runF [] Tryz.f120 lv120 fun hT=>vc ?_
 refine fun b hb=>⟨fun h=> ?_,fun h=> ?_⟩
 ·exact⟨[none],by simp [go_sem,hb h],by cases l<;>simp_all [go_sem,hds]⟩
 ·exact⟨by omega,[some 0],by simp [go_sem]⟩⟩
def bsH (l:List Hd) (id:Nat) (i j:Nat):Nat:=
 if h:i<j then(if(l.getD ((i+j) / 2) default).id<id then bsH l id ((i+j) / 2+1) j else bsH l id i ((i+j) / 2))else i
termination_by j - i
decreasing_by all_goals omega
theorem bsH_pos {l:List Hd} {id:Nat} (hu:Srt.Up Hd.key ltN l):∀(m i j:Nat),j - i≤m→i≤j→j≤l.length→(∀k,k<i→(l.getD k default).id<id)→(∀k,j≤k→k<l.length→¬(l.getD k default).id<id)→bsH l id i j=Srt.pos Hd.key ltN l id:=by
 intro m
 induction m with
 |zero=>
  intro i j hm hij hj hlo hup
  rw [bsH,dif_neg (by omega)]
  exact(Srt.pos_eq (by omega) hlo (fun h=>hup i (by omega) h)).symm
 |succ m ih=>
  intro i j hm hij hj hlo hup
  rw [bsH]
  split
  ·rename_i hlt
   have hup2:=Srt.up_get.1 hu
   split
   ·rename_i h5
    refine ih _ _ (by omega) (by omega) hj (fun k hk=> ?_) hup
    by_cases hkm:k=(i+j) / 2
    ·rw [hkm];exact h5
    ·have:=hup2 k ((i+j) / 2) (by omega) (by omega)
     simp only [ltN,Hd.key]at this;omega
   ·rename_i h5
    refine ih _ _ (by omega) (by omega) (by omega) hlo (fun k hk1 hk2=> ?_)
    by_cases hkm:k=(i+j) / 2
    ·rw [hkm];exact h5
    ·have:=hup2 ((i+j) / 2) k (by omega) (by omega)
     simp only [ltN,Hd.key]at this;omega
  ·exact(Srt.pos_eq (by omega) hlo (fun h=>hup i (by omega) h)).symm
def holdE (c:Ch) (id n:Nat):Int:=
 if¬okCh c∨n=0∨¬n≤MM then 1 else if c.op=false then 14 else if Srt.thr Hd.key ltN c.holds id=true then 6 else if c.holds.length=64 then 7 else if c.loc<c.res∨c.loc - c.res<n then 9 else if c.most - held c.holds<n then 8 else 0
def holdC (c:Ch) (id n:Nat):Ch×Int:=if holdE c id n=0 then(⟨c.id,c.loc - n,c.rem,c.res,c.most,Srt.ins c.holds (Srt.pos Hd.key ltN c.holds id) ⟨id,n⟩,c.op⟩,0)else(default,holdE c id n)
attribute [go_sem] Tryz.f91 Tryz.f140
@[go_sem] def c_chold:Ct Tryz.prog:=⟨91,arg kCh fun c=>arg kU64 fun id=>arg kU64 fun n=>pu (.tup [.agg [.int .u64 (holdC c id n).1.id, .int .u64 (holdC c id n).1.loc, .int .u64 (holdC c id n).1.rem, .int .u64 (holdC c id n).1.res, .int .u64 (holdC c id n).1.most, .sl (hds (holdC c id n).1.holds), .bool (holdC c id n).1.op], .int .i64 (holdC c id n).2]),arg_ok fun c=>arg_ok fun id=>arg_ok fun n=>ret_ok fun _=>by
 refine run [c_csums,c_moncheck,c_hclonef,c_horder] Tryz.f91 lv91 fun hT=>vc ?_
 refine cl hT Tryz.f140 lv140 (vc ?_)
 refine fun _=>SWp.loop (ι:={x:Nat×Nat // x.1≤x.2∧x.2≤c.holds.length∧bsH c.holds id x.1 x.2=bsH c.holds id 0 c.holds.length}) (fun x=>⟨[(0, .sl (hds c.holds)),(1, .int .u64 id),(2, .fn (.func 141) [] []),(8, .int .i64 c.holds.length),(9, .int .i64 x.1.1),(10, .int .i64 x.1.2)],[(0, .box [.int .u64 c.id, .int .u64 c.loc, .int .u64 c.rem, .int .u64 c.res, .int .u64 c.most, .sl (hds c.holds), .bool c.op]),(1, .box [.int .u64 0, .int .u64 0, .int .u64 0, .int .u64 0, .int .u64 0, .nil, .bool false])],2⟩) (fun x=>x.1.2 - x.1.1) ⟨(0,c.holds.length),by simp⟩ ?_ ?_
 ·simp [go_sem]
 ·rintro⟨⟨i,j⟩,hij,hj,hb⟩
  dsimp only at hij hj hb
  refine aw hT lv140 (vc ?_)
  rw [mid_eq hij hj ‹_›]
  have hbad:∀k,holdE c id n=k→¬k=0→(0=((holdC c id n).1.id:Int)∧0=((holdC c id n).1.loc:Int)∧0=((holdC c id n).1.rem:Int)∧0=((holdC c id n).1.res:Int)∧0=((holdC c id n).1.most:Int)∧hds (holdC c id n).1.holds=[]∧false=(holdC c id n).1.op)∧k=(holdC c id n).2:=fun k hk h0=>by
   have:holdC c id n=(default,k):=by rw [holdC,if_neg (by rw [hk];exact h0),hk]
   rw [this];exact⟨⟨rfl,rfl,rfl,rfl,rfl,rfl,rfl⟩,rfl⟩
  refine⟨fun h4=> ?_,fun h4=> ?_⟩
  ·have hm:(i+j) / 2<c.holds.length:=by omega
   rw [bsH,dif_pos (by omega)]at hb
   rw [cmpS_neg,Int.toNat_natCast]
   refine⟨⟨by omega,by omega⟩,fun h5=> ?_,fun h5=> ?_⟩
   ·rw [if_pos (by omega)]at hb
    exact⟨⟨((i+j) / 2+1,j),by dsimp only;omega,hj,hb⟩,by dsimp only;omega,i64_in _ (by omega),rfl⟩
   ·rw [if_neg (by omega)]at hb
    exact⟨⟨(i,(i+j) / 2),by dsimp only;omega,by dsimp only;omega,hb⟩,by dsimp only;omega,rfl,rfl⟩
  ·rw [bsH,dif_neg (by omega)]at hb
   have hok:(sumsC c).2.2=0↔okCh c:=sumsC_0
   have hpos:okCh c→Srt.pos Hd.key ltN c.holds id=i:=fun h=>by
    rw [hb]
    exact(bsH_pos ((Srt.chn_up (lt:=ltN) Srt.totNat).1 h.2.2.2.2.2.1) _ 0 c.holds.length (Nat.le_refl _) (by omega) (Nat.le_refl _) (fun k hk=>absurd hk (by omega)) (fun k h1 h2=>by omega)).symm
   rw [hok]
   have hthr:okCh c→Srt.thr Hd.key ltN c.holds id=decide (i<c.holds.length∧(c.holds.getD i default).id=id):=fun h=>by rw [Srt.thr,hpos h];rfl
   have hmon:monS [n]=0↔n≤MM:=mon1_0
   have e1:∀h:okCh c,(sumsC c).1=held c.holds:=fun h=>by rw [sumsC,if_pos h]
   refine⟨fun h6=>⟨h6,fun ho=>⟨fun hn=>⟨fun hm=>⟨fun hop=>⟨fun ht=>hbad 6 ?_ (by decide),fun ht _=>⟨fun h64=>hbad 7 ?_ (by decide),fun h64=>⟨fun hl=>⟨fun hx=>hbad 9 ?_ (by decide),fun hx=>⟨fun hy=>hbad 8 ?_ (by decide),fun hy=>⟨by have:=ho.2.2.1;omega, ?_⟩⟩⟩,fun hl=>hbad 9 ?_ (by decide)⟩⟩⟩,fun hop=>hbad 14 ?_ (by decide)⟩,fun hm=>hbad 1 ?_ (by decide)⟩,fun hn=>hbad 1 ?_ (by decide)⟩,fun ho=>hbad 1 ?_ (by decide)⟩,
    fun h6=>⟨fun ho=>⟨fun hn=>⟨fun hm=>⟨fun hop _=>⟨fun h64=>hbad 7 ?_ (by decide),fun h64=>⟨fun hl=>⟨fun hx=>hbad 9 ?_ (by decide),fun hx=>⟨fun hy=>hbad 8 ?_ (by decide),fun hy=>⟨by have:=ho.2.2.1;omega, ?_⟩⟩⟩,fun hl=>hbad 9 ?_ (by decide)⟩⟩,fun hop=>hbad 14 ?_ (by decide)⟩,fun hm=>hbad 1 ?_ (by decide)⟩,fun hn=>hbad 1 ?_ (by decide)⟩,fun ho=>hbad 1 ?_ (by decide)⟩⟩
   all_goals first|(unfold holdE;rw [if_pos (.inl ho)];done)|skip
   all_goals first|(unfold holdE;rw [if_pos (.inr (.inl (by omega)))];done)|skip
   all_goals first|(unfold holdE;rw [if_pos (.inr (.inr fun h=>hm (hmon.2 h)))];done)|skip
   all_goals
    have hA:¬(¬okCh c∨n=0∨¬n≤MM):=by
     rintro(h|h|h)
     ·exact h ho
     ·exact hn (by omega)
     ·exact h (hmon.1 hm)
    have q4:held c.holds≤c.most:=ho.2.2.2.2.2.2.1
    have q2:c.most≤MM:=ho.2.1
    have q3:c.loc≤MM:=ho.2.2.2.2.2.2.2.1
    have e2:=e1 ho
    unfold MM at q2 q3
   all_goals first|(unfold holdE;rw [if_neg hA,if_pos (by simpa using hop)];done)|skip
   all_goals have hop':¬c.op=false:=by rw [hop];decide
   all_goals first
    |(unfold holdE;rw [if_neg hA,if_neg hop',if_pos (by rw [hthr ho];exact decide_eq_true ⟨by omega,by have:=cmpS_0.1 ht;omega⟩)];done)
    |skip
   all_goals
    have ht':¬Srt.thr Hd.key ltN c.holds id=true:=by
     rw [hthr ho,decide_eq_true_eq]
     rintro⟨h1,h2⟩
     first|exact ht (cmpS_0.2 (by omega))|omega
   all_goals first
    |(unfold holdE;rw [if_neg hA,if_neg hop',if_neg ht',if_pos (by omega)];done)
    |skip
   all_goals have h64':¬c.holds.length=64:=by omega
   all_goals first
    |(unfold holdE;rw [if_neg hA,if_neg hop',if_neg ht',if_neg h64',if_pos (.inl (by omega))];done)
    |(rw [u64_in ((c.loc:Int) - _) (by omega)]at hx;unfold holdE;rw [if_neg hA,if_neg hop',if_neg ht',if_neg h64',if_pos (by omega)];done)
    |skip
   all_goals
    rw [u64_in ((c.loc:Int) - _) (by omega)]at hx
    have h9':¬(c.loc<c.res∨c.loc - c.res<n):=by omega
    rw [e2,u64_in ((c.most:Int) - _) (by omega)]at hy
   all_goals first
    |(unfold holdE;rw [if_neg hA,if_neg hop',if_neg ht',if_neg h64',if_neg h9',if_pos (by omega)];done)
    |skip
   all_goals
    have h0:holdE c id n=0:=by unfold holdE;rw [if_neg hA,if_neg hop',if_neg ht',if_neg h64',if_neg h9',if_neg (by omega)]
    have h20:=ho.2.2.1
    refine ACall.grow (mid:=[.int .i64 _]) (hins_ok c.holds ⟨id,n⟩ i (by omega) (by omega)) rfl rfl (by decide) (by simp [Srt.ins_len]) (fun d hd g g' w v hv=> ?_) ?_
   all_goals first
    |(simp at hd;subst hd
      cases hv with
      |c _ _ h=>cases h;exact .c _ _ (.int _ _))
    |skip
   all_goals
    refine vc ?_
    rw [holdC,if_pos h0,hpos ho,u64_in ((c.loc:Int) - _) (by omega)]
    exact⟨⟨rfl,by dsimp only;omega,rfl,rfl,rfl,⟨rfl,_,_,_,rfl⟩,rfl⟩,rfl⟩⟩
open Go Go.Proofs Go.IntWalk
def lholdL (l:List Ch) (id h n:Nat):List Ch×Int:=
 if okLd l then(if Srt.thr Ch.id ltN l id=true then(if(whereI l h).2=0 then([],6)else if holdE (l.getD (Srt.pos Ch.id ltN l id) default) h n=0 then(l.set (Srt.pos Ch.id ltN l id) (holdC (l.getD (Srt.pos Ch.id ltN l id) default) h n).1,0)else([],holdE (l.getD (Srt.pos Ch.id ltN l id) default) h n))else([],5))else([],1)
theorem holdC_2 {c:Ch} {id n:Nat}:(holdC c id n).2=holdE c id n:=by
 unfold holdC
 split
 ·rename_i h;exact h.symm
 ·rfl
attribute [go_sem] Tryz.f53 Tryz.f88 Tryz.f89
@[go_sem] def c_lhold:Ct Tryz.prog:=⟨53,arg kChs fun l=>arg kU64 fun id=>arg kU64 fun h=>arg kU64 fun n=>pu (.tup [.sl (chs (lholdL l id h n).1), .int .i64 (lholdL l id h n).2]),arg_ok fun l=>arg_ok fun id=>arg_ok fun h=>arg_ok fun n=>ret_ok fun _=>by
 refine run [c_place,c_lwhere,c_chold,c_owns] Tryz.f53 lv53 fun hT=>vc ?_
 refine cl hT Tryz.f88 lv88 (vc ?_)
 by_cases hok:okLd l
 ·by_cases ht:Srt.thr Ch.id ltN l id=true
  ·have e1:placeL l id=(((Srt.pos Ch.id ltN l id:Nat):Int),0):=by rw [placeL,if_pos hok,if_pos ht]
   have hp:Srt.pos Ch.id ltN l id<l.length:=by
    unfold Srt.thr at ht
    exact(of_decide_eq_true ht).1
   rw [e1,Int.toNat_natCast,lholdL,if_pos hok,if_pos ht]
   refine⟨fun _=>⟨⟨by omega,by omega⟩, ?_⟩,fun h=>absurd rfl h⟩
   refine cl hT Tryz.f89 lv89 (vc ?_)
   have h32:l.length≤1000000∧∀c∈l,c.holds.length≤1000000:=⟨by have:=hok.1;omega,fun c hc=>by have:=(hok.2.1 c hc).2.2.1;omega⟩
   refine⟨fun hw=>⟨fun h6=>absurd h6 (by decide),fun _=> ?_⟩,fun hw=>⟨fun h0=> ?_,fun h0=> ?_⟩⟩
   ·rw [if_pos hw];exact⟨rfl,rfl⟩
   ·rw [holdC_2]at h0
    rw [if_neg hw,if_pos h0]
    exact⟨h32,by omega,hp,⟨by simp,_,_,_,rfl⟩,rfl⟩
   ·rw [holdC_2]at h0⊢
    rw [if_neg hw,if_neg h0]
    exact⟨rfl,rfl⟩
  ·have e1:placeL l id=(0,5):=by rw [placeL,if_pos hok,if_neg ht]
   have e2:lholdL l id h n=([],5):=by rw [lholdL,if_pos hok,if_neg ht]
   rw [e1,e2]
   exact⟨fun h=>absurd h (by decide),fun _=>⟨rfl,rfl⟩⟩
 ·have e1:placeL l id=(0,1):=by rw [placeL,if_neg hok]
  have e2:lholdL l id h n=([],1):=by rw [lholdL,if_neg hok]
  rw [e1,e2]
  exact⟨fun h=>absurd h (by decide),fun _=>⟨rfl,rfl⟩⟩⟩
open Go Go.Proofs Go.IntWalk
theorem hold_perm {l:List Hd} {i:Nat} {x:Hd}:List.Perm (Srt.ins l i x) (x::l):=Srt.ins_perm
theorem split_at {l:List Ch} {p:Nat} (hp:p<l.length):l=l.take p++l.getD p default::l.drop (p+1):=by
 rw [getD_lt hp,List.getElem_cons_drop,List.take_append_drop]
theorem split_set {l:List Ch} {p:Nat} {d:Ch} (hp:p<l.length):l.set p d=l.take p++d::l.drop (p+1):=by
 rw [List.set_eq_take_append_cons_drop,if_pos hp]
theorem hidL_set {l:List Ch} {p:Nat} {d:Ch} {x:Hd} (hp:p<l.length) (hd:d.holds.Perm (x::(l.getD p default).holds)):(hidL (l.set p d)).Perm (x.id::hidL l):=by
 conv=>rhs;rw [split_at hp]
 rw [split_set hp]
 simp only [hidL,List.flatMap_append,List.flatMap_cons]
 have h1:=hd.map Hd.id
 rw [List.map_cons]at h1
 refine(List.Perm.append_left _ (h1.append_right _)).trans ?_
 exact List.perm_middle
theorem held_ins {l:List Hd} {i:Nat} {x:Hd}:held (Srt.ins l i x)=x.n+held l:=by
 unfold held
 rw [((hold_perm (l:=l) (i:=i) (x:=x)).map Hd.n).sum_nat,List.map_cons,List.sum_cons]
theorem totL_set {l:List Ch} {p:Nat} {d:Ch} (hp:p<l.length) (hd:allC d=allC (l.getD p default)):totL (l.set p d)=totL l:=by
 conv=>rhs;rw [split_at hp]
 rw [split_set hp]
 simp only [totL,List.map_append,List.map_cons,List.sum_append,List.sum_cons,hd]
theorem hold_okCh {c:Ch} {h n:Nat} (he:holdE c h n=0) (hok:okCh c):okCh (holdC c h n).1∧allC (holdC c h n).1=allC c:=by
 have e:holdC c h n=(⟨c.id,c.loc - n,c.rem,c.res,c.most,Srt.ins c.holds (Srt.pos Hd.key ltN c.holds h) ⟨h,n⟩,c.op⟩,0):=by rw [holdC,if_pos he]
 obtain⟨o1,o2,o3,o4,o5,o6,o7,o8,o9,o10⟩:=hok
 have hok:okCh c:=⟨o1,o2,o3,o4,o5,o6,o7,o8,o9,o10⟩
 unfold holdE at he
 split at he
 ·cases he
 split at he
 ·cases he
 split at he
 ·cases he
 split at he
 ·cases he
 split at he
 ·cases he
 split at he
 ·cases he
 rename_i h1 h2 h3 h4 h5 h6
 have hn0:n≠0:=fun h=>h1 (.inr (.inl h))
 have h7:=held_ins (l:=c.holds) (i:=Srt.pos Hd.key ltN c.holds h) (x:=⟨h,n⟩)
 have hu:Srt.Up Hd.key ltN c.holds:=(Srt.chn_up (lt:=ltN) Srt.totNat).1 o6
 have hle:n≤c.loc:=by omega
 have hnew:okCh (holdC c h n).1:=by
  rw [e]
  refine⟨o1,o2, ?_,fun hop=>absurd hop h2,fun y hy=> ?_, ?_, ?_, ?_,o9, ?_⟩
  ·dsimp only;rw [Srt.ins_len];omega
  ·rcases List.mem_cons.1 (hold_perm.mem_iff.1 hy)with rfl|hy
   ·exact hn0
   ·exact o5 y hy
  ·exact(Srt.chn_up (lt:=ltN) Srt.totNat).2 (Srt.ins_up (x:=(⟨h,n⟩:Hd)) (Srt.totNat) hu h3)
  ·dsimp only;rw [h7];dsimp only;omega
  ·dsimp only;omega
  ·dsimp only;rw [h7];dsimp only;omega
 refine⟨hnew, ?_⟩
 have a1:allC c=held c.holds+c.loc+c.rem:=by unfold allC sumsC;rw [if_pos hok]
 have a2:allC (holdC c h n).1=held (holdC c h n).1.holds+(holdC c h n).1.loc+(holdC c h n).1.rem:=by unfold allC sumsC;rw [if_pos hnew]
 rw [a1,a2,e]
 dsimp only
 rw [h7];dsimp only;omega
theorem where_0 {l:List Ch} {h:Nat} (hok:okLd l):(whereI l h).2=0↔h∈hidL l:=by
 have hnd:((hm 0 l).map (·.1)).Nodup:=by rw [hm_keys];exact hok.2.2.2.1
 rw [whereI,if_pos hok]
 constructor
 ·cases hx:nlk h (hm 0 l)with
  |none=>intro h;cases h
  |some i=>
   intro _
   have:=(nlk_some hnd).1 hx
   rw [←hm_keys (s:=0)]
   exact List.mem_map.2 ⟨_,this,rfl⟩
 ·intro hh
  rw [←hm_keys (s:=0)]at hh
  obtain⟨⟨k,a⟩,h1,h2⟩:=List.mem_map.1 hh
  dsimp only at h2
  subst h2
  rw [(nlk_some hnd).2 h1]
open Go Go.Proofs Go.IntWalk
theorem lhold_at {l:List Ch} {id h n:Nat} (h0:(lholdL l id h n).2=0):okLd l∧∃c∈l,c.id=id∧Srt.pos Ch.id ltN l id<l.length∧l.getD (Srt.pos Ch.id ltN l id) default=c∧h∉hidL l∧holdE c h n=0∧lholdL l id h n=(l.set (Srt.pos Ch.id ltN l id) (holdC c h n).1,0):=by
 by_cases hok:okLd l
 ·by_cases ht:Srt.thr Ch.id ltN l id=true
  ·by_cases hw:(whereI l h).2=0
   ·rw [lholdL,if_pos hok,if_pos ht,if_pos hw]at h0;cases h0
   ·by_cases he:holdE (l.getD (Srt.pos Ch.id ltN l id) default) h n=0
    ·have h2:=ht
     unfold Srt.thr at h2
     obtain⟨hp,hpi⟩:=of_decide_eq_true h2
     refine⟨hok,_,mem_getD.2 ⟨_,hp,rfl⟩,hpi,hp,rfl,fun h=>hw ((where_0 hok).2 h),he, ?_⟩
     rw [lholdL,if_pos hok,if_pos ht,if_neg hw,if_pos he]
    ·rw [lholdL,if_pos hok,if_pos ht,if_neg hw,if_neg he]at h0;exact absurd h0 he
  ·rw [lholdL,if_pos hok,if_neg ht]at h0;cases h0
 ·rw [lholdL,if_neg hok]at h0;cases h0
theorem lhold_fine {l:List Ch} {id h n:Nat} (h0:(lholdL l id h n).2=0):okLd (lholdL l id h n).1:=by
 obtain⟨hok,c,hc,hid,hp,hcp,hw,he,e⟩:=lhold_at h0
 have hu:Srt.Up Ch.id ltN l:=(Srt.chn_up (lt:=ltN) Srt.totNat).1 hok.2.2.1
 obtain⟨hok',hall⟩:=hold_okCh he (hok.2.1 c hc)
 have eid:(holdC c h n).1.id=c.id:=by rw [holdC,if_pos he]
 have ehl:(holdC c h n).1.holds.Perm (⟨h,n⟩::c.holds):=by rw [holdC,if_pos he];exact hold_perm
 generalize Srt.pos Ch.id ltN l id=p at*
 have hpm:=hidL_set (l:=l) (p:=p) (d:=(holdC c h n).1) (x:=⟨h,n⟩) hp (by rw [hcp];exact ehl)
 rw [e]
 refine⟨by rw [List.length_set];exact hok.1,fun d hd=> ?_, ?_, ?_, ?_⟩
 ·rcases List.mem_or_eq_of_mem_set hd with h|rfl
  ·exact hok.2.1 d h
  ·exact hok'
 ·exact(Srt.chn_up (lt:=ltN) Srt.totNat).2 (Srt.set_up hu hp (by rw [hcp];exact eid))
 ·rw [hpm.nodup_iff,List.nodup_cons];exact⟨hw,hok.2.2.2.1⟩
 ·rw [totL_set hp (by rw [hcp];exact hall)];exact hok.2.2.2.2
theorem start_len {l:List Py} {p:Py}:(startP l p).1.length≤257:=by
 unfold startP
 split
 ·simp
 ·rename_i hA
  have hok:okPy l:=Decidable.byContradiction fun h=>hA (.inl h)
  have:=hok.1
  split
  ·simp
  ·split
   ·split
    ·simp
    ·rename_i k hk
     dsimp only
     have hkl:k<l.length:=by
      unfold idle at hk
      exact(List.findIdx?_eq_some_iff_getElem.1 hk).1
     rw [Srt.ins_len,List.length_eraseIdx_of_lt hkl];omega
   ·dsimp only
    rw [Srt.ins_len];omega
theorem add_len {f:Fd} {k:Int} {a n:Nat}:(addF f k a n).1.l.length≤64:=by
 unfold addF
 split
 ·rename_i h
  have:=h.1.2.2.1
  split
  ·simp
  ·dsimp only
   rw [List.length_drop,List.length_append,List.length_singleton];omega
 ·simp
theorem small_ok {w:Wl} (h:okW w):smallW w:=by
 obtain⟨h1,h2,h3,h4,_⟩:=h
 have h7:=h3.2.2.1
 refine⟨by have:=h1.1;omega,fun c hc=>by have:=(h1.2.1 c hc).2.2.1;omega,by omega,by have:=h2.1;omega, ?_,by omega⟩
 rename_i h8
 have h9:=h8.2.2.2
 have:okPy w.p:=by
  unfold agrL at h9
  split at h9
  ·rename_i h;exact h.1
  ·cases h9
 have:=this.1;omega
open Go Go.Proofs Go.IntWalk
@[go_sem] def lins_T2:Tab:=[ovk 117]
theorem lins_T2_ok:TabOk Tryz.prog lins_T2:= .cons (ov_ok 117) .nil
@[go_sem] def lins_T3:Tab:=[fg 12]
theorem lins_T3_ok:TabOk Tryz.prog lins_T3:= .cons (fg_ok 12) .nil
theorem lins_wide (l:List Ch):Wide 7 (chs l):=of_eq_true (chs_wide l)
theorem lins_ok (l:List Ch) (x:Ch) (i:Nat) (hi:i≤l.length) (hl:l.length≤1000000):
 ACall Tryz.prog 73 [.vec 0 l.length, .int .i64 i, .vec 1 1] [(1, .vec true 7 53 (chs [x])),(0, .vec true 7 53 (chs l))] 2 fun d os _=>Grown 7 53 (chs (Srt.ins l i x)) d os:=by
 have hil:(Srt.ins l i x).length=l.length+1:=Srt.ins_len
 have hq:∀j os,lk j os=some (.vec true 7 53 (chs (Srt.ins l i x)))→Grown 7 53 (chs (Srt.ins l i x)) (.vec j (l.length+1)) os:=fun j os h=>⟨j,by rw [chs_length,hil],h⟩
 by_cases hin:i=l.length
 ·refine ac73 lins_T3_ok (Nat.le_of_ble_eq_true rfl) ?_
  have e4:((1:Int)=0)=False:=eq_false (by decide)
  subst hin
  simp -implicitDefEqProofs only [cdA,go_sem,Go.Proofs.Tryz.f73,e4,decide_true,reduceIte,reduceCtorEq,Nat.reduceEqDiff,Nat.reduceAdd,Nat.reduceLeDiff,Nat.reduceSub,Nat.reduceMul,Nat.reduceLT,Nat.reduceShiftRight,Nat.reduceMod,Int.reduceLE,Int.reduceLT,Int.reduceToNat,List.cons.injEq,cdB]
  refine⟨Int.le_refl _,fun h=>h.elim,fun _=>⟨by omega,hq _ _ ?_⟩⟩
  rw [lk_cons,if_neg (by decide),lk_hd]
  simp [Srt.ins]
 ·have hlt:i<l.length:=by omega
  refine ACall.opn 0 rfl (by rw [chs_length];omega) fun c hc hcm=> ?_
  refine ACall.sld ?_
  rw [chs_length]at hc
  refine ac73 lins_T2_ok (Nat.le_of_ble_eq_true rfl) ?_
  have e1:IntKind.i64.wrap ((l.length:Int)+1)=((l.length+1:Nat):Int):=by rw [i64_in _ (by omega)];omega
  have e2:IntKind.i64.wrap ((i:Int)+1)=((i+1:Nat):Int):=by rw [i64_in _ (by omega)];omega
  have e3:((i:Int)=(l.length:Int))=False:=eq_false (by omega)
  have e4:((1:Int)=0)=False:=eq_false (by decide)
  have e5:IntKind.i64.wrap ((l.length:Int)+1 - (i:Int))=((l.length+1 - i:Nat):Int):=by rw [i64_in _ (by omega)];omega
  have e6:((l.length:Int)+1).toNat=l.length+1:=by omega
  have e7:((i:Int)+1).toNat=i+1:=by omega
  have e8:i+(l.length+1 - i)=l.length+1:=by omega
  simp -implicitDefEqProofs only [cdA,go_sem,Go.Proofs.Tryz.f73,e3,e4,e1,e2,e5,e6,e7,e8,decide_false,reduceIte,reduceCtorEq,Nat.reduceEqDiff,Nat.reduceAdd,Nat.reduceLeDiff,Nat.reduceSub,Nat.reduceMul,Nat.reduceLT,Nat.reduceShiftRight,Nat.reduceMod,Int.reduceLE,Int.reduceLT,Int.reduceToNat,List.cons.injEq,cdB]
  refine⟨by omega,fun _=>⟨fun h1=>⟨by omega,by omega,fun c1 h2 h3=>⟨by omega, ?_⟩⟩,fun h1=>⟨by omega,by omega, ?_, ?_⟩⟩⟩
  ·refine ADraw.run us73_11 lins_T2_ok follows_mixed (by kernel_rfl) (by kernel_rfl) ?_
   simp -implicitDefEqProofs only [cdA,go_sem,e1,e2,e5,e6,e7,e8,reduceIte,reduceCtorEq,Nat.reduceEqDiff,Nat.reduceAdd,Nat.reduceLeDiff,Nat.reduceSub,Nat.reduceMul,Nat.reduceLT,Nat.reduceShiftRight,Nat.reduceMod,Int.reduceLE,Int.reduceLT,Int.reduceToNat,List.cons.injEq,cdB]
   refine⟨by omega,by omega,fun y hy=>fit_wide (lins_wide l) y (List.mem_of_mem_take (List.mem_of_mem_drop hy)), ?_⟩
   have:=ins_new (sz:=7) (c:=c) (c1:=c1) (i:=i) (E:=chs l) (x:=x.enc) (z:=[C.int .u64 0,C.int .u64 0,C.int .u64 0,C.int .u64 0,C.int .u64 0,C.sl [],C.bool false]) (by rw [chs_length];exact hlt) (by rw [chs_length];exact hc) (by rw [chs_length];exact h2)
   rw [chs_length]at this
   refine hq _ _ ?_
   rw [lk_hd]
   congr 2
   rw [show chs (List.take (l.length+1 - i) [x])=List.take (l.length+1 - i) [x.enc] by simp [chs],this]
   simp [chs,Srt.ins]
  ·exact⟨_,22,4,_,rfl,rfl,rfl,rfl,by kernel_rfl,elOf_22⟩
  ·refine ADraw.run us73_15 lins_T2_ok follows_mixed (by kernel_rfl) (by kernel_rfl) ?_
   simp -implicitDefEqProofs only [cdA,go_sem,e1,e2,e5,e6,e7,e8,reduceIte,reduceCtorEq,Nat.reduceEqDiff,Nat.reduceAdd,Nat.reduceLeDiff,Nat.reduceSub,Nat.reduceMul,Nat.reduceLT,Nat.reduceShiftRight,Nat.reduceMod,Int.reduceLE,Int.reduceLT,Int.reduceToNat,List.cons.injEq,cdB]
   refine⟨by omega,by omega,fun y hy=>fit_wide (lins_wide l) y (List.mem_of_mem_take (List.mem_of_mem_drop hy)),by omega, ?_⟩
   have:=ins_old (sz:=7) (c:=c) (i:=i) (E:=chs l) (x:=x.enc) (by rw [chs_length];exact hlt) (by rw [chs_length];omega)
   rw [chs_length]at this
   refine hq _ _ ?_
   rw [lk_hd]
   congr 2
   rw [show chs (List.take (l.length+1 - i) [x])=List.take (l.length+1 - i) [x.enc] by simp [chs],this]
   simp [chs,Srt.ins]
def chkC (c:Ch):Int:=if okCh c then 0 else 1
attribute [go_sem] Tryz.f69
@[go_sem] def c_ccheck:Ct Tryz.prog:=⟨69,arg kCh fun c=>pu (.int .i64 (chkC c)),arg_ok fun c=>ret_ok fun _=>by
 refine run [c_csums] Tryz.f69 lv69 fun hT=>vc ?_
 unfold sumsC chkC
 split<;>rfl⟩
def openL (l:List Ch) (c:Ch):List Ch×Int:=
 if¬okCh c∨c.op=false∨0<c.holds.length∨¬okLd l then([],1)else if Srt.thr Ch.id ltN l c.id=true then([],6)else if l.length=32 then([],7)else if okLd (Srt.ins l (Srt.pos Ch.id ltN l c.id) c)then(Srt.ins l (Srt.pos Ch.id ltN l c.id) c,0)else([],8)
attribute [go_sem] Tryz.f39 Tryz.f71
@[go_sem] def c_lopen:Ct Tryz.prog:=⟨39,arg kChs fun l=>arg kCh fun c=>pu (.tup [.sl (chs (openL l c).1), .int .i64 (openL l c).2]),arg_ok fun l=>arg_ok fun c=>ret_ok fun _=>by
 refine run [c_ccheck,c_lcheck,c_lorder,c_own,c_owns] Tryz.f39 lv39 fun hT=>vc ?_
 have hbad:(¬okCh c∨c.op=false∨0<c.holds.length∨¬okLd l)→chs (openL l c).1=[]∧1=(openL l c).2:=fun h=>by rw [openL,if_pos h];exact⟨rfl,rfl⟩
 have hc0:chkC c=0↔okCh c:=by unfold chkC;split<;>rename_i h<;>simp only [h]<;>decide
 have hl0:chkL l=0↔okLd l:=by unfold chkL;split<;>rename_i h<;>simp only [h]<;>decide
 refine⟨fun h1=>⟨fun h2 _=>⟨fun h3=>⟨fun h4=> ?_,fun h4=>hbad (.inr (.inr (.inr fun h=>h4 (hl0.2 h))))⟩,fun h3=>hbad (.inr (.inr (.inl (by omega))))⟩,fun h2=>hbad (.inr (.inl (by simpa using h2)))⟩,fun h1=>hbad (.inl fun h=>h1 (hc0.2 h))⟩
 have hok:=hl0.1 h4
 have hcc:=hc0.1 h1
 have hop:c.op=true:=by simpa using h2
 have hA:¬(¬okCh c∨c.op=false∨0<c.holds.length∨¬okLd l):=by
  rintro(h|h|h|h)
  ·exact h hcc
  ·rw [hop]at h;cases h
  ·omega
  ·exact h hok
 have hu:Srt.Up Ch.id ltN l:=(Srt.chn_up (lt:=ltN) Srt.totNat).1 hok.2.2.1
 have hl32:=hok.1
 refine cl hT Tryz.f71 lv71 (vc ?_)
 refine fun _=>SWp.loop (ι:={x:Nat×Nat // x.1≤x.2∧x.2≤l.length∧(∀k,k<x.1→(l.getD k default).id<c.id)∧∀k,x.2≤k→k<l.length→¬(l.getD k default).id<c.id}) (fun x=>⟨[(0, .sl (chs l)),(1, .c (.int .u64 c.id)),(2, .fn (.func 72) [] []),(8, .int .i64 l.length),(9, .int .i64 x.1.1),(10, .int .i64 x.1.2)],
  [(0, .box [.c (.int .u64 c.id), .c (.int .u64 c.loc), .c (.int .u64 c.rem), .c (.int .u64 c.res), .c (.int .u64 c.most), .sl (hds c.holds), .c (.bool c.op)])],1⟩) (fun x=>x.1.2 - x.1.1) ⟨(0,l.length),by simp,by simp,fun k hk=>absurd hk (by simp),fun k h1 h2=>absurd h1 (by simpa using h2)⟩ ?_ ?_
 ·simp [go_sem]
 ·rintro⟨⟨i,j⟩,hij,hj,hlo,hup⟩
  dsimp only at hij hj hlo hup
  refine aw hT lv71 (vc ?_)
  rw [mid_eq hij hj ‹_›]
  refine⟨fun h4=> ?_,fun h4=> ?_⟩
  ·have hm:(i+j) / 2<l.length:=by omega
   rw [cmpS_neg,Int.toNat_natCast]
   refine⟨by omega,fun h5=>⟨⟨((i+j) / 2+1,j),by dsimp only;omega,hj,fun k hk=> ?_,hup⟩,by dsimp only;omega,i64_in _ (by omega),rfl⟩,fun h5=>⟨⟨(i,(i+j) / 2),by dsimp only;omega,by dsimp only;omega,hlo,fun k hk1 hk2=> ?_⟩,by dsimp only;omega,rfl,rfl⟩⟩
   ·dsimp only at hk
    by_cases hkm:k=(i+j) / 2
    ·rw [hkm];omega
    ·have:=Srt.up_get.1 hu k _ (by omega) hm
     simp only [ltN]at this;omega
   ·dsimp only at hk1
    by_cases hkm:k=(i+j) / 2
    ·rw [hkm];omega
    ·have:=Srt.up_get.1 hu ((i+j) / 2) k (by omega) hk2
     simp only [ltN]at this;omega
  ·have hp:Srt.pos Ch.id ltN l c.id=i:=Srt.pos_eq (by omega) hlo (fun h=>hup i (by omega) h)
   have hth:Srt.thr Ch.id ltN l c.id=decide (i<l.length∧(l.getD i default).id=c.id):=by rw [Srt.thr,hp]
   refine⟨fun h5=>⟨by omega,fun h6=> ?_,fun h6 _=>⟨fun h7=> ?_,fun h7=> ?_⟩⟩,fun h5 _=>⟨fun h7=> ?_,fun h7=> ?_⟩⟩
   ·rw [openL,if_neg hA,if_pos (by rw [hth];exact decide_eq_true ⟨by omega,by have:=cmpS_0.1 h6;omega⟩)];exact⟨rfl,rfl⟩
   ·have ht:¬Srt.thr Ch.id ltN l c.id=true:=by rw [hth,decide_eq_true_eq];rintro⟨h8,h9⟩;exact h6 (cmpS_0.2 (by omega))
    rw [openL,if_neg hA,if_neg ht,if_pos (by omega)];exact⟨rfl,rfl⟩
   ·have ht:¬Srt.thr Ch.id ltN l c.id=true:=by rw [hth,decide_eq_true_eq];rintro⟨h8,h9⟩;exact h6 (cmpS_0.2 (by omega))
    refine ADraw.tail 6 us39_8 hT follows_mixed (by kernel_rfl) (by kernel_rfl) (by kernel_rfl) (by kernel_rfl) ?_
    simp -implicitDefEqProofs only [cdA,go_sem,List.take_succ_cons,List.take_zero,List.drop_succ_cons,List.drop_zero,simprocAttr, -Int.reduceEq,List.cons.injEq,cdB]
    refine⟨⟨by omega,fun d hd=>by have:=(hok.2.1 d hd).2.2.1;omega⟩,by omega, ?_⟩
    refine ACall.grow (mid:=[.int .i64 _]) (lins_ok l c i (by omega) (by omega)) rfl rfl (by decide) (by simp [Srt.ins_len]) (fun d hd g g' w v hv=> ?_) ?_
    ·simp at hd;subst hd
     cases hv with
     |c _ _ h=>cases h;exact .c _ _ (.int _ _)
    ·refine vc ?_
     have hl0':chkL (Srt.ins l i c)=0↔okLd (Srt.ins l i c):=by unfold chkL;split<;>rename_i h<;>simp only [h]<;>decide
     refine⟨fun h8=> ?_,fun h8=> ?_⟩
     ·rw [openL,if_neg hA,if_neg ht,if_neg (by omega),hp,if_pos (hl0'.1 h8)];exact⟨⟨rfl,_,_,_,rfl⟩,rfl⟩
     ·rw [openL,if_neg hA,if_neg ht,if_neg (by omega),hp,if_neg fun h=>h8 (hl0'.2 h)];exact⟨rfl,rfl⟩
   ·have ht:¬Srt.thr Ch.id ltN l c.id=true:=by rw [hth,decide_eq_true_eq];omega
    rw [openL,if_neg hA,if_neg ht,if_pos (by omega)];exact⟨rfl,rfl⟩
   ·have ht:¬Srt.thr Ch.id ltN l c.id=true:=by rw [hth,decide_eq_true_eq];omega
    refine ADraw.tail 6 us39_8 hT follows_mixed (by kernel_rfl) (by kernel_rfl) (by kernel_rfl) (by kernel_rfl) ?_
    simp -implicitDefEqProofs only [cdA,go_sem,List.take_succ_cons,List.take_zero,List.drop_succ_cons,List.drop_zero,simprocAttr, -Int.reduceEq,List.cons.injEq,cdB]
    refine⟨⟨by omega,fun d hd=>by have:=(hok.2.1 d hd).2.2.1;omega⟩,by omega, ?_⟩
    refine ACall.grow (mid:=[.int .i64 _]) (lins_ok l c i (by omega) (by omega)) rfl rfl (by decide) (by simp [Srt.ins_len]) (fun d hd g g' w v hv=> ?_) ?_
    ·simp at hd;subst hd
     cases hv with
     |c _ _ h=>cases h;exact .c _ _ (.int _ _)
    ·refine vc ?_
     have hl0':chkL (Srt.ins l i c)=0↔okLd (Srt.ins l i c):=by unfold chkL;split<;>rename_i h<;>simp only [h]<;>decide
     refine⟨fun h8=> ?_,fun h8=> ?_⟩
     ·rw [openL,if_neg hA,if_neg ht,if_neg (by omega),hp,if_pos (hl0'.1 h8)];exact⟨⟨rfl,_,_,_,rfl⟩,rfl⟩
     ·rw [openL,if_neg hA,if_neg ht,if_neg (by omega),hp,if_neg fun h=>h8 (hl0'.2 h)];exact⟨rfl,rfl⟩⟩
open Go Go.Proofs Go.IntWalk
theorem i1_0:((1:Int)=0)=False:=eq_false (by decide)
theorem i7_0:((7:Int)=0)=False:=eq_false (by decide)
theorem i9_0:((9:Int)=0)=False:=eq_false (by decide)
def payP (v:Wl) (hash n:Nat):List Py×Int:=startP v.p ⟨v.next,hash,(firstL v.c v.w n).1,n,1⟩
def payC (v:Wl) (n:Nat):List Ch×Int:=lholdL v.c (firstL v.c v.w n).1 v.next n
def payF (v:Wl) (n:Nat):Fd×Nat×Int:=addF v.f 0 v.next n
def payE (v:Wl) (hash n:Nat):Int:=if¬okW v∨n=0∨¬n≤MM then 1 else if(firstL v.c v.w n).2≠0 then 9 else if v.next=MM then 7 else if(payP v hash n).2≠0 then(payP v hash n).2 else if(payC v n).2≠0 then(payC v n).2 else(payF v n).2.2
def zeroW:Wl:=⟨[],[],[],[],⟨0,[]⟩,0,0⟩
def payW (v:Wl) (hash n:Nat):Wl×Nat×Int:=if payE v hash n=0 then(⟨(payC v n).1,v.w,v.i,(payP v hash n).1,(payF v n).1,v.next+1,v.tick⟩,v.next,0)else(zeroW,0,payE v hash n)
attribute [go_sem] Tryz.f25 Tryz.f36 Tryz.f47 Tryz.f49 Tryz.f37 Tryz.f40 Tryz.f76 Tryz.f41 Tryz.f50 Tryz.f52 Tryz.f77
@[go_sem] def c_wpay:Ct Tryz.prog:=⟨25,arg kWl fun v=>arg kU64 fun hash=>arg kU64 fun n=>ret (v.f.next≤18446744073709551615) (.tup [.agg [.sl (chs (payW v hash n).1.c), .sl (wts (payW v hash n).1.w), .sl (ivs (payW v hash n).1.i), .sl (pys (payW v hash n).1.p), .int .u64 (payW v hash n).1.f.next, .sl (evs (payW v hash n).1.f.l), .int .u64 (payW v hash n).1.next, .int .u64 (payW v hash n).1.tick], .int .u64 (payW v hash n).2.1, .int .i64 (payW v hash n).2.2]) [],arg_ok fun v=>arg_ok fun hash=>arg_ok fun n=>ret_ok fun h=>by
 refine run [c_wcheck,c_moncheck,c_first,c_pstart,c_lhold,c_fadd,c_wown] Tryz.f25 lv25 fun hT=>vc ?_
 refine cl hT Tryz.f36 lv36 (vc ?_)
 refine dr us36_1 hT (vc ?_)
 refine⟨h, ?_⟩
 have hbad:∀e:Int,payE v hash n=e→¬e=0→(chs (payW v hash n).1.c=[]∧wts (payW v hash n).1.w=[]∧ivs (payW v hash n).1.i=[]∧pys (payW v hash n).1.p=[]∧0=((payW v hash n).1.f.next:Int)∧evs (payW v hash n).1.f.l=[]∧0=((payW v hash n).1.next:Int)∧0=((payW v hash n).1.tick:Int))∧0=((payW v hash n).2.1:Int)∧e=(payW v hash n).2.2:=fun e h1 h2=>by
  have:payW v hash n=(zeroW,0,e):=by rw [payW,if_neg (by rw [h1];exact h2),h1]
  rw [this];exact⟨⟨rfl,rfl,rfl,rfl,rfl,rfl,rfl,rfl⟩,rfl,rfl⟩
 by_cases hok:okW v
 rotate_left 1
 ·have hck:(chkW v=0)=False:=eq_false fun h=>hok (chkW_0.1 h)
  have he:payE v hash n=1:=by rw [payE,if_pos (.inl hok)]
  have hc1:chkW v=1:=by rw [chkW,if_neg hok]
  refine⟨fun hn=> ?_,fun hn=> ?_⟩
  ·skip
   refine cl hT Tryz.f47 lv47 ?_
   simp -implicitDefEqProofs only [cdA,go_sem,hck,cdN,simprocAttr, -Int.reduceEq,List.cons.injEq,cdB]
   refine cl hT Tryz.f47 lv47 ?_
   simp -implicitDefEqProofs only [cdA,go_sem,hck,cdN,simprocAttr, -Int.reduceEq,List.cons.injEq,cdB]
   refine cl hT Tryz.f47 lv47 ?_
   simp -implicitDefEqProofs only [cdA,go_sem,hck,cdN,simprocAttr, -Int.reduceEq,List.cons.injEq,cdB]
   refine cl hT Tryz.f49 lv49 ?_
   simp -implicitDefEqProofs only [cdA,go_sem,hck,cdN,simprocAttr, -Int.reduceEq,List.cons.injEq,cdB]
   refine cl hT Tryz.f37 lv37 ?_
   simp -implicitDefEqProofs only [cdA,go_sem,hck,cdN,simprocAttr, -Int.reduceEq,List.cons.injEq,cdB]
   refine cl hT Tryz.f40 lv40 (vc ?_)
   refine cl hT Tryz.f76 lv76 ?_
   simp -implicitDefEqProofs only [cdA,go_sem,hck,cdN,simprocAttr, -Int.reduceEq,List.cons.injEq,cdB]
   refine cl hT Tryz.f41 lv41 ?_
   simp -implicitDefEqProofs only [cdA,go_sem,hck,cdN,simprocAttr, -Int.reduceEq,List.cons.injEq,cdB]
   refine dr us41_2 hT ?_
   simp -implicitDefEqProofs only [cdA,go_sem,hck,cdN,simprocAttr, -Int.reduceEq,List.cons.injEq,cdB]
   exact hbad _ (he.trans hc1.symm) (by rw [hc1];decide)
  ·skip
   refine cl hT Tryz.f47 lv47 ?_
   simp -implicitDefEqProofs only [cdA,go_sem,hck,cdN,simprocAttr, -Int.reduceEq,List.cons.injEq,cdB]
   refine cl hT Tryz.f47 lv47 ?_
   simp -implicitDefEqProofs only [cdA,go_sem,hck,cdN,simprocAttr, -Int.reduceEq,List.cons.injEq,cdB]
   refine cl hT Tryz.f47 lv47 ?_
   simp -implicitDefEqProofs only [cdA,go_sem,hck,cdN,simprocAttr, -Int.reduceEq,List.cons.injEq,cdB]
   refine cl hT Tryz.f49 lv49 ?_
   simp -implicitDefEqProofs only [cdA,go_sem,hck,cdN,simprocAttr, -Int.reduceEq,List.cons.injEq,cdB]
   refine cl hT Tryz.f37 lv37 ?_
   simp -implicitDefEqProofs only [cdA,go_sem,hck,cdN,simprocAttr, -Int.reduceEq,List.cons.injEq,cdB]
   refine cl hT Tryz.f40 lv40 (vc ?_)
   refine cl hT Tryz.f76 lv76 ?_
   simp -implicitDefEqProofs only [cdA,go_sem,hck,cdN,simprocAttr, -Int.reduceEq,List.cons.injEq,cdB]
   refine cl hT Tryz.f41 lv41 ?_
   simp -implicitDefEqProofs only [cdA,go_sem,hck,cdN,simprocAttr, -Int.reduceEq,List.cons.injEq,cdB]
   refine dr us41_2 hT ?_
   simp -implicitDefEqProofs only [cdA,go_sem,hck,cdN,simprocAttr, -Int.reduceEq,List.cons.injEq,cdB]
   exact hbad _ (he.trans hc1.symm) (by rw [hc1];decide)
 have hck:(chkW v=0)=True:=eq_true (chkW_0.2 hok)
 refine⟨fun hn=> ?_,fun hn=> ?_⟩
 rotate_left 1
 ·skip
  refine cl hT Tryz.f47 lv47 ?_
  simp -implicitDefEqProofs only [cdA,go_sem,hck,cdN,simprocAttr, -Int.reduceEq,List.cons.injEq,cdB]
  skip
  refine cl hT Tryz.f47 lv47 ?_
  simp -implicitDefEqProofs only [cdA,go_sem,i1_0,cdN,simprocAttr, -Int.reduceEq,List.cons.injEq,cdB]
  refine cl hT Tryz.f47 lv47 ?_
  simp -implicitDefEqProofs only [cdA,go_sem,i1_0,cdN,simprocAttr, -Int.reduceEq,List.cons.injEq,cdB]
  refine cl hT Tryz.f49 lv49 ?_
  simp -implicitDefEqProofs only [cdA,go_sem,i1_0,cdN,simprocAttr, -Int.reduceEq,List.cons.injEq,cdB]
  refine cl hT Tryz.f37 lv37 ?_
  simp -implicitDefEqProofs only [cdA,go_sem,i1_0,cdN,simprocAttr, -Int.reduceEq,List.cons.injEq,cdB]
  refine cl hT Tryz.f40 lv40 (vc ?_)
  refine cl hT Tryz.f76 lv76 ?_
  simp -implicitDefEqProofs only [cdA,go_sem,i1_0,cdN,simprocAttr, -Int.reduceEq,List.cons.injEq,cdB]
  refine cl hT Tryz.f41 lv41 ?_
  simp -implicitDefEqProofs only [cdA,go_sem,i1_0,cdN,simprocAttr, -Int.reduceEq,List.cons.injEq,cdB]
  refine dr us41_2 hT ?_
  simp -implicitDefEqProofs only [cdA,go_sem,i1_0,cdN,simprocAttr, -Int.reduceEq,List.cons.injEq,cdB]
  exact hbad _ (by rw [payE,if_pos (.inr (.inl (by omega)))]) (by decide)
 have hmon:monS [n]=0↔n≤MM:=mon1_0
 by_cases hm:monS [n]=0
 rotate_left 1
 ·skip
  refine cl hT Tryz.f47 lv47 ?_
  simp -implicitDefEqProofs only [cdA,go_sem,hck,hm,cdN,simprocAttr, -Int.reduceEq,List.cons.injEq,cdB]
  skip
  refine cl hT Tryz.f47 lv47 ?_
  simp -implicitDefEqProofs only [cdA,go_sem,i1_0,cdN,simprocAttr, -Int.reduceEq,List.cons.injEq,cdB]
  refine cl hT Tryz.f47 lv47 ?_
  simp -implicitDefEqProofs only [cdA,go_sem,i1_0,cdN,simprocAttr, -Int.reduceEq,List.cons.injEq,cdB]
  refine cl hT Tryz.f49 lv49 ?_
  simp -implicitDefEqProofs only [cdA,go_sem,i1_0,cdN,simprocAttr, -Int.reduceEq,List.cons.injEq,cdB]
  refine cl hT Tryz.f37 lv37 ?_
  simp -implicitDefEqProofs only [cdA,go_sem,i1_0,cdN,simprocAttr, -Int.reduceEq,List.cons.injEq,cdB]
  refine cl hT Tryz.f40 lv40 (vc ?_)
  refine cl hT Tryz.f76 lv76 ?_
  simp -implicitDefEqProofs only [cdA,go_sem,i1_0,cdN,simprocAttr, -Int.reduceEq,List.cons.injEq,cdB]
  refine cl hT Tryz.f41 lv41 ?_
  simp -implicitDefEqProofs only [cdA,go_sem,i1_0,cdN,simprocAttr, -Int.reduceEq,List.cons.injEq,cdB]
  refine dr us41_2 hT ?_
  simp -implicitDefEqProofs only [cdA,go_sem,i1_0,cdN,simprocAttr, -Int.reduceEq,List.cons.injEq,cdB]
  exact hbad _ (by rw [payE,if_pos (.inr (.inr fun h=>hm (hmon.2 h)))]) (by decide)
 have hA:¬(¬okW v∨n=0∨¬n≤MM):=by
  rintro(h|h|h)
  ·exact h hok
  ·omega
  ·exact h (hmon.1 hm)
 refine cl hT Tryz.f47 lv47 ?_
 simp -implicitDefEqProofs only [cdA,go_sem,hck,hm,cdN,simprocAttr, -Int.reduceEq,List.cons.injEq,cdB]
 by_cases hfe:(firstL v.c v.w n).2=0
 rotate_left 1
 ·skip
  refine cl hT Tryz.f47 lv47 ?_
  simp -implicitDefEqProofs only [cdA,go_sem,hck,hfe,cdN,simprocAttr, -Int.reduceEq,List.cons.injEq,cdB]
  skip
  refine cl hT Tryz.f47 lv47 ?_
  simp -implicitDefEqProofs only [cdA,go_sem,i9_0,cdN,simprocAttr, -Int.reduceEq,List.cons.injEq,cdB]
  refine cl hT Tryz.f49 lv49 ?_
  simp -implicitDefEqProofs only [cdA,go_sem,i9_0,cdN,simprocAttr, -Int.reduceEq,List.cons.injEq,cdB]
  refine cl hT Tryz.f37 lv37 ?_
  simp -implicitDefEqProofs only [cdA,go_sem,i9_0,cdN,simprocAttr, -Int.reduceEq,List.cons.injEq,cdB]
  refine cl hT Tryz.f40 lv40 (vc ?_)
  refine cl hT Tryz.f76 lv76 ?_
  simp -implicitDefEqProofs only [cdA,go_sem,i9_0,cdN,simprocAttr, -Int.reduceEq,List.cons.injEq,cdB]
  refine cl hT Tryz.f41 lv41 ?_
  simp -implicitDefEqProofs only [cdA,go_sem,i9_0,cdN,simprocAttr, -Int.reduceEq,List.cons.injEq,cdB]
  refine dr us41_2 hT ?_
  simp -implicitDefEqProofs only [cdA,go_sem,i9_0,cdN,simprocAttr, -Int.reduceEq,List.cons.injEq,cdB]
  exact hbad _ (by rw [payE,if_neg hA,if_pos hfe]) (by decide)
 refine cl hT Tryz.f47 lv47 ?_
 simp -implicitDefEqProofs only [cdA,go_sem,hck,hfe,cdN,simprocAttr, -Int.reduceEq,List.cons.injEq,cdB]
 by_cases hnx:v.next=MM
 ·have hnx':((v.next:Int)=4611686018427387904)=True:=eq_true (by unfold MM at hnx;omega)
  refine cl hT Tryz.f47 lv47 ?_
  simp -implicitDefEqProofs only [cdA,go_sem,hck,hnx',decide_false,cdN,simprocAttr, -Int.reduceEq,List.cons.injEq,cdB]
  skip
  refine cl hT Tryz.f49 lv49 ?_
  simp -implicitDefEqProofs only [cdA,go_sem,i7_0,cdN,simprocAttr, -Int.reduceEq,List.cons.injEq,cdB]
  refine cl hT Tryz.f37 lv37 ?_
  simp -implicitDefEqProofs only [cdA,go_sem,i7_0,cdN,simprocAttr, -Int.reduceEq,List.cons.injEq,cdB]
  refine cl hT Tryz.f40 lv40 (vc ?_)
  refine cl hT Tryz.f76 lv76 ?_
  simp -implicitDefEqProofs only [cdA,go_sem,i7_0,cdN,simprocAttr, -Int.reduceEq,List.cons.injEq,cdB]
  refine cl hT Tryz.f41 lv41 ?_
  simp -implicitDefEqProofs only [cdA,go_sem,i7_0,cdN,simprocAttr, -Int.reduceEq,List.cons.injEq,cdB]
  refine dr us41_2 hT ?_
  simp -implicitDefEqProofs only [cdA,go_sem,i7_0,cdN,simprocAttr, -Int.reduceEq,List.cons.injEq,cdB]
  exact hbad _ (by rw [payE,if_neg hA,if_neg (fun h=>h hfe),if_pos hnx]) (by decide)
 have hnx':((v.next:Int)=4611686018427387904)=False:=eq_false (by unfold MM at hnx;omega)
 refine cl hT Tryz.f47 lv47 ?_
 simp -implicitDefEqProofs only [cdA,go_sem,hck,hnx',decide_true,cdN,simprocAttr, -Int.reduceEq,List.cons.injEq,cdB]
 refine cl hT Tryz.f49 lv49 ?_
 simp -implicitDefEqProofs only [cdA,go_sem,hck,cdN,simprocAttr, -Int.reduceEq,List.cons.injEq,cdB]
 refine cl hT Tryz.f50 lv50 (vc ?_)
 have eP:startP v.p ⟨v.next,hash,(firstL v.c v.w n).1,n,1⟩=payP v hash n:=rfl
 rw [eP]
 refine⟨fun hst=> ?_,fun hst=> ?_⟩
 rotate_left 1
 ·skip
  refine cl hT Tryz.f37 lv37 ?_
  simp -implicitDefEqProofs only [cdA,go_sem,hst,cdN,simprocAttr, -Int.reduceEq,List.cons.injEq,cdB]
  refine cl hT Tryz.f40 lv40 (vc ?_)
  refine cl hT Tryz.f76 lv76 ?_
  simp -implicitDefEqProofs only [cdA,go_sem,hst,cdN,simprocAttr, -Int.reduceEq,List.cons.injEq,cdB]
  refine cl hT Tryz.f41 lv41 ?_
  simp -implicitDefEqProofs only [cdA,go_sem,hst,cdN,simprocAttr, -Int.reduceEq,List.cons.injEq,cdB]
  refine dr us41_2 hT ?_
  simp -implicitDefEqProofs only [cdA,go_sem,hst,cdN,simprocAttr, -Int.reduceEq,List.cons.injEq,cdB]
  exact hbad _ (by rw [payE,if_neg hA,if_neg (fun h=>h hfe),if_neg hnx,if_pos hst]) hst
 refine cl hT Tryz.f37 lv37 ?_
 simp -implicitDefEqProofs only [cdA,go_sem,hck,cdN,simprocAttr, -Int.reduceEq,List.cons.injEq,cdB]
 refine cl hT Tryz.f52 lv52 (vc ?_)
 have eC:lholdL v.c (firstL v.c v.w n).1 v.next n=payC v n:=rfl
 rw [eC]
 refine⟨fun hho=> ?_,fun hho=> ?_⟩
 rotate_left 1
 ·skip
  refine cl hT Tryz.f40 lv40 (vc ?_)
  refine cl hT Tryz.f76 lv76 ?_
  simp -implicitDefEqProofs only [cdA,go_sem,hho,cdN,simprocAttr, -Int.reduceEq,List.cons.injEq,cdB]
  refine cl hT Tryz.f41 lv41 ?_
  simp -implicitDefEqProofs only [cdA,go_sem,hho,cdN,simprocAttr, -Int.reduceEq,List.cons.injEq,cdB]
  refine dr us41_2 hT ?_
  simp -implicitDefEqProofs only [cdA,go_sem,hho,cdN,simprocAttr, -Int.reduceEq,List.cons.injEq,cdB]
  exact hbad _ (by rw [payE,if_neg hA,if_neg (fun h=>h hfe),if_neg hnx,if_neg (fun h=>h hst),if_pos hho]) hho
 refine cl hT Tryz.f40 lv40 (vc ?_)
 refine cl hT Tryz.f76 lv76 ?_
 simp -implicitDefEqProofs only [cdA,go_sem,hck,cdN,simprocAttr, -Int.reduceEq,List.cons.injEq,cdB]
 refine cl hT Tryz.f77 lv77 (vc ?_)
 have eF:addF v.f 0 v.next n=payF v n:=rfl
 have hv:=hok.2.2.2.2.2.1
 unfold MM at hv
 rw [eF,show IntKind.u64.wrap ((v.next:Int)+1)=((v.next+1:Nat):Int) by rw [u64_in _ (by omega)];omega]
 refine⟨h,fun hfd=> ?_,fun hfd=> ?_⟩
 rotate_left 1
 ·skip
  refine cl hT Tryz.f41 lv41 ?_
  simp -implicitDefEqProofs only [cdA,go_sem,hfd,cdN,simprocAttr, -Int.reduceEq,List.cons.injEq,cdB]
  refine dr us41_2 hT ?_
  simp -implicitDefEqProofs only [cdA,go_sem,hfd,cdN,simprocAttr, -Int.reduceEq,List.cons.injEq,cdB]
  exact hbad _ (by rw [payE,if_neg hA,if_neg (fun h=>h hfe),if_neg hnx,if_neg (fun h=>h hst),if_neg (fun h=>h hho)]) hfd
 have hsm:smallW ⟨(payC v n).1,v.w,v.i,(payP v hash n).1,(payF v n).1,v.next+1,v.tick⟩:=by
  have h1:=lhold_fine hho
  have h2:=small_ok hok
  have h3:=start_len (l:=v.p) (p:=⟨v.next,hash,(firstL v.c v.w n).1,n,1⟩)
  have h4:=add_len (f:=v.f) (k:=0) (a:=v.next) (n:=n)
  refine⟨by have:=h1.1;show(payC v n).1.length≤_;unfold payC;omega,fun c hc=>by have:=(h1.2.1 c hc).2.2.1;omega,h2.2.2.1,h2.2.2.2.1,by show(payP v hash n).1.length≤_;unfold payP;omega,by show(payF v n).1.l.length≤_;unfold payF;omega⟩
 have hfin:payW v hash n=(⟨(payC v n).1,v.w,v.i,(payP v hash n).1,(payF v n).1,v.next+1,v.tick⟩,v.next,0):=by
  have:payE v hash n=0:=by rw [payE,if_neg hA,if_neg (fun h=>h hfe),if_neg hnx,if_neg (fun h=>h hst),if_neg (fun h=>h hho)];exact hfd
  rw [payW,if_pos this]
 have en:((v.next:Int)+1).toNat=v.next+1:=by omega
 have en2:((v.next:Int)+1=((v.next+1:Nat):Int))=True:=eq_true (by omega)
 refine cl hT Tryz.f41 lv41 ?_
 simp -implicitDefEqProofs only [cdA,go_sem,hck,en,en2,eq_true hsm,cdN,simprocAttr, -Int.reduceEq,List.cons.injEq,cdB]
 refine dr us25_13 hT (vc ?_)
 rw [hfin]
 exact⟨⟨rfl,rfl,rfl,rfl,rfl,rfl,by dsimp only;omega,rfl⟩,rfl,rfl⟩⟩
open Go Go.Proofs Go.IntWalk
def wopC (v:Wl) (c:Ch):List Ch×Int:=openL v.c c
def wopF (v:Wl) (c:Ch):Fd×Nat×Int:=addF v.f 6 c.id c.loc
def wopE (v:Wl) (c:Ch):Int:=if¬okW v then 1 else if(wopC v c).2≠0 then(wopC v c).2 else(wopF v c).2.2
def wopW (v:Wl) (c:Ch):Wl×Int:=if wopE v c=0 then(⟨(wopC v c).1,v.w,v.i,v.p,(wopF v c).1,v.next,v.tick⟩,0)else(zeroW,wopE v c)
theorem open_fine {l:List Ch} {c:Ch} (h:(openL l c).2=0):okLd (openL l c).1:=by
 unfold openL at h⊢
 split at h
 ·cases h
 split at h
 ·cases h
 split at h
 ·cases h
 split at h
 ·rename_i h1 h2 h3 h4
  rw [if_neg h1,if_neg h2,if_neg h3,if_pos h4];exact h4
 ·cases h
attribute [go_sem] Tryz.f16 Tryz.f36 Tryz.f37 Tryz.f40 Tryz.f76 Tryz.f41 Tryz.f38 Tryz.f77
@[go_sem] def c_wopen:Ct Tryz.prog:=⟨16,arg kWl fun v=>arg kCh fun c=>ret (v.f.next≤18446744073709551615) (.tup [.agg [.sl (chs (wopW v c).1.c), .sl (wts (wopW v c).1.w), .sl (ivs (wopW v c).1.i), .sl (pys (wopW v c).1.p), .int .u64 (wopW v c).1.f.next, .sl (evs (wopW v c).1.f.l), .int .u64 (wopW v c).1.next, .int .u64 (wopW v c).1.tick], .int .i64 (wopW v c).2]) [],arg_ok fun v=>arg_ok fun c=>ret_ok fun h=>by
 refine run [c_wcheck,c_lopen,c_fadd,c_wown] Tryz.f16 lv16 fun hT=>vc ?_
 refine cl hT Tryz.f36 lv36 (vc ?_)
 refine dr us36_1 hT (vc ?_)
 refine⟨h, ?_⟩
 have hbad:∀e:Int,wopE v c=e→¬e=0→(chs (wopW v c).1.c=[]∧wts (wopW v c).1.w=[]∧ivs (wopW v c).1.i=[]∧pys (wopW v c).1.p=[]∧0=((wopW v c).1.f.next:Int)∧evs (wopW v c).1.f.l=[]∧0=((wopW v c).1.next:Int)∧0=((wopW v c).1.tick:Int))∧e=(wopW v c).2:=fun e h1 h2=>by
  have:wopW v c=(zeroW,e):=by rw [wopW,if_neg (by rw [h1];exact h2),h1]
  rw [this];exact⟨⟨rfl,rfl,rfl,rfl,rfl,rfl,rfl,rfl⟩,rfl⟩
 by_cases hok:okW v
 rotate_left 1
 ·have hck:(chkW v=0)=False:=eq_false fun h=>hok (chkW_0.1 h)
  have he:wopE v c=1:=by rw [wopE,if_pos hok]
  have hc1:chkW v=1:=by rw [chkW,if_neg hok]
  skip
  refine cl hT Tryz.f37 lv37 ?_
  simp -implicitDefEqProofs only [cdA,go_sem,hck,cdN,simprocAttr, -Int.reduceEq,List.cons.injEq,cdB]
  refine cl hT Tryz.f40 lv40 (vc ?_)
  refine cl hT Tryz.f76 lv76 ?_
  simp -implicitDefEqProofs only [cdA,go_sem,hck,cdN,simprocAttr, -Int.reduceEq,List.cons.injEq,cdB]
  refine cl hT Tryz.f41 lv41 ?_
  simp -implicitDefEqProofs only [cdA,go_sem,hck,cdN,simprocAttr, -Int.reduceEq,List.cons.injEq,cdB]
  refine dr us41_2 hT ?_
  simp -implicitDefEqProofs only [cdA,go_sem,hck,cdN,simprocAttr, -Int.reduceEq,List.cons.injEq,cdB]
  exact hbad _ (he.trans hc1.symm) (by rw [hc1];decide)
 have hck:(chkW v=0)=True:=eq_true (chkW_0.2 hok)
 refine cl hT Tryz.f37 lv37 ?_
 simp -implicitDefEqProofs only [cdA,go_sem,hck,cdN,simprocAttr, -Int.reduceEq,List.cons.injEq,cdB]
 refine cl hT Tryz.f38 lv38 (vc ?_)
 have eC:openL v.c c=wopC v c:=rfl
 rw [eC]
 refine⟨fun hst=> ?_,fun hst=> ?_⟩
 rotate_left 1
 ·skip
  refine cl hT Tryz.f40 lv40 (vc ?_)
  refine cl hT Tryz.f76 lv76 ?_
  simp -implicitDefEqProofs only [cdA,go_sem,hst,cdN,simprocAttr, -Int.reduceEq,List.cons.injEq,cdB]
  refine cl hT Tryz.f41 lv41 ?_
  simp -implicitDefEqProofs only [cdA,go_sem,hst,cdN,simprocAttr, -Int.reduceEq,List.cons.injEq,cdB]
  refine dr us41_2 hT ?_
  simp -implicitDefEqProofs only [cdA,go_sem,hst,cdN,simprocAttr, -Int.reduceEq,List.cons.injEq,cdB]
  exact hbad _ (by rw [wopE,if_neg (fun h=>h hok),if_pos hst]) hst
 refine cl hT Tryz.f40 lv40 (vc ?_)
 refine cl hT Tryz.f76 lv76 ?_
 simp -implicitDefEqProofs only [cdA,go_sem,hck,cdN,simprocAttr, -Int.reduceEq,List.cons.injEq,cdB]
 refine cl hT Tryz.f77 lv77 (vc ?_)
 have eF:addF v.f 6 c.id c.loc=wopF v c:=rfl
 rw [eF]
 refine⟨h,fun hfd=> ?_,fun hfd=> ?_⟩
 rotate_left 1
 ·skip
  refine cl hT Tryz.f41 lv41 ?_
  simp -implicitDefEqProofs only [cdA,go_sem,hfd,cdN,simprocAttr, -Int.reduceEq,List.cons.injEq,cdB]
  refine dr us41_2 hT ?_
  simp -implicitDefEqProofs only [cdA,go_sem,hfd,cdN,simprocAttr, -Int.reduceEq,List.cons.injEq,cdB]
  exact hbad _ (by rw [wopE,if_neg (fun h=>h hok),if_neg (fun h=>h hst)]) hfd
 have hsm:smallW ⟨(wopC v c).1,v.w,v.i,v.p,(wopF v c).1,v.next,v.tick⟩:=by
  have h1:=open_fine hst
  have h2:=small_ok hok
  have h4:=add_len (f:=v.f) (k:=6) (a:=c.id) (n:=c.loc)
  refine⟨by have:=h1.1;show(wopC v c).1.length≤_;unfold wopC;omega,fun d hd=>by have:=(h1.2.1 d hd).2.2.1;omega,h2.2.2.1,h2.2.2.2.1,h2.2.2.2.2.1,by show(wopF v c).1.l.length≤_;unfold wopF;omega⟩
 have hfin:wopW v c=(⟨(wopC v c).1,v.w,v.i,v.p,(wopF v c).1,v.next,v.tick⟩,0):=by
  have:wopE v c=0:=by rw [wopE,if_neg (fun h=>h hok),if_neg (fun h=>h hst)];exact hfd
  rw [wopW,if_pos this]
 refine cl hT Tryz.f41 lv41 ?_
 simp -implicitDefEqProofs only [cdA,go_sem,hck,eq_true hsm,cdN,simprocAttr, -Int.reduceEq,List.cons.injEq,cdB]
 rw [hfin]
 exact⟨⟨rfl,rfl,rfl,rfl,rfl,rfl,rfl,rfl⟩,rfl⟩⟩
end Dm
