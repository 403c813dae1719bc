import Derived.Test.YtpiadnkkmfkmmaaGreatP2
import Derived.IntWalk
import Derived.Scope
import Derived.Shelf.Abstract
import Derived.StillTail
set_option linter.unusedSimpArgs false
set_option linter.unusedVariables false
set_option linter.unusedSectionVars false
set_option linter.defProp false
set_option maxRecDepth 20000
set_option maxHeartbeats 4000000
noncomputable section
namespace Dm
open Go
section
variable {δ:List Deferred} {P:Program} {T:Tab} {all:Array Oper} {g g':G} {s s' s'' e:St} {a a':Act} {w w':World} {n N:Nat} {F F':Nat→Prop}
theorem own_eqv (h:Eqv s s') {b:Nat}:Own g s b↔Own g s' b:=⟨fun⟨i,o,h1,h2⟩=>⟨i,o,by rw [←h.2];exact h1,h2⟩,fun⟨i,o,h1,h2⟩=>⟨i,o,by rw [h.2];exact h1,h2⟩⟩
theorem RelP.eqv (hr:RelP F δ g s a w) (h:Eqv s s'):RelP F δ g s' a w:=
 ⟨fun t d ht=>hr.tm t d (by rw [h.1];exact ht),hr.defers,⟨fun i o hi=>hr.o.ok i o (by rw [h.2];exact hi),fun i o i' o' b h1 h2=>hr.o.apart i o i' o' b (by rw [h.2];exact h1) (by rw [h.2];exact h2),hr.o.fresh,
  fun b hb=>⟨(hr.o.imm b hb).1,fun ho=>(hr.o.imm b hb).2 ((own_eqv h).2 ho)⟩,hr.o.cel⟩⟩
theorem Step.eqv (h:∀id,lk id s.os=lk id s'.os):Step g s w g s' w:=by
 have h':∀b,Own g s b↔Own g s' b:=fun b=>⟨fun⟨i,o,h1,h2⟩=>⟨i,o,by rw [←h];exact h1,h2⟩,fun⟨i,o,h1,h2⟩=>⟨i,o,by rw [h];exact h1,h2⟩⟩
 exact⟨.refl g,Nat.le_refl _,fun _ _ _=>rfl,fun b _ ho hh=>ho ((h' b).2 hh),fun _ _ _ h=>h, .refl w⟩
theorem RelP.skip (hr:RelP F δ g s a w) (d:Option Nat) (hd:∀x,d=some x→x<a.tmps.size):RelP F δ g (s.put d .skip) (a.put d undef) w:=by
 cases d with
 |none=>exact hr
 |some u=>
  refine⟨fun t x ht=> ?_,hr.defers,⟨hr.o.ok,hr.o.apart,hr.o.fresh,hr.o.imm,hr.o.cel⟩⟩
  simp only [St.put,lk_cons]at ht
  split at ht
  ·rename_i htu
   cases ht
   subst htu
   exact⟨undef,by simp [Act.put,hd t rfl], .skip⟩
  ·rename_i htu
   obtain⟨v,h1,h2⟩:=hr.tm t x ht
   exact⟨v,by rw [put_tmps_ne (by simpa using fun h=>htu h.symm)];exact h1,h2⟩
theorem Sk.eqv {x:Ent} (h:Sk x):Eqv (s.put x.o.dst .skip) (x.app s):=by
 obtain⟨h1,h2⟩:=h
 refine⟨fun t=> ?_,fun i=> ?_⟩
 ·rw [mrg_tm,h2]
  cases hd:x.o.dst with
  |none=>simp [St.put]
  |some u=>
   simp only [St.put,lk_cons,Option.some.injEq,St.get]
   by_cases h:t=u
   ·subst h;simp [lk]
   ·have h':¬u=t:=fun e=>h e.symm
    simp [h,h']
 ·rw [mrg_os,h1,h2]
  cases x.o.dst<;>simp [St.put,lk]
inductive Anc (all:Array Oper):Nat→Nat→Prop where
 |one {i:Nat} {o:Oper} {ed:Edge} (ho:all[i]? =some o) (he:ed∈o.after) (hb:Region.binds .any ed=true):Anc all ed.on i
 |more {i j:Nat} {o:Oper} {ed:Edge} (ho:all[i]? =some o) (he:ed∈o.after) (hb:Region.binds .any ed=true) (h:Anc all j ed.on):Anc all j i
theorem Anc.inv {all:Array Oper} {j i:Nat} (h:Anc all j i):∃o ed,all[i]? =some o∧ed∈o.after∧Region.binds .any ed=true∧(ed.on=j∨Anc all j ed.on):=by
 cases h with
 |one ho he hb=>exact⟨_,_,ho,he,hb, .inl rfl⟩
 |more ho he hb h=>exact⟨_,_,ho,he,hb, .inr h⟩
def Down (all:Array Oper) (listed:Array Bool):Prop:=∀(i:Nat) o,listed.getD i false=true→all[i]? =some o→∀ed∈o.after,Region.binds .any ed=true→listed.getD ed.on false=true
theorem Anc.listed {all:Array Oper} {listed:Array Bool} (hd:Down all listed) {j i:Nat} (h:Anc all j i):listed.getD i false=true→listed.getD j false=true:=by
 induction h with
 |one ho he hb=>exact fun h=>hd _ _ h ho _ he hb
 |more ho he hb _ ih=>exact fun h=>ih (hd _ _ h ho _ he hb)
def Two (all:Array Oper) (y x:Ent):Prop:=y.i<x.i∧y.r.nx≤x.B∧y.B≤y.r.nx∧(Anc all y.i x.i∨Ind all y x∨(cmB all y.o x.o=true∧y.r.nx=y.B))
theorem Two.sim {y x y' x':Ent} (hy:y'.sh=y.sh) (hx:x'.sh=x.sh) (h:Two all y x):Two all y' x':=by
 obtain⟨a1,a2,a3,a4,a5,a6⟩:=sh_eq hy
 obtain⟨b1,b2,b3,b4,b5,b6⟩:=sh_eq hx
 obtain⟨h1,h2,h3,h4⟩:=h
 refine⟨by omega,by omega,by omega, ?_⟩
 rcases h4 with h|h|h
 ·rw [a1,b1];exact .inl h
 ·refine .inr (.inl ⟨by rw [a2,b2];exact h.a,by rw [a4,b3];exact h.w1,by rw [b4,a3];exact h.w2,by rw [a5,a6,b3];exact h.n1,by rw [a6,b5];exact h.n3,by rw [a5,a6];exact h.n4⟩)
 ·exact .inr (.inr ⟨by rw [a2,b2];exact h.1,by rw [a5,a6];exact h.2⟩)
theorem pw_sim {R:Ent→Ent→Prop} (hR:∀y x y' x':Ent,y'.sh=y.sh→x'.sh=x.sh→R y x→R y' x'):∀{l l':List Ent},l'.map Ent.sh=l.map Ent.sh→l.Pairwise R→l'.Pairwise R
 |[],l',h,_=>by
  have:l'=[]:=by simpa using h
  subst this;exact .nil
 |x::l,[],h,_=>by simp at h
 |x::l,x'::l',h,hp=>by
  simp only [List.map_cons,List.cons.injEq]at h
  obtain⟨h1,h2⟩:=List.pairwise_cons.1 hp
  refine List.pairwise_cons.2 ⟨fun y' hy'=> ?_,pw_sim hR h.2 h2⟩
  have:y'.sh∈l.map Ent.sh:=by rw [←h.2];exact List.mem_map.2 ⟨y',hy',rfl⟩
  obtain⟨y,hy,hyy⟩:=List.mem_map.1 this
  exact hR x y x' y' h.1 hyy.symm (h1 y hy)
theorem mem_sim {l l':List Ent} (h:l'.map Ent.sh=l.map Ent.sh) {y':Ent} (hy:y'∈l'):∃y∈l,y'.sh=y.sh:=by
 have:y'.sh∈l.map Ent.sh:=by rw [←h];exact List.mem_map.2 ⟨y',hy,rfl⟩
 obtain⟨y,hy,hyy⟩:=List.mem_map.1 this
 exact⟨y,hy,hyy.symm⟩
def Free (l:List Ent) (e:St) (id:Nat):Prop:=(∃x∈l,x.B≤id∧id<x.r.nx)∨e.nx≤id
theorem RelP.bool_at (hr:RelP F δ g s a w) {t:Nat} {b:Bool} (h:s.get t= .bool b):a.tmps[t]? =some (.bool b):=by
 unfold St.get at h
 cases hl:lk t s.tm with
 |none=>rw [hl]at h;cases h
 |some d=>
  rw [hl]at h
  obtain⟨v,h1,h2⟩:=hr.tm t d hl
  have e:d= .bool b:=h
  rw [e]at h2
  rw [h1,h2.bool_inv]
theorem RelP.skip_at (hr:RelP F δ g s a w) {t:Nat} (h:s.get t= .skip):a.tmps[t]? =some Go.undef:=by
 unfold St.get at h
 cases hl:lk t s.tm with
 |none=>rw [hl]at h;cases h
 |some d=>
  rw [hl]at h
  obtain⟨v,h1,h2⟩:=hr.tm t d hl
  have e:d= .skip:=h
  rw [e]at h2
  cases h2
  exact h1
theorem ent_sound (hT:TabS P T) {x:Ent} (hg:Good P T all x s) (hd:dstOk1 n x.o=true) (hr:RelP F δ g s a w) (hn:a.tmps.size=n)
 (hF:∀id,x.B≤id→id<x.r.nx→F id) (hF':∀id,F' id→F id∧(id<x.B∨x.r.nx≤id)∧id∉x.T) {K:Act→World→Prop} {Q:Exit→Act→World→Prop}
 (hK:∀g' a' w',RelP F' δ g' (x.app s) a' w'→a'.tmps.size=n→Step g s w g' (x.app s) w'→K a' w'):
 if Region.wanted x.o (yielded all a.tmps)then x.o.wp P a w K Q∨(x.o.asks P a w∧LetsOut Q)else K (a.put x.o.dst undef) w:=by
 have hdo:∀t,x.o.dst=some t→t<n:=fun t ht=>by
  unfold dstOk1 at hd
  rw [ht]at hd
  simpa using hd
 have hE:Ex P T x s→x.o.wp P a w K Q:=fun⟨h1,h2,h3,h4⟩=>by
  have h5:=aop_sound hT x.o hdo h1 (loc_rel hr h2) hn Q
  refine Go.Oper.wp_mono (fun a' w' h6=> ?_) (Oper.wp_put h5)
  obtain⟨⟨g',s',rfl,h7,h8,h9⟩,h10⟩:=h6
  obtain⟨h11,h12⟩:=mrg_rel (F':=F') hr h2 hF hF' h7 h9 h10 h4
  exact hK _ _ _ h11 h8 h12
 have hS:Sk x→K (a.put x.o.dst undef) w:=fun h=>by
  have h1:=(hr.skip x.o.dst (fun t ht=>by rw [hn];exact hdo t ht)).eqv h.eqv
  refine hK g _ _ (h1.less fun id hid=>(hF' id hid).1) (by rw [put_size,hn]) (Step.eqv fun id=> ?_)
  rw [←h.eqv.2]
  cases x.o.dst<;>rfl
 unfold Good at hg
 cases hgd:x.o.guard with
 |none=>
  rw [hgd]at hg
  rw [if_pos (by simp [Region.wanted,hgd])]
  exact .inl (hE hg)
 |some jw=>
  obtain⟨j,wt⟩:=jw
  rw [hgd]at hg
  simp only at hg
  have hwant:Region.wanted x.o (yielded all a.tmps)=(yielded all a.tmps j==some wt):=by simp [Region.wanted,hgd]
  split at hg
  ·rename_i b hb
   cases ht:gtmp all j with
   |none=>rw [ht]at hb;cases hb
   |some t=>
    rw [ht]at hb
    have hv:=hr.bool_at hb
    have hy:yielded all a.tmps j=some b:=by rw [yielded_gtmp,ht];simp [hv]
    rw [hwant,hy]
    by_cases hbw:b=wt
    ·subst hbw
     rw [if_pos (by simp)]
     exact .inl (hE (hg.1 rfl))
    ·rw [if_neg (by simpa using hbw)]
     exact hS (hg.2 (by cases b<;>cases wt<;>simp_all))
  ·rename_i hb
   cases ht:gtmp all j with
   |none=>rw [ht]at hb;cases hb
   |some t=>
    rw [ht]at hb
    have hv:=hr.skip_at hb
    have hy:yielded all a.tmps j=none:=by rw [yielded_gtmp,ht];simp [hv,Go.undef]
    rw [hwant,hy,if_neg (by simp)]
    exact hS hg
  ·cases hg
theorem drawn_sound (hT:TabS P T) (hd:all.toList.all (dstOk1 n)=true) (hE:∀(i:Nat) o,all[i]? =some o→∀ed∈o.after,Region.binds .any ed=true→ed.on<i) {Q:Exit→Act→World→Prop}:∀(fuel:Nat) (listed:Array Bool) (l:List Ent) (g:G) (s:St) (a:Act) (w:World),
 l.length=fuel→listed.size=all.size→Down all listed→(∀i,i<all.size→(listed.getD i true=false↔∃x∈l,x.i=i))→(∀x∈l,all[x.i]? =some x.o)→l.Pairwise (Two all)→(∀x∈l,x.r.nx≤e.nx∧x.B≤x.r.nx)→
 Tr P T all l s e→RelP (Free l e) δ g s a w→a.tmps.size=n→(∀g' a' w',RelP (fun id=>e.nx≤id) δ g' e a' w'→a'.tmps.size=n→Step g s w g' e w'→Q .normal a' w')→
 wpAny P .any all Q fuel listed a w
 |0,listed,l,g,s,a,w,hl,hsz,hdn,hli,ho,hp,hnx,htr,hr,hn,hQ=>by
  have:l=[]:=List.eq_nil_of_length_eq_zero hl
  subst this
  refine⟨?_,hQ g a w ((hr.eqv htr).less fun id hid=> .inr hid) hn (Step.eqv htr.2)⟩
  rw [Region.ready,List.filter_eq_nil_iff]
  intro i hi
  have hi':=List.mem_range.1 hi
  have:listed.getD i true≠false:=fun h=>by
   obtain⟨x,hx,_⟩:=(hli i hi').1 h
   cases hx
  have:listed.getD i true=true:=by simpa using this
  simp [this]
 |fuel+1,listed,l,g,s,a,w,hl,hsz,hdn,hli,ho,hp,hnx,htr,hr,hn,hQ=>by
  have hlt:∀x∈l,x.i<all.size:=fun x hx=>(Array.getElem?_eq_some_iff.1 (ho x hx)).1
  refine⟨fun h0=> ?_,fun i hi=> ?_⟩
  ·
   cases l with
   |nil=>simp at hl
   |cons y l=>
    exfalso
    have hy:=ho y (by simp)
    have hyl:=hlt y (by simp)
    have:y.i∈Region.ready .any all listed:=by
     rw [Region.ready,List.mem_filter]
     refine⟨List.mem_range.2 hyl, ?_⟩
     have h1:listed.getD y.i true=false:=(hli y.i hyl).2 ⟨y,by simp,rfl⟩
     rw [h1,hy]
     simp only [Bool.not_false,Option.map_some,Option.getD_some,Bool.true_and,Array.all_eq_true_iff_forall_mem]
     intro ed hed
     by_cases hb:Region.binds .any ed=true
     ·have h2:=hE y.i y.o hy ed hed hb
      have h3:listed.getD ed.on true≠false:=fun h=>by
       obtain⟨z,hz,hzi⟩:=(hli ed.on (by omega)).1 h
       rcases List.mem_cons.1 hz with rfl|hz
       ·omega
       ·have:=(List.rel_of_pairwise_cons hp hz).1
        omega
      have h4:ed.on<listed.size:=by omega
      have h5:listed.getD ed.on true=true:=by simpa using h3
      have h6:listed.getD ed.on false=true:=by
       simp only [Array.getD,h4,dif_pos]at h5⊢
       exact h5
      simp [hb,h6]
     ·simp [hb]
    rw [h0]at this
    cases this
  ·rw [Region.ready,List.mem_filter]at hi
   obtain⟨hi1,hi2⟩:=hi
   have hi1':=List.mem_range.1 hi1
   simp only [Bool.and_eq_true,Bool.not_eq_true']at hi2
   obtain⟨hi3,hi4⟩:=hi2
   obtain⟨x,hx,rfl⟩:=(hli i hi1').1 hi3
   have hxo:=ho x hx
   rw [hxo]at hi4
   simp only [Option.map_some,Option.getD_some,Array.all_eq_true_iff_forall_mem]at hi4
   obtain⟨pre,post,rfl⟩:=List.append_of_mem hx
   have hpp:=List.pairwise_append.1 hp
   have hind:∀y∈pre,Ind all y x∨(cmB all y.o x.o=true∧y.r.nx=y.B):=fun y hy=>by
    obtain⟨h1,_,_,h2⟩:=hpp.2.2 y hy x (by simp)
    refine h2.resolve_left fun he=> ?_
    have hgo:∀ed∈x.o.after,Region.binds .any ed=true→listed.getD ed.on false=true:=fun ed hed hb=>by
     have:=hi4 ed hed
     rw [hb]at this
     simpa using this
    have h5:listed.getD y.i false=true:=by
     obtain⟨o,ed,ho',he',hb,h⟩:=he.inv
     rw [hxo]at ho';cases ho'
     rcases h with h|h
     ·rw [←h];exact hgo _ he' hb
     ·exact h.listed hdn (hgo _ he' hb)
    have h6:listed.getD y.i true=false:=(hli y.i (hlt y (by simp [hy]))).2 ⟨y,by simp [hy],rfl⟩
    have h7:y.i<listed.size:=by rw [hsz];exact hlt y (by simp [hy])
    simp only [Array.getD,h7,dif_pos]at h5 h6
    rw [h5]at h6
    cases h6
   obtain⟨hgx,pre',hsim,htr'⟩:=Tr.front (fun y hy=>(hind y hy).imp_right (·.1)) htr
   have hn1:∀y∈pre,∀id∈x.T,¬(y.B≤id∧id<y.r.nx):=fun y hy id hid=>by
    rcases hind y hy with h|h
    ·exact h.n1 id hid
    ·omega
   have hsim2:(pre'++post).map Ent.sh=(pre++post).map Ent.sh:=by rw [List.map_append,List.map_append,hsim]
   have hback:∀y'∈pre'++post,∃y∈pre++post,y'.sh=y.sh:=fun y' hy'=>mem_sim hsim2 hy'
   have hpost:∀y∈post,x.r.nx≤y.B:=fun y hy=>(List.rel_of_pairwise_cons hpp.2.1 hy).2.1
   have hpre:∀y∈pre,y.r.nx≤x.B:=fun y hy=>(hpp.2.2 y hy x (by simp)).2.1
   have hxnx:=hnx x (by simp)
   have hlow:=hgx.facts.2.2
   unfold wpOp
   rw [hxo]
   refine ent_sound (F':=Free (pre'++post) e) hT hgx (List.all_eq_true.1 hd x.o (by simpa using Array.mem_of_getElem? hxo)) hr hn (fun id h1 h2=> .inl ⟨x,by simp,h1,h2⟩) (fun id hid=> ?_) fun g' a' w' hr' hn' hst=> ?_
   ·rcases hid with⟨y',hy',h1,h2⟩|h1
    ·obtain⟨y,hy,hyy⟩:=hback y' hy'
     obtain⟨_,_,_,_,a5,a6⟩:=sh_eq hyy
     rw [a5]at h1
     rw [a6]at h2
     rcases List.mem_append.1 hy with hy|hy
     ·have h3:=hpre y hy
      exact⟨.inl ⟨y,by simp [hy],h1,h2⟩, .inl (by omega),fun hm=>hn1 y hy id hm ⟨h1,h2⟩⟩
     ·have h3:=hpost y hy
      exact⟨.inl ⟨y,by simp [hy],h1,h2⟩, .inr (by omega),fun hm=>by have:=hlow id hm;omega⟩
    ·exact⟨.inr h1, .inr (by omega),fun hm=>by have:=hlow id hm;omega⟩
   ·have hlen':pre'.length=pre.length:=by simpa using congrArg List.length hsim
    refine drawn_sound hT hd hE fuel _ (pre'++post) g' _ a' w' (by simp at hl⊢;omega) (by simpa using hsz) ?_ (fun i hi=> ?_) (fun y' hy'=> ?_) ?_ (fun y' hy'=> ?_) htr' hr' hn'
     (fun g'' a'' w'' h1 h2 h3=>hQ g'' a'' w'' h1 h2 (hst.trans h3))
    ·intro i o hi ho' ed hed hb
     have hset:∀k:Nat,listed.getD k false=true→(listed.setIfInBounds x.i true).getD k false=true:=fun k hk=>by
      by_cases hkx:k=x.i
      ·subst hkx
       simp [Array.getD,hsz,hi1']
      ·rw [getD_set_ne false (fun h=>hkx h.symm)];exact hk
     refine hset _ ?_
     by_cases hix:i=x.i
     ·subst hix
      rw [hxo]at ho';cases ho'
      have:=hi4 ed hed
      rw [hb]at this
      simpa using this
     ·rw [getD_set_ne false (fun h=>hix h.symm)]at hi
      exact hdn i o hi ho' ed hed hb
    ·have hne:∀y∈pre++post,y.i≠x.i:=fun y hy=>by
      rcases List.mem_append.1 hy with hy|hy
      ·have:=(hpp.2.2 y hy x (by simp)).1;omega
      ·have:=(List.rel_of_pairwise_cons hpp.2.1 hy).1;omega
     by_cases hix:i=x.i
     ·subst hix
      have h7:x.i<listed.size:=by omega
      constructor
      ·intro h
       simp [Array.getD,h7]at h
      ·rintro⟨y',hy',hyi⟩
       obtain⟨y,hy,hyy⟩:=hback y' hy'
       exact absurd ((sh_eq hyy).1.symm.trans hyi) (hne y hy)
     ·have:(listed.setIfInBounds x.i true).getD i true=listed.getD i true:=by
       have hix':x.i≠i:=fun h=>hix h.symm
       simp only [Array.getD,Array.size_setIfInBounds]
       split
       ·simp only [Array.getInternal_eq_getElem]
        exact Array.getElem_setIfInBounds_ne _ hix'
       ·rfl
      rw [this,hli i hi]
      constructor
      ·rintro⟨y,hy,hyi⟩
       have hy2:y∈pre++post:=by
        simp at hy⊢
        rcases hy with h|h|h
        ·exact .inl h
        ·subst h;exact absurd hyi.symm hix
        ·exact .inr h
       obtain⟨y',hy',hyy⟩:=mem_sim hsim2.symm hy2
       exact⟨y',hy',(sh_eq hyy).1.symm.trans hyi⟩
      ·rintro⟨y',hy',hyi⟩
       obtain⟨y,hy,hyy⟩:=hback y' hy'
       exact⟨y,by simp at hy⊢;rcases hy with h|h<;>simp [h],(sh_eq hyy).1.symm.trans hyi⟩
    ·obtain⟨y,hy,hyy⟩:=hback y' hy'
     obtain⟨a1,a2,_⟩:=sh_eq hyy
     rw [a1,a2]
     exact ho y (by simp at hy⊢;rcases hy with h|h<;>simp [h])
    ·exact pw_sim (fun _ _ _ _ h1 h2 h3=>h3.sim h1 h2) hsim2 (hp.sublist (by simp))
    ·obtain⟨y,hy,hyy⟩:=hback y' hy'
     obtain⟨_,_,_,_,a5,a6⟩:=sh_eq hyy
     rw [a5,a6]
     exact hnx y (by simp at hy⊢;rcases hy with h|h<;>simp [h])
end
open Go
section
variable {δ:List Deferred} {P:Program} {T:Tab} {all:Array Oper} {s s' s'' e:St} {n N:Nat}
def mem (n:Nat):List Nat→Bool
 |[]=>false
 |m::l=>if n=m then true else mem n l
def sub:List Nat→List Nat→Bool
 |[],_=>true
 |n::l,m=>if mem n m=true then sub l m else false
def apt:List Nat→List Nat→Bool
 |[],_=>true
 |n::l,m=>if mem n m=true then false else apt l m
def low (B:Nat):List Nat→Bool
 |[]=>true
 |n::l=>if n<B then low B l else false
def inR (T:List Nat) (B nx n:Nat):Bool:=if mem n T=true then true else if B≤n then(if n<nx then true else false)else false
def allR (T:List Nat) (B nx:Nat):List Nat→Bool
 |[]=>true
 |n::l=>if inR T B nx n=true then allR T B nx l else false
def outR (B nx:Nat):List Nat→Bool
 |[]=>true
 |n::l=>if B≤n then(if n<nx then false else outR B nx l)else outR B nx l
def ins (n:Nat) (l:List Nat):List Nat:=if mem n l=true then l else n::l
def uni:List Nat→List Nat→List Nat
 |[],m=>m
 |n::l,m=>uni l (ins n m)
theorem mem_iff {n:Nat}:∀{l:List Nat},mem n l=true↔n∈l
 |[]=>by simp [mem]
 |m::l=>by
  rw [mem]
  by_cases h:n=m<;>simp [h,mem_iff]
theorem sub_iff {m:List Nat}:∀{l:List Nat},sub l m=true↔∀n∈l,n∈m
 |[]=>by simp [sub]
 |n::l=>by
  rw [sub]
  by_cases h:n∈m<;>simp [mem_iff,h,sub_iff]
theorem apt_iff {m:List Nat}:∀{l:List Nat},apt l m=true↔∀n∈l,n∉m
 |[]=>by simp [apt]
 |n::l=>by
  rw [apt]
  by_cases h:n∈m<;>simp [mem_iff,h,apt_iff]
theorem low_iff {B:Nat}:∀{l:List Nat},low B l=true↔∀n∈l,n<B
 |[]=>by simp [low]
 |n::l=>by
  rw [low]
  by_cases h:n<B<;>simp [h,low_iff]
theorem inR_iff {T:List Nat} {B nx n:Nat}:inR T B nx n=true↔n∈T∨B≤n∧n<nx:=by
 unfold inR
 by_cases h:n∈T
 ·simp [mem_iff,h]
 ·by_cases h1:B≤n<;>by_cases h2:n<nx<;>simp [mem_iff,h,h1,h2]
theorem allR_iff {T:List Nat} {B nx:Nat}:∀{l:List Nat},allR T B nx l=true↔∀n∈l,n∈T∨B≤n∧n<nx
 |[]=>by simp [allR]
 |n::l=>by
  rw [allR]
  by_cases h:inR T B nx n=true
  ·rw [if_pos h,allR_iff]
   simp [inR_iff.1 h]
  ·rw [if_neg h]
   have:¬_:=fun h'=>h (inR_iff.2 h')
   simp [this]
theorem outR_iff {B nx:Nat}:∀{l:List Nat},outR B nx l=true↔∀n∈l,¬(B≤n∧n<nx)
 |[]=>by simp [outR]
 |n::l=>by
  rw [outR]
  by_cases h1:B≤n<;>by_cases h2:n<nx<;>simp [h1,h2,outR_iff]<;>omega
def midsA:List (Nat×D)→List Nat
 |[]=>[]
 |(_,d)::l=>mids d++midsA l
def mobO:Option Ob→List Nat
 |none=>[]
 |some o=>mob o
def cont (os:List (Nat×Ob)):List Nat→List Nat
 |[]=>[]
 |n::l=>mobO (lk n os)++cont os l
def clo (os:List (Nat×Ob)) (ids:List Nat):List Nat:=uni (cont os (uni (cont os ids) ids)) (uni (cont os ids) ids)
def valsB (T:List Nat):List (Nat×D)→Bool
 |[]=>true
 |(_,d)::l=>if sub (mids d) T=true then valsB T l else false
def obsB (T:List Nat):List (Nat×Ob)→Bool
 |[]=>true
 |(_,o)::l=>if sub (mob o) T=true then obsB T l else false
def rosB (T:List Nat) (B nx:Nat):List (Nat×Ob)→Bool
 |[]=>true
 |(m,o)::l=>if inR T B nx m=true then(if allR T B nx (mob o)=true then rosB T B nx l else false)else false
def rvP (T:List Nat) (B nx:Nat) (tm:List (Nat×D)):Option Nat→Prop
 |none=>True
 |some t=>match lk t tm with
  |some d=>allR T B nx (mids d)=true
  |none=>False
def sameO (W:List Nat) (os' os:List (Nat×Ob)):List Nat→Prop
 |[]=>True
 |n::l=>(if mem n W=true then True else lk n os'=lk n os)∧sameO W os' os l
def stOp:Op→Bool
 | .store .. =>true
 | .mapUpdate .. =>true
 | .insert .. =>true
 | .mapEntry .. =>true
 | .entryStore .. =>true
 | .next .. =>true
 | .call c=>match c.callee with
  | .builtin .append=>true
  | .builtin .copy=>true
  | .builtin .clear=>true
  |_=>false
 |_=>false
def gone (os:List (Nat×Ob)):List Nat→List Nat
 |[]=>[]
 |n::l=>match lk n os with
  |some _=>gone os l
  |none=>n::gone os l
def wOf (st:Bool) (T:List Nat) (os:List (Nat×Ob)):List Nat:=match st with
 |true=>T
 |false=>gone os T
theorem valsB_spec {T:List Nat}:∀{l:List (Nat×D)},valsB T l=true→∀t d,(t,d)∈l→∀id∈mids d,id∈T
 |[],_,_,_,h=>by cases h
 |(m,x)::l,h,t,d,hm=>by
  rw [valsB]at h
  split at h
  ·rename_i hs
   rcases List.mem_cons.1 hm with e|hm
   ·cases e;exact sub_iff.1 hs
   ·exact valsB_spec h t d hm
  ·cases h
theorem obsB_spec {T:List Nat}:∀{l:List (Nat×Ob)},obsB T l=true→∀t d,(t,d)∈l→∀id∈mob d,id∈T
 |[],_,_,_,h=>by cases h
 |(m,x)::l,h,t,d,hm=>by
  rw [obsB]at h
  split at h
  ·rename_i hs
   rcases List.mem_cons.1 hm with e|hm
   ·cases e;exact sub_iff.1 hs
   ·exact obsB_spec h t d hm
  ·cases h
theorem rosB_spec {T:List Nat} {B nx:Nat}:∀{l:List (Nat×Ob)},rosB T B nx l=true→∀i o,(i,o)∈l→(i∈T∨B≤i∧i<nx)∧∀id∈mob o,id∈T∨B≤id∧id<nx
 |[],_,_,_,h=>by cases h
 |(m,x)::l,h,t,d,hm=>by
  rw [rosB]at h
  split at h
  ·rename_i h1
   split at h
   ·rename_i h2
    rcases List.mem_cons.1 hm with e|hm
    ·cases e;exact⟨inR_iff.1 h1,allR_iff.1 h2⟩
    ·exact rosB_spec h t d hm
   ·cases h
  ·cases h
theorem sameO_spec {W:List Nat} {os' os:List (Nat×Ob)}:∀{l:List Nat},sameO W os' os l→∀id∈l,id∉W→lk id os'=lk id os
 |[],_,_,h,_=>by cases h
 |m::l,h,id,hm,hw=>by
  obtain⟨h1,h2⟩:=h
  rcases List.mem_cons.1 hm with e|hm
  ·subst e
   rw [if_neg (by simpa [mem_iff]using hw)]at h1
   exact h1
  ·exact sameO_spec h2 id hm hw
theorem fit_of {rd Tt:List Nat} {B:Nat} {d:Option Nat} {r:St} (h1:low B Tt=true) (h2:valsB Tt (pickL rd s.tm)=true) (h3:obsB Tt (pickL Tt s.os)=true) (h4:B≤r.nx) (h5:rosB Tt B r.nx r.os=true) (h6:rvP Tt B r.nx r.tm d):
 Fit rd Tt B d s r where
 low:=low_iff.1 h1
 vals t x ht hx:=valsB_spec h2 t x (lk_mem (by rw [lk_pickL,if_pos ht];exact hx))
 obs i o hi ho:=obsB_spec h3 i o (lk_mem (by rw [lk_pickL,if_pos hi];exact ho))
 nx:=h4
 ros i o hi:=rosB_spec h5 i o (lk_mem hi)
 rv t ht:=by
  subst ht
  simp only [rvP]at h6
  cases hl:lk t r.tm with
  |none=>rw [hl]at h6;cases h6
  |some y=>
   rw [hl]at h6
   have:r.get t=y:=by simp [St.get,hl]
   rw [this]
   exact allR_iff.1 h6
def okX (x:Option (Prop×D)) (d:Option Nat) (s:St) (K:St→Prop):Prop:=match x with|some (_,v)=>K (s.put d v)|none=>False
def aclX (T:Tab) (f:D) (args:List D) (d:Option Nat) (s:St) (K:St→Prop):Prop:=match f with
 | .fn (.func g) fi ca=>ovm T g=false∧match look T s.os s.nx g (fi++args++ca)with
  |some (p,r,os',nx')=>p∧K (St.put ⟨s.tm,os',nx'⟩ d r)
  |none=>False
 |_=>False
def aopX (P:Program) (T:Tab) (o:Oper) (s:St) (K:St→Prop):Prop:=
 match o.op with
 | .binOp op t x y _=>nilq P op t (s.ev x) (s.ev y)=none∧faD op (s.ev x) (s.ev y)=none∧okP (binD P op t (s.ev x) (s.ev y)) o.dst s K
 | .call c=>match c.callee with
  | .builtin .len=>match c.args.toList,c.argTypes.toList with
   |[x],[t]=>(elOf P t).isSome=true∧okX (lenD (s.ev x)) o.dst s K
   |_,_=>False
  | .builtin .append=>match c.args.toList,c.argTypes.toList with
   |[x,y],[t,u]=>appM P s t u (s.ev x) (s.ev y)=none∧t=u∧okT (appD P s t o.dst (s.ev x) (s.ev y)) fun s'=>K (app8 P t (s.ev x) o.dst s')
   |_,_=>False
  | .value f=>aclX T (s.ev f) (c.args.toList.map s.ev) o.dst s K
  |_=>aop P T o s K
 | .next _ _=>False
 |_=>aop P T o s K
section
variable {K:St→Prop} {d:Option Nat}
theorem okD_det {x:Option D} (h:okD x d s K):∃r,okD x d s (fun z=>z=r)∧K r:=by
 cases x with
 |none=>cases h
 |some v=>exact⟨_,rfl,h⟩
theorem okP_det {x:Option (Prop×D)} (h:okP x d s K):∃r,okP x d s (fun z=>z=r)∧K r:=by
 cases x with
 |none=>cases h
 |some v=>exact⟨_,⟨h.1,rfl⟩,h.2⟩
theorem okB_det {x:Option D} (h:okB x d s K):∃r,okB x d s (fun z=>z=r)∧K r:=by
 unfold okB at*
 cases x with
 |none=>cases h
 |some v=>
  simp only at*
  split at h
  ·rename_i hc;exact⟨_,by simp [hc],h⟩
  ·cases h
theorem okV_det {x:Option (Nat×TypeId×List (List C))} (h:okV x d s K):∃r,okV x d s (fun z=>z=r)∧K r:=by
 cases x with
 |none=>cases h
 |some v=>exact⟨_,rfl,h⟩
theorem okS_det {x:Option St} (h:okS x K):∃r,okS x (fun z=>z=r)∧K r:=by
 cases x with
 |none=>cases h
 |some v=>exact⟨_,rfl,h⟩
theorem okT_det {x:Option (Prop×St)} (h:okT x K):∃r,okT x (fun z=>z=r)∧K r:=by
 cases x with
 |none=>cases h
 |some v=>exact⟨_,⟨h.1,rfl⟩,h.2⟩
theorem okQ_det {x:Option (Prop×D×St)} (h:okQ x d K False):∃r,okQ x d (fun z=>z=r) False∧K r:=by
 cases x with
 |none=>cases h
 |some v=>exact⟨_,⟨h.1,rfl⟩,h.2⟩
theorem okE_det {x:Option (St×D)} {d:Option Nat} {K:St→Prop} (h:okE x d K):∃r,okE x d (fun z=>z=r)∧K r:=by
 unfold okE at*
 split at h
 ·exact⟨_,rfl,h⟩
 ·cases h
theorem okL_det {x:Option (Option D×D)} {ok:Bool} (h:okL x ok d s K):∃r,okL x ok d s (fun z=>z=r)∧K r:=by
 unfold okL at*
 split at h
 ·exact⟨_,rfl,h⟩
 ·exact⟨_,rfl,h⟩
 ·cases h
theorem pk_det {c x y:D} (h:pk c x y d s K):∃r,pk c x y d s (fun z=>z=r)∧K r:=by
 unfold pk at*
 split at h
 ·rename_i b
  cases b
  ·exact⟨s.put d y,by simp,h.2 rfl⟩
  ·exact⟨s.put d x,by simp,h.1 rfl⟩
 ·cases h
theorem nchk_det {x:D} (h:nchk x d s K):∃r,nchk x d s (fun z=>z=r)∧K r:=by
 unfold nchk at*
 split at h
 ·exact⟨_,rfl,h⟩
 ·exact⟨_,rfl,h⟩
 ·exact⟨_,rfl,h⟩
 ·exact⟨_,rfl,h⟩
 ·cases h
theorem aopX_det {o:Oper} (h:aopX P T o s K):∃r,aop P T o s (fun z=>z=r)∧K r:=by
 unfold aopX at h
 unfold aop at*
 cases ho:o.op with
 |binOp op t x y _=>
  rw [ho]at h
  obtain⟨h1,h2,h2'⟩:=h
  obtain⟨r,h3,h4⟩:=okP_det h2'
  exact⟨r,by simp only [h1,h2,okU,okA];exact h3,h4⟩
 |call c=>
  rw [ho]at h
  simp only at*
  cases hc:c.callee with
  |builtin b=>
   rw [hc]at h
   cases b with
   |len=>
    simp only at h⊢
    split at h
    ·obtain⟨h1,h2⟩:=h
     rename_i x t hx ht
     unfold okX at h2
     split at h2
     ·rename_i p v hl
      refine⟨s.put o.dst v, ?_,h2⟩
      rw [hx,ht]
      exact⟨h1,by rw [hl];exact fun _=>rfl⟩
     ·cases h2
    ·cases h
   |min=>exact okD_det h
   |max=>exact okD_det h
   |append=>
    simp only at h⊢
    split at h
    ·obtain⟨h0,h1,h2⟩:=h
     obtain⟨r,h3,h4⟩:=okT_det h2
     rename_i x y t u hx ht
     simp only [hx,ht,h0,okM]
     refine⟨_,⟨h1, ?_⟩,h4⟩
     unfold okT at h3⊢
     split at h3
     ·exact⟨h3.1,by rw [h3.2]⟩
     ·cases h3
    ·cases h
   |cap=>
    simp only at h⊢
    split at h
    ·obtain⟨h1,h2⟩:=h
     rename_i x t hx ht
     obtain⟨r,h3,h4⟩:=okP_det h2
     exact⟨r,⟨h1,h3⟩,h4⟩
    ·cases h
   |clear=>
    simp only at h⊢
    split at h
    ·rename_i x t hx ht
     obtain⟨r,h3,h4⟩:=okQ_det h
     exact⟨r,h3,h4⟩
    ·cases h
   |copy=>
    simp only at h⊢
    split at h
    ·rename_i x y t u hx ht
     obtain⟨r,h3,h4⟩:=okQ_det h
     exact⟨r,h3,h4⟩
    ·cases h
   |_=>cases h
  |value f=>
   rw [hc]at h
   simp only [aclX]at h⊢
   split at h
   ·rename_i g fi ca hf
    obtain⟨h0,h⟩:=h
    split at h
    ·rename_i p r os' nx' hl
     refine⟨_, ?_,h.2⟩
     rw [hf]
     simp only [XCall,hl,h0]
     first|exact⟨h.1,rfl⟩|exact⟨h.1,trivial⟩
    ·cases h
   ·cases h
  |_=>rw [hc]at h;simp_all
 |move x=>rw [ho]at h;exact⟨_,rfl,h⟩
 |assign x=>rw [ho]at h;exact⟨_,rfl,h⟩
 |makeFunc f fi ca=>rw [ho]at h;exact⟨_,rfl,h⟩
 |pick c a b=>rw [ho]at h;exact pk_det h
 |alloc t=>rw [ho]at h;exact okB_det h
 |box t x=>rw [ho]at h;exact okB_det h
 |build t ps=>rw [ho]at h;exact okD_det h
 |buildSlice t m ps=>rw [ho]at h;exact okV_det h
 |load t x=>rw [ho]at h;exact okD_det h
 |store t p x=>
  rw [ho]at h
  simp only at h⊢
  obtain⟨r,h1,h2⟩:=okS_det h
  cases hx:stD P s t (s.ev p) (s.ev x)with
  |none=>rw [hx]at h;cases h
  |some s1=>
   rw [hx]at h
   exact⟨_,rfl,h⟩
 |nilCheck x=>rw [ho]at h;exact nchk_det h
 |unOp op t x=>rw [ho]at h;exact okD_det h
 |convert a b x=>rw [ho]at h;exact okD_det h
 |makeSlice t l c=>rw [ho]at h;exact okT_det h
 |slice t x lo hi mx=>
  rw [ho]at h
  simp only [okQ,okF]at h⊢
  split at h
  ·split at h
   ·exact⟨_,⟨h.1,rfl⟩,h.2⟩
   ·cases h
  ·split at h
   ·exact⟨_,⟨h.1,rfl⟩,h.2⟩
   ·exact okP_det h
 |fieldAddr t x f=>rw [ho]at h;exact okD_det h
 |field t x f=>rw [ho]at h;exact okD_det h
 |indexAddr t x i=>rw [ho]at h;exact okP_det h
 |index t x i=>rw [ho]at h;exact okP_det h
 |extract x i=>rw [ho]at h;exact okD_det h
 |makeMap t r=>rw [ho]at h;exact okS_det h
 |lookup t x i ok=>rw [ho]at h;exact okL_det h
 |mapUpdate t m k x=>
  rw [ho]at h
  show∃r,(okS (mpU P s t (s.ev m) (s.ev k) (s.ev x)) fun s'=>s'.put o.dst .skip=r)∧K r
  have h':okS (mpU P s t (s.ev m) (s.ev k) (s.ev x)) fun s'=>K (s'.put o.dst .skip):=h
  cases hx:mpU P s t (s.ev m) (s.ev k) (s.ev x)with
  |none=>rw [hx]at h';cases h'
  |some s1=>
   rw [hx]at h'
   exact⟨_,rfl,h'⟩
 |insert t m k x=>
  rw [ho]at h
  show∃r,(okS (mpU P s t (s.ev m) (s.ev k) (s.ev x)) fun s'=>s'.put o.dst .skip=r)∧K r
  have h':okS (mpU P s t (s.ev m) (s.ev k) (s.ev x)) fun s'=>K (s'.put o.dst .skip):=h
  cases hx:mpU P s t (s.ev m) (s.ev k) (s.ev x)with
  |none=>rw [hx]at h';cases h'
  |some s1=>
   rw [hx]at h'
   exact⟨_,rfl,h'⟩
 |mapEntry t m k=>rw [ho]at h;exact okE_det h
 |entryStore t m i x=>
  rw [ho]at h
  show∃r,(okS (esU s (s.ev m) (s.ev i) (s.ev x)) fun s'=>s'.put o.dst .skip=r)∧K r
  have h':okS (esU s (s.ev m) (s.ev i) (s.ev x)) fun s'=>K (s'.put o.dst .skip):=h
  cases hx:esU s (s.ev m) (s.ev i) (s.ev x)with
  |none=>rw [hx]at h';cases h'
  |some s1=>
   rw [hx]at h'
   exact⟨_,rfl,h'⟩
 |range t x=>rw [ho]at h;exact okS_det h
 |next x str=>rw [ho]at h;exact h.elim
 |entry x=>rw [ho]at h;exact okD_det h
 |_=>rw [ho]at h;simp_all
end
end
open Go
section
variable {δ:List Deferred} {P:Program} {T:Tab} {all:Array Oper} {s s' s'' e:St} {n N:Nat} {K:St→Prop}
structure Ft where
 i:Nat
 T:List Nat
 W:List Nat
 B:Nat
 nx:Nat
def bnd:Ground→Bool
 | .textOnly _=>false
 | .gcOnly _=>false
 |_=>true
def indF (y x:Ft):Bool:=if apt y.W x.T=true then(if apt x.W y.T=true then outR y.B y.nx x.T else false)else false
def bitN (m i:Nat):Bool:=if(m>>>i) % 2=1 then true else false
def accB (u:Nat) (x:Ft):List Ft→Prop
 |[]=>True
 |y::l=>(if(u>>>y.i) % 2=1 then True else indF y x=true)∧accB u x l
def uh:List Nat→Nat
 |[]=>0
 |u::_=>u
def ut:List Nat→List Nat
 |[]=>[]
 |_::us=>us
def push (x:Ft) (l:List Ft):List Ft:=match x.T with
 |_::_=>x::l
 |[]=>if x.nx=x.B then l else x::l
def dxW (P:Program) (o:Oper) (u i:Nat) (acc:List Ft) (s:St) (Tt:List Nat) (r:St) (k:List Ft→St→Prop) (W:List Nat):Prop:=
 low s.nx Tt=true∧valsB Tt (pickL (opT o) s.tm)=true∧obsB Tt (pickL Tt s.os)=true∧s.nx≤r.nx∧rosB Tt s.nx r.nx r.os=true∧rvP Tt s.nx r.nx r.tm o.dst∧sameO W r.os s.os Tt∧
  accB u ⟨i,Tt,W,s.nx,r.nx⟩ acc∧k (push ⟨i,Tt,W,s.nx,r.nx⟩ acc) (s.mrg Tt o.dst r)
def wSl (u:Nat) (W:List Nat):List Nat:=if(u>>>100) % 2=1 then []else W
def dxR (P:Program) (o:Oper) (u i:Nat) (acc:List Ft) (s:St) (Tt:List Nat) (k:List Ft→St→Prop) (r:St):Prop:=dxW P o u i acc s Tt r k (wSl u (wOf (stOp o.op) Tt r.os))
def dxL (P:Program) (T:Tab) (o:Oper) (u i:Nat) (acc:List Ft) (s:St) (k:List Ft→St→Prop) (Tt:List Nat):Prop:=
 aopX P T o (s.loc (opT o) Tt s.nx) (dxR P o u i acc s Tt k)
def dxE (P:Program) (T:Tab) (o:Oper) (u i:Nat) (acc:List Ft) (s:St) (k:List Ft→St→Prop):Prop:=
 dxL P T o u i acc s k (clo s.os (uni (midsA (pickL (opT o) s.tm)) []))
def dx (P:Program) (T:Tab) (all:Array Oper):List Oper→List Nat→Nat→List Ft→(St→Prop)→St→Prop
 |[],_,_,_,K,s=>K s
 |o::rest,us,i,acc,K,s=>match o.guard with
  |none=>dxE P T o (uh us) i acc s fun acc' s'=>dx P T all rest (ut us) (i+1) acc' K s'
  |some (j,w)=>grd (gtmp all j) (s.gd (gtmp all j)) w (fun s=>dxE P T o (uh us) i acc s fun acc' s'=>dx P T all rest (ut us) (i+1) acc' K s') (fun s=>dx P T all rest (ut us) (i+1) acc K (s.put o.dst .skip)) s
def Ent.ft (x:Ent):Ft:=⟨x.i,x.T,x.W,x.B,x.r.nx⟩
theorem accB_spec {u:Nat} {x:Ft}:∀{l:List Ft},accB u x l→∀y∈l,indF y x=true∨bitN u y.i=true
 |[],_,_,h=>by cases h
 |z::l,h,y,hy=>by
  obtain⟨h1,h2⟩:=h
  rcases List.mem_cons.1 hy with rfl|hy
  ·split at h1
   ·rename_i hh;exact .inr (by rw [bitN,if_pos hh])
   ·exact .inl h1
  ·exact accB_spec h2 y hy
theorem indF_none {y x:Ft} (h1:y.T=[]) (h2:y.W=[]) (h3:y.nx=y.B):indF y x=true:=by
 have ha:∀l:List Nat,apt l []=true:=fun l=>apt_iff.2 (by simp)
 unfold indF
 rw [h2,h1,if_pos (by rfl),if_pos (ha _),outR_iff]
 intro n _
 omega
theorem indF_none2 {y x:Ft} (h1:x.T=[]) (h2:x.W=[]):indF y x=true:=by
 have ha:∀l:List Nat,apt l []=true:=fun l=>apt_iff.2 (by simp)
 unfold indF
 rw [h2,h1,if_pos (ha _),if_pos (by rfl)]
 rfl
theorem put_eqv {d:Option Nat} {v:D} (h:Eqv s s'):Eqv (s.put d v) (s'.put d v):=by
 cases d with
 |none=>exact h
 |some t=>exact⟨fun u=>by simp only [St.put,lk_cons,h.1],h.2⟩
theorem wOf_nil {b:Bool} {os:List (Nat×Ob)}:wOf b [] os=[]:=by cases b<;>rfl
theorem indF_spec {y x:Ft} (h:indF y x=true):(∀id∈y.W,id∉x.T)∧(∀id∈x.W,id∉y.T)∧∀id∈x.T,¬(y.B≤id∧id<y.nx):=by
 unfold indF at h
 split at h
 ·rename_i h1
  split at h
  ·rename_i h2;exact⟨apt_iff.1 h1,apt_iff.1 h2,outR_iff.1 h⟩
  ·cases h
 ·cases h
structure Out (P:Program) (T:Tab) (all:Array Oper) (ops:List Oper) (us:List Nat) (i:Nat) (acc:List Ft) (s:St) (l:List Ent) (e:St):Prop where
 tr:Tr P T all l s e
 nums:∀j o,ops[j]? =some o→∃x∈l,x.i=i+j
 of:∀x∈l,∃j,x.i=i+j∧ops[j]? =some x.o
 nx:s.nx≤e.nx
 lo:∀x∈l,s.nx≤x.B∧x.B≤x.r.nx∧x.r.nx≤e.nx
 two:l.Pairwise fun y x=>y.i<x.i∧y.r.nx≤x.B∧y.B≤y.r.nx∧(indF y.ft x.ft=true∨bitN (us.getD (x.i - i) 0) y.i=true)
 acc:∀y∈acc,∀x∈l,indF y x.ft=true∨bitN (us.getD (x.i - i) 0) y.i=true
theorem put_mrg (s:St) (d:Option Nat):Eqv (s.put d .skip) (s.mrg [] d ((⟨[],[],s.nx⟩:St).put d .skip)):=
 Sk.eqv (x:=⟨0,⟨d, .move (.tmp 0),0, "", #[],none⟩,[],[],s.nx,(⟨[],[],s.nx⟩:St).put d .skip⟩) ⟨rfl,rfl⟩
theorem dxE_out {o:Oper} {u i:Nat} {acc:List Ft} {k:List Ft→St→Prop} (h:dxE P T o u i acc s k):
 ∃x:Ent,x.i=i∧x.o=o∧x.B=s.nx∧Ex P T x s∧s.nx≤x.r.nx∧(∀y∈acc,indF y x.ft=true∨bitN u y.i=true)∧(x.T=[]→x.W=[])∧k (push x.ft acc) (x.app s):=by
 unfold dxE dxL at h
 generalize clo s.os (uni (midsA (pickL (opT o) s.tm)) [])=Tt at h
 obtain⟨r,h1,h2⟩:=aopX_det h
 unfold dxR at h2
 have hW:Tt=[]→wSl u (wOf (stOp o.op) Tt r.os)=[]:=fun h=>by subst h;rw [wOf_nil];unfold wSl;split<;>rfl
 generalize wSl u (wOf (stOp o.op) Tt r.os)=W at h2 hW
 obtain⟨h3,h4,h5,h6,h7,h8,h9,h10,h11⟩:=h2
 refine⟨⟨i,o,Tt,W,s.nx,r⟩,rfl,rfl,rfl,⟨h1,fit_of h3 h4 h5 h6 h7 h8,sameO_spec h9,fun t ht=> ?_⟩,h6,accB_spec h10,hW,h11⟩
 have ht':o.dst=some t:=ht
 rw [ht']at h8
 simp only [rvP]at h8
 cases hl:lk t r.tm with
 |none=>rw [hl]at h8;cases h8
 |some d=>rfl
theorem push_mem {x y:Ft} {l:List Ft} (h:y∈l):y∈push x l:=by
 unfold push
 split
 ·exact List.mem_cons_of_mem _ h
 ·split
  ·exact h
  ·exact List.mem_cons_of_mem _ h
theorem push_self {x:Ft} {l:List Ft}:x∈push x l∨(x.T=[]∧x.nx=x.B):=by
 unfold push
 split
 ·exact .inl (by simp)
 ·rename_i h
  split
  ·rename_i h';exact .inr ⟨h,h'⟩
  ·exact .inl (by simp)
theorem ut_getD {us:List Nat} {k:Nat}:(ut us).getD k 0=us.getD (k+1) 0:=by cases us<;>rfl
theorem uh_getD {us:List Nat}:uh us=us.getD 0 0:=by cases us<;>rfl
theorem out_cons {o:Oper} {rest:List Oper} {us:List Nat} {i:Nat} {acc acc':List Ft} {x:Ent} {s1:St} {l:List Ent} (h1:x.i=i) (h2:x.o=o) (hg:Good P T all x s) (hB:x.B=s.nx) (hnx:s.nx≤x.r.nx)
 (hacc:∀y∈acc,indF y x.ft=true∨bitN (uh us) y.i=true) (ho:Out P T all rest (ut us) (i+1) acc' s1 l e) (he:Eqv s1 (x.app s)) (hn1:s1.nx=x.r.nx) (hsub:∀y∈acc,y∈acc')
 (hself:x.ft∈acc'∨(x.T=[]∧x.W=[]∧x.r.nx=x.B)):Out P T all (o::rest) us i acc s (x::l) e where
 tr:=⟨hg,ho.tr.eqv he⟩
 nums j o' hj:=by
  cases j with
  |zero=>exact⟨x,by simp,by omega⟩
  |succ j=>
   obtain⟨y,hy,hyi⟩:=ho.nums j o' (by simpa using hj)
   exact⟨y,by simp [hy],by omega⟩
 of y hy:=by
  rcases List.mem_cons.1 hy with rfl|hy
  ·exact⟨0,by omega,by simp [h2]⟩
  ·obtain⟨j,hj1,hj2⟩:=ho.of y hy
   exact⟨j+1,by omega,by simpa using hj2⟩
 nx:=by have:=ho.nx;omega
 lo y hy:=by
  have h3:=ho.nx
  rcases List.mem_cons.1 hy with rfl|hy
  ·exact⟨by omega,by omega,by omega⟩
  ·have:=ho.lo y hy
   omega
 two:=by
  have hus:∀y∈l,(ut us).getD (y.i - (i+1)) 0=us.getD (y.i - i) 0:=fun y hy=>by
   obtain⟨j,hj1,_⟩:=ho.of y hy
   rw [ut_getD,show y.i - (i+1)+1=y.i - i from by omega]
  refine List.pairwise_cons.2 ⟨fun y hy=> ?_,ho.two.imp_of_mem fun{z y} _ hy h=>⟨h.1,h.2.1,h.2.2.1,by rw [←hus y hy];exact h.2.2.2⟩⟩
  obtain⟨j,hj1,_⟩:=ho.of y hy
  have h3:=ho.lo y hy
  refine⟨by omega,by omega,by omega, ?_⟩
  rcases hself with h4|⟨h4,h5,h6⟩
  ·rw [←hus y hy];exact ho.acc _ h4 y hy
  ·exact .inl (indF_none h4 h5 h6)
 acc y hy z hz:=by
  rcases List.mem_cons.1 hz with rfl|hz
  ·rw [h1,Nat.sub_self,←uh_getD];exact hacc y hy
  ·obtain⟨j,hj1,_⟩:=ho.of z hz
   have:=ho.acc y (hsub y hy) z hz
   rwa [ut_getD,show z.i - (i+1)+1=z.i - i from by omega]at this
theorem dx_out:∀(ops:List Oper) (us:List Nat) (i:Nat) (acc:List Ft) (s:St),dx P T all ops us i acc K s→∃l e,K e∧Out P T all ops us i acc s l e
 |[],us,i,acc,s,h=>⟨[],s,h,⟨⟨fun _=>rfl,fun _=>rfl⟩,fun j o h=>by simp at h,fun x h=>(by cases h),Nat.le_refl _,fun x h=>(by cases h), .nil,fun y _ x h=>(by cases h)⟩⟩
 |o::rest,us,i,acc,s,h=>by
  have hexec:∀s1:St,s1.nx=s.nx→Eqv s1 s→dxE P T o (uh us) i acc s1 (fun acc' s'=>dx P T all rest (ut us) (i+1) acc' K s')→(∀x:Ent,x.o=o→Ex P T x s→Good P T all x s)→
   ∃l e,K e∧Out P T all (o::rest) us i acc s l e:=fun s1 hn1 he h hgood=>by
   obtain⟨x,h1,h2,h3,h4,h5,h6,h7,h8⟩:=dxE_out h
   obtain⟨l,e,h9,h10⟩:=dx_out rest (ut us) (i+1) _ _ h8
   have hx:Ex P T x s:=h4.of (fun t _=>he.1 t) (fun i _=>he.2 i)
   refine⟨x::l,e,h9,out_cons h1 h2 (hgood x h2 hx) (by omega) (by omega) h6 h10 he.app rfl (fun y hy=>push_mem hy) ?_⟩
   rcases push_self (x:=x.ft) (l:=acc)with h|⟨h,h'⟩
   ·exact .inl h
   ·exact .inr ⟨h,h7 h,h'⟩
  have hskip:∀s1:St,s1.nx=s.nx→Eqv s1 s→dx P T all rest (ut us) (i+1) acc K (s1.put o.dst .skip)→(∀x:Ent,x.o=o→Sk x→Good P T all x s)→∃l e,K e∧Out P T all (o::rest) us i acc s l e:=fun s1 hn1 he h hgood=>by
   obtain⟨l,e,h9,h10⟩:=dx_out rest (ut us) (i+1) _ _ h
   have hput:∀s:St,(s.put o.dst .skip).nx=s.nx:=fun s=>by cases o.dst<;>rfl
   exact⟨⟨i,o,[],[],s.nx,(⟨[],[],s.nx⟩:St).put o.dst .skip⟩::l,e,h9,out_cons rfl rfl (hgood _ rfl ⟨rfl,rfl⟩) rfl (by simp [hput]) (fun y hy=> .inl (indF_none2 rfl rfl)) h10 ((put_eqv he).trans (put_mrg s o.dst)) (by simp [hput,hn1]) (fun y hy=>hy) (.inr ⟨rfl,rfl,by simp [hput]⟩)⟩
  rw [dx]at h
  split at h
  ·rename_i hg
   exact hexec s rfl ⟨fun _=>rfl,fun _=>rfl⟩ h fun x hx hE=>by unfold Good;rw [hx,hg];exact hE
  ·rename_i j w hg
   unfold grd at h
   generalize hv:s.gd (gtmp all j)=v at h
   split at h
   ·rename_i b
    have hrep:∀w',b=w'→Eqv (s.rep (gtmp all j) (.bool w')) s:=fun w' hw=>by
     subst hw
     cases ht:gtmp all j with
     |none=>exact⟨fun _=>rfl,fun _=>rfl⟩
     |some t=>
      refine⟨fun u=> ?_,fun _=>rfl⟩
      rw [ht]at hv
      simp only [St.rep,lk_upd]
      split
      ·rename_i hc
       obtain⟨y,hy⟩:=Option.isSome_iff_exists.1 hc.2
       have:s.get t=y:=by simp [St.get,hy]
       rw [hc.1,hy,←this]
       exact congrArg _ hv.symm
      ·rfl
    have hrnx:∀d,(s.rep (gtmp all j) d).nx=s.nx:=fun d=>by cases gtmp all j<;>rfl
    by_cases hb:b=w
    ·refine hexec _ (hrnx _) (hrep w hb) (h.1 hb) fun x hx hE=> ?_
     unfold Good
     rw [hx,hg]
     simp only [hv]
     exact⟨fun _=>hE,fun h=>by rw [hb]at h;cases w<;>cases h⟩
    ·have hb':b= !w:=by cases b<;>cases w<;>simp_all
     refine hskip _ (hrnx _) (hrep _ hb') (h.2 hb') fun x hx hS=> ?_
     unfold Good
     rw [hx,hg]
     simp only [hv]
     exact⟨fun h=>absurd h hb,fun _=>hS⟩
   ·refine hskip s rfl ⟨fun _=>rfl,fun _=>rfl⟩ h fun x hx hS=> ?_
    unfold Good
    rw [hx,hg]
    simp only [hv]
    exact hS
   ·cases h
def ancM (As:List Nat):List Edge→Nat
 |[]=>0
 |e::l=>match bnd e.ground with
  |true=>((1<<<e.on)|||As.getD e.on 0)|||ancM As l
  |false=>ancM As l
def prsB (all:Array Oper):Nat→List (Nat×Oper)→List Nat→List Oper→List Nat→Bool
 |_,_,_,[],_=>true
 |_,_,_,_::_,[]=>false
 |i,pre,As,o::rest,u::us=>Nat.beq u (ancM As o.after.toList)&&(o.after.toList.all fun ed=> !bnd ed.ground||Nat.blt ed.on i)&&(pre.all fun p=>bitN u p.1||p.2.apart all o)&&prsB all (i+1) ((i,o)::pre) (As++[u]) rest us
theorem bitN_or {a b i:Nat} (h:bitN (a|||b) i=true):bitN a i=true∨bitN b i=true:=by
 have e:∀m,bitN m i=m.testBit i:=fun m=>by
  rw [Nat.testBit_eq_decide_div_mod_eq,bitN,Nat.shiftRight_eq_div_pow]
  by_cases h:m / 2^i % 2=1<;>simp [h]
 rw [e,Nat.testBit_or,Bool.or_eq_true]at h
 rw [e,e]
 exact h
theorem bitN_one {a i:Nat} (h:bitN (1<<<a) i=true):a=i:=by
 unfold bitN at h
 split at h
 ·rename_i h1
  rw [Nat.one_shiftLeft,Nat.shiftRight_eq_div_pow,←decide_eq_true_eq (p:=_=1),←Nat.testBit_eq_decide_div_mod_eq,Nat.testBit_two_pow]at h1
  simpa using h1
 ·cases h
theorem bitN_zero {i:Nat}:bitN 0 i=false:=by simp [bitN]
theorem binds_bnd {ed:Edge}:Region.binds .any ed=bnd ed.ground:=by
 obtain⟨on,gr⟩:=ed
 cases gr<;>rfl
theorem ancM_spec {o:Oper} {i:Nat} (ho:all[i]? =some o) {As:List Nat} (hA:∀j p,bitN (As.getD j 0) p=true→Anc all p j):∀{l:List Edge},(∀ed∈l,ed∈o.after)→∀p,bitN (ancM As l) p=true→Anc all p i
 |[],_,p,h=>by rw [ancM,bitN_zero]at h;cases h
 |e::l,hl,p,h=>by
  rw [ancM]at h
  split at h
  ·rename_i hb
   have hb':Region.binds .any e=true:=by rw [binds_bnd];exact hb
   rcases bitN_or h with h|h
   ·rcases bitN_or h with h|h
    ·have:=bitN_one h
     subst this
     exact .one ho (hl e (by simp)) hb'
    ·exact .more ho (hl e (by simp)) hb' (hA _ _ h)
   ·exact ancM_spec ho hA (fun ed hed=>hl ed (by simp [hed])) p h
  ·exact ancM_spec ho hA (fun ed hed=>hl ed (by simp [hed])) p h
theorem prsB_spec:∀{ops:List Oper} {i:Nat} {pre:List (Nat×Oper)} {As us:List Nat},prsB all i pre As ops us=true→As.length=i→(∀j p,bitN (As.getD j 0) p=true→Anc all p j)→(∀j:Nat,ops[j]? =all[i+j]?)→
 (∀(j:Nat) (o:Oper),ops[j]? =some o→∀ed∈o.after,Region.binds .any ed=true→ed.on<i+j)∧(∀p∈pre,∀(j:Nat) (o:Oper),ops[j]? =some o→bitN (us.getD j 0) p.1=true∨p.2.apart all o=true)∧
 (∀(j k:Nat) (o o':Oper),j<k→ops[j]? =some o→ops[k]? =some o'→bitN (us.getD k 0) (i+j)=true∨o.apart all o'=true)∧∀(j:Nat) (o:Oper),ops[j]? =some o→∀p,bitN (us.getD j 0) p=true→Anc all p (i+j)
 |[],_,_,_,_,_,_,_,_=>⟨fun j o h=>by simp at h,fun p _ j o h=>by simp at h,fun j k o o' _ h=>by simp at h,fun j o h=>by simp at h⟩
 |o::rest,i,pre,As,[],h,_,_,_=>by simp [prsB]at h
 |o::rest,i,pre,As,u::us,h,hl,hA,hops=>by
  simp only [prsB,Bool.and_eq_true]at h
  obtain⟨⟨⟨h0,h1⟩,h2⟩,h3⟩:=h
  have ho:all[i]? =some o:=by rw [←Nat.add_zero i,←hops 0];rfl
  have hu:∀p,bitN u p=true→Anc all p i:=fun p hp=>ancM_spec ho hA (l:=o.after.toList) (fun ed hed=>by simpa using hed) p (by rw [←Nat.eq_of_beq_eq_true h0];exact hp)
  have hA':∀j p,bitN ((As++[u]).getD j 0) p=true→Anc all p j:=fun j p hp=>by
   rw [List.getD_eq_getElem?_getD,List.getElem?_append]at hp
   split at hp
   ·exact hA j p (by rw [List.getD_eq_getElem?_getD];exact hp)
   ·rename_i hj
    by_cases hji:j=i
    ·subst hji
     rw [←hl,Nat.sub_self]at hp
     rw [←hl]
     exact hl▸hu p (by simpa using hp)
    ·rw [List.getElem?_eq_none (by simp;omega)]at hp
     simp [bitN_zero]at hp
  obtain⟨h4,h5,h6,h7⟩:=prsB_spec h3 (by simp [hl]) hA' (fun j=>by have:=hops (j+1);simpa [Nat.add_assoc,Nat.add_comm 1 j]using this)
  refine⟨fun j o' hj ed hed hb=> ?_,fun p hp j o' hj=> ?_,fun j k o1 o2 hjk hj hk=> ?_,fun j o' hj p hp=> ?_⟩
  ·cases j with
   |zero=>
    obtain rfl:o=o':=by simpa using hj
    have h7:=List.all_eq_true.1 h1 ed (by simpa using hed)
    rw [←binds_bnd,hb]at h7
    simp only [Bool.not_true,Bool.false_or,Nat.blt_eq]at h7
    omega
   |succ j=>
    have:=h4 j o' (by simpa using hj) ed hed hb
    omega
  ·cases j with
   |zero=>
    obtain rfl:o=o':=by simpa using hj
    have:=List.all_eq_true.1 h2 p hp
    simpa using this
   |succ j=>exact h5 p (by simp [hp]) j o' (by simpa using hj)
  ·cases k with
   |zero=>omega
   |succ k=>
    cases j with
    |zero=>
     obtain rfl:o=o1:=by simpa using hj
     exact h5 (i,o) (by simp) k o2 (by simpa using hk)
    |succ j=>
     have:=h6 j k o1 o2 (by omega) (by simpa using hj) (by simpa using hk)
     rwa [show i+1+j=i+(j+1)from by omega]at this
  ·cases j with
   |zero=>exact hu p (by simpa using hp)
   |succ j=>
    have:=h7 j o' (by simpa using hj) p (by simpa using hp)
    rwa [show i+1+j=i+(j+1)from by omega]at this
def prsC (all:Array Oper) (us us':List Nat):Bool:=(List.range all.size).all fun k=>(List.range k).all fun j=> !bitN (us'.getD k 0) j||(bitN (us.getD k 0) j||match all[j]?,all[k]? with
 |some y,some x=>cmB all y x
 |_,_=>false)
theorem prsC_spec {us us':List Nat} (h:prsC all us us'=true) {j k:Nat} {y x:Oper} (hjk:j<k) (hy:all[j]? =some y) (hx:all[k]? =some x) (hb:bitN (us'.getD k 0) j=true):bitN (us.getD k 0) j=true∨cmB all y x=true:=by
 have hk:k<all.size:=(Array.getElem?_eq_some_iff.1 hx).1
 have h1:=List.all_eq_true.1 (List.all_eq_true.1 h k (List.mem_range.2 hk)) j (List.mem_range.2 hjk)
 rw [hb,hy,hx]at h1
 simpa using h1
theorem ADraw.runC (us us':List Nat) (hT:TabOk P T) {i:Nat} {ops:Array Oper} {Q:Exit→St→Prop} (hm:P.follows .mixedOrders=true) (hB:prsB ops 0 [] [] ops.toList us=true) (hC:prsC ops us us'=true) (hd:ops.toList.all (dstOk1 n)=true)
 (h:dx P T ops ops.toList us' 0 [] (Q .normal) s):ADraw P n N i ops Q s:=by
 intro δ g a w hr hn
 obtain⟨l,e,hK,ho⟩:=dx_out _ _ _ _ _ h
 obtain⟨hp1,_,hp3,hp4⟩:=prsB_spec hB rfl (fun j p h=>by simp [bitN_zero]at h) (fun j=>by simp)
 have hof:∀x∈l,ops[x.i]? =some x.o:=fun x hx=>by
  obtain⟨j,h1,h2⟩:=ho.of x hx
  have:x.i=j:=by omega
  rw [this]
  simpa using h2
 have hCC:Ext w {w with drawn:=w.drawn+1}:=⟨Nat.le_refl _,fun _ _=>rfl,rfl,rfl,rfl,Nat.le_succ _⟩
 obtain⟨h6,h7⟩:=hr.o.grow hCC (I:=g.I) (fun b hb=>hb) (fun b _ hb=>hb) (hr.o.cel.same fun b hb=>hCC.2.1 b (hr.o.imm b hb).1)
 have hr':Rel δ (g.imm g.I) s a {w with drawn:=w.drawn+1}:=hr.of h6 h7.tm rfl
 have hlen:l.length=ops.size:=by
  have hnd:(l.map (·.i)).Pairwise (· < ·):=(List.pairwise_map).2 (ho.two.imp fun h=>h.1)
  have h1:l.map (·.i)=List.range ops.size:=by
   refine List.Perm.eq_of_pairwise (le:=(· < ·)) (fun a b _ _ h h'=>by omega) hnd List.pairwise_lt_range ?_
   refine(List.perm_ext_iff_of_nodup (hnd.imp fun h=>Nat.ne_of_lt h) List.nodup_range).2 fun k=> ?_
   rw [List.mem_map,List.mem_range]
   constructor
   ·rintro⟨x,hx,rfl⟩
    exact(Array.getElem?_eq_some_iff.1 (hof x hx)).1
   ·intro hk
    obtain⟨x,hx,hxi⟩:=ho.nums k ops[k] (by simp [hk])
    exact⟨x,hx,by omega⟩
  have h2:=congrArg List.length h1
  simpa using h2
 refine wp_region_any hm (drawn_sound (e:=e) hT.toS hd (fun i o hi ed hed hb=> ?_) ops.size _ l _ s a _ hlen (by simp) (fun i o hi=> ?_) (fun i hi=> ?_) hof ?_ (fun x hx=>⟨(ho.lo x hx).2.2,(ho.lo x hx).2.1⟩) ho.tr (hr'.toP.less fun id hid=> ?_) hn fun g' a' w' h1 h2 h3=> ?_)
 ·have:=hp1 i o (by simpa using hi) ed hed hb
  omega
 ·by_cases hsz:i<ops.size<;>simp [Array.getD,hsz]at hi
 ·constructor
  ·intro _
   obtain⟨x,hx,hxi⟩:=ho.nums i ops[i] (by simp [hi])
   exact⟨x,hx,by omega⟩
  ·intro _
   simp [Array.getD,hi]
 ·refine ho.two.imp_of_mem fun{y x} hy hx h=>⟨h.1,h.2.1,h.2.2.1, ?_⟩
  rw [Nat.sub_zero]at h
  have h9:=hp3 y.i x.i y.o x.o h.1 (by simpa using hof y hy) (by simpa using hof x hx)
  rw [Nat.zero_add]at h9
  by_cases hed:bitN (us.getD x.i 0) y.i=true
  ·left
   have:=hp4 x.i x.o (by simpa using hof x hx) y.i hed
   rwa [Nat.zero_add]at this
  ·right
   rcases h.2.2.2 with h8|h8
   ·left
    have h8:=indF_spec h8
    exact⟨h9.resolve_left hed,h8.1,h8.2.1,h8.2.2,h.2.1,h.2.2.1⟩
   ·right
    have h10:=(prsC_spec hC h.1 (hof y hy) (hof x hx) h8).resolve_left hed
    obtain⟨s',hg⟩:=ho.tr.good y hy
    exact⟨h10,lookup_nx rfl h10 hg⟩
 ·rcases hid with⟨x,hx,h1,h2⟩|h1
  ·have:=ho.lo x hx;omega
  ·have:=ho.nx;omega
 ·refine⟨g',e,hK,h1.toR fun id hid=>hid,h2, ?_⟩
  have h10:Step g s w (g.imm g.I) s {w with drawn:=w.drawn+1}:=h7.tm
  exact(h10.trans h3).toN
theorem ADraw.run (us:List Nat) (hT:TabOk P T) {i:Nat} {ops:Array Oper} {Q:Exit→St→Prop} (hm:P.follows .mixedOrders=true) (hB:prsB ops 0 [] [] ops.toList us=true) (hd:ops.toList.all (dstOk1 n)=true)
 (h:dx P T ops ops.toList us 0 [] (Q .normal) s):ADraw P n N i ops Q s:=by
 refine ADraw.runC us us hT hm hB ?_ hd h
 unfold prsC
 rw [List.all_eq_true]
 intro k _
 rw [List.all_eq_true]
 intro j _
 cases bitN (us.getD k 0) j<;>simp
end
open Go
section
variable {P:Program} {T:Tab} {all:Array Oper} {rest:List Oper} {s s' r:St} {K:St→Prop} {d:Option Nat} {ty:TypeId} {pos:String} {af:Array Edge} {gd:Option (Nat×Bool)} {i i':Nat} {acc acc':List Ft} {Tt W:List Nat}
attribute [go_sem] mem sub apt low inR allR outR ins uni midsL mob midsA mobO cont clo valsB obsB rosB rvP sameO gone wOf wSl indF accB uh ut
@[go_sem] theorem mids_ref {a b:Nat}:mids (.ref a b)=[a]:=by rw [mids]
@[go_sem] theorem mids_eref {a b c e f:Nat}:mids (.eref a b c e f)=[a]:=by rw [mids]
@[go_sem] theorem mids_vec {a b:Nat}:mids (.vec a b)=[a]:=by rw [mids]
@[go_sem] theorem mids_view {a b c e f:Nat}:mids (.view a b c e f)=[a]:=by rw [mids]
@[go_sem] theorem mids_mp {a:Nat}:mids (.mp a)=[a]:=by rw [mids]
@[go_sem] theorem mids_nilm:mids .nilm=[]:=by simp [mids]
@[go_sem] theorem midsL_ints {v:IntKind} {l:List (Nat×Int)}:midsL (l.map fun x=>D.int v x.2)=[]:=by
 induction l with
 |nil=>rfl
 |cons x l ih=>rw [List.map_cons,midsL,ih];simp [mids]
@[go_sem] theorem mids_fn {f:Fn} {l m:List D}:mids (.fn f l m)=midsL l++midsL m:=by rw [mids]
@[go_sem] theorem mids_agg {l:List D}:mids (.agg l)=midsL l:=by rw [mids]
@[go_sem] theorem mids_tup {l:List D}:mids (.tup l)=midsL l:=by rw [mids]
@[go_sem] theorem mids_c {x:C}:mids (.c x)=[]:=by simp [mids]
@[go_sem] theorem mids_undef:mids .undef=[]:=by simp [mids]
@[go_sem] theorem mids_skip:mids .skip=[]:=by simp [mids]
@[go_sem] theorem mids_rp {l:List C}:mids (.rp l)=[]:=by simp [mids]
@[go_sem] theorem mids_nilp:mids .nilp=[]:=by simp [mids]
@[go_sem] theorem mids_nilf:mids .nilf=[]:=by simp [mids]
@[go_sem] theorem mids_nil:mids .nil=[]:=by simp [mids]
@[go_sem] theorem mids_csl {l:List (List C)}:mids (.csl l)=[]:=by simp [mids]
def cns {α:Type} (k:Nat) (x:Option α) (r:List (Nat×α)):List (Nat×α):=match x with
 |some x=>(k,x)::r
 |none=>r
@[go_sem] theorem pickL_nil {α:Type} {l:List (Nat×α)}:pickL [] l=[]:=rfl
@[go_sem] theorem pickL_cons {α:Type} {k:Nat} {ks:List Nat} {l:List (Nat×α)}:pickL (k::ks) l=cns k (lk k l) (pickL ks l):=rfl
@[go_sem] theorem cns_some {α:Type} {k:Nat} {x:α} {r:List (Nat×α)}:cns k (some x) r=(k,x)::r:=rfl
@[go_sem] theorem cns_none {α:Type} {k:Nat} {r:List (Nat×α)}:cns k none r=r:=rfl
@[go_sem] theorem loc_mk {rd:List Nat} {B:Nat} {tm:List (Nat×D)} {os:List (Nat×Ob)} {nx:Nat}:St.loc rd Tt B ⟨tm,os,nx⟩=⟨pickL rd tm,pickL Tt os,B⟩:=rfl
def wo {α:Type} (T:List Nat):List (Nat×α)→List (Nat×α)
 |[]=>[]
 |(m,x)::l=>if mem m T=true then wo T l else(m,x)::wo T l
theorem wo_eq {α:Type} {T:List Nat}:∀{l:List (Nat×α)},(l.filter fun p=> !T.contains p.1)=wo T l
 |[]=>rfl
 |(m,x)::l=>by
  rw [wo,List.filter_cons,wo_eq]
  by_cases h:m∈T<;>simp [h,mem_iff]
attribute [go_sem] wo
@[go_sem] theorem mrg_mk {t:Nat} {tm tm':List (Nat×D)} {os os':List (Nat×Ob)} {nx nx':Nat}:St.mrg ⟨tm,os,nx⟩ Tt (some t) ⟨tm',os',nx'⟩=⟨(t,(lk t tm').getD .undef)::tm,os'++wo Tt os,nx'⟩:=by
 rw [←wo_eq];rfl
@[go_sem] theorem mrg_no {tm tm':List (Nat×D)} {os os':List (Nat×Ob)} {nx nx':Nat}:St.mrg ⟨tm,os,nx⟩ Tt none ⟨tm',os',nx'⟩=⟨tm,os'++wo Tt os,nx'⟩:=by
 rw [←wo_eq];rfl
def tO:List Operand→List Nat
 |[]=>[]
 | .tmp t::l=>t::tO l
 | .const _::l=>tO l
 | .global _::l=>tO l
 | .func _::l=>tO l
attribute [go_sem] tO
theorem tO_eq:∀l:List Operand,(l.filterMap fun| .tmp t=>some t|_=>none)=tO l
 |[]=>rfl
 | .tmp t::l=>congrArg (t:: ·) (tO_eq l)
 | .const _::l=>tO_eq l
 | .global _::l=>tO_eq l
 | .func _::l=>tO_eq l
theorem opT_eq {o:Oper}:opT o=tO o.op.operands.toList:=tO_eq _
def opo:Option Operand→List Operand
 |some x=>[x]
 |none=>[]
attribute [go_sem] opo
@[go_sem] theorem T_move {x:Operand}:opT ⟨d, .move x,ty,pos,af,gd⟩=tO [x]:=opT_eq
@[go_sem] theorem T_assign {x:Operand}:opT ⟨d, .assign x,ty,pos,af,gd⟩=tO [x]:=opT_eq
@[go_sem] theorem T_pick {c x y:Operand}:opT ⟨d, .pick c x y,ty,pos,af,gd⟩=tO [c,x,y]:=opT_eq
@[go_sem] theorem T_alloc {t:TypeId}:opT ⟨d, .alloc t,ty,pos,af,gd⟩=[]:=opT_eq
@[go_sem] theorem T_box {t:TypeId} {x:Operand}:opT ⟨d, .box t x,ty,pos,af,gd⟩=tO [x]:=opT_eq
@[go_sem] theorem T_build {t:TypeId} {ps:List (Nat×Operand)}:opT ⟨d, .build t ps.toArray,ty,pos,af,gd⟩=tO (ps.map (·.2)):=by rw [opT_eq];simp [Op.operands]
@[go_sem] theorem T_buildSlice {t:TypeId} {m:Nat} {ps:List (Nat×Operand)}:opT ⟨d, .buildSlice t m ps.toArray,ty,pos,af,gd⟩=tO (ps.map (·.2)):=by rw [opT_eq];simp [Op.operands]
@[go_sem] theorem T_load {t:TypeId} {x:Operand}:opT ⟨d, .load t x,ty,pos,af,gd⟩=tO [x]:=opT_eq
@[go_sem] theorem T_store {t:TypeId} {p x:Operand}:opT ⟨d, .store t p x,ty,pos,af,gd⟩=tO [p,x]:=opT_eq
@[go_sem] theorem T_nilCheck {x:Operand}:opT ⟨d, .nilCheck x,ty,pos,af,gd⟩=tO [x]:=opT_eq
@[go_sem] theorem T_binOp {op:BinOp} {t t':TypeId} {x y:Operand}:opT ⟨d, .binOp op t x y t',ty,pos,af,gd⟩=tO [x,y]:=opT_eq
@[go_sem] theorem T_unOp {op:UnOp} {t:TypeId} {x:Operand}:opT ⟨d, .unOp op t x,ty,pos,af,gd⟩=tO [x]:=opT_eq
@[go_sem] theorem T_convert {t u:TypeId} {x:Operand}:opT ⟨d, .convert t u x,ty,pos,af,gd⟩=tO [x]:=opT_eq
@[go_sem] theorem T_makeFunc {f:Fn} {fi ca:List Operand}:opT ⟨d, .makeFunc f fi.toArray ca.toArray,ty,pos,af,gd⟩=tO (fi++ca):=by rw [opT_eq];simp [Op.operands]
@[go_sem] theorem T_makeSlice {t:TypeId} {l c:Operand}:opT ⟨d, .makeSlice t l c,ty,pos,af,gd⟩=tO [l,c]:=opT_eq
@[go_sem] theorem T_slice {t:TypeId} {x:Operand} {lo hi mx:Option Operand}:opT ⟨d, .slice t x lo hi mx,ty,pos,af,gd⟩=tO (x::(opo lo++(opo hi++opo mx))):=by
 rw [opT_eq];cases lo<;>cases hi<;>cases mx<;>rfl
@[go_sem] theorem T_fieldAddr {t:TypeId} {x:Operand} {f:Nat}:opT ⟨d, .fieldAddr t x f,ty,pos,af,gd⟩=tO [x]:=opT_eq
@[go_sem] theorem T_field {t:TypeId} {x:Operand} {f:Nat}:opT ⟨d, .field t x f,ty,pos,af,gd⟩=tO [x]:=opT_eq
@[go_sem] theorem T_indexAddr {t:TypeId} {x j:Operand}:opT ⟨d, .indexAddr t x j,ty,pos,af,gd⟩=tO [x,j]:=opT_eq
@[go_sem] theorem T_index {t:TypeId} {x j:Operand}:opT ⟨d, .index t x j,ty,pos,af,gd⟩=tO [x,j]:=opT_eq
@[go_sem] theorem T_makeMap0 {t:TypeId}:opT ⟨d, .makeMap t none,ty,pos,af,gd⟩=tO []:=opT_eq
@[go_sem] theorem T_makeMap1 {t:TypeId} {r:Operand}:opT ⟨d, .makeMap t (some r),ty,pos,af,gd⟩=tO [r]:=opT_eq
@[go_sem] theorem T_lookup {t:TypeId} {x i:Operand} {ok:Bool}:opT ⟨d, .lookup t x i ok,ty,pos,af,gd⟩=tO [x,i]:=opT_eq
@[go_sem] theorem T_mapUpdate {t:TypeId} {m k x:Operand}:opT ⟨d, .mapUpdate t m k x,ty,pos,af,gd⟩=tO [m,k,x]:=opT_eq
@[go_sem] theorem T_insert {t:TypeId} {m k x:Operand}:opT ⟨d, .insert t m k x,ty,pos,af,gd⟩=tO [m,k,x]:=opT_eq
@[go_sem] theorem T_mapEntry {t:TypeId} {m k:Operand}:opT ⟨d, .mapEntry t m k,ty,pos,af,gd⟩=tO [m,k]:=opT_eq
@[go_sem] theorem T_entryStore {t:TypeId} {m i x:Operand}:opT ⟨d, .entryStore t m i x,ty,pos,af,gd⟩=tO [m,i,x]:=opT_eq
@[go_sem] theorem T_range {t:TypeId} {x:Operand}:opT ⟨d, .range t x,ty,pos,af,gd⟩=tO [x]:=opT_eq
@[go_sem] theorem T_entry {x:Operand}:opT ⟨d, .entry x,ty,pos,af,gd⟩=tO [x]:=opT_eq
@[go_sem] theorem T_extract {x:Operand} {j:Nat}:opT ⟨d, .extract x j,ty,pos,af,gd⟩=tO [x]:=opT_eq
@[go_sem] theorem T_builtin {b:Builtin} {xs:List Operand} {ts:Array TypeId}:opT ⟨d, .call ⟨.builtin b,xs.toArray,ts⟩,ty,pos,af,gd⟩=tO xs:=by rw [opT_eq];simp [Op.operands,Call.operands]
@[go_sem] theorem T_call {f:Operand} {xs:List Operand} {ts:Array TypeId}:opT ⟨d, .call ⟨.value f,xs.toArray,ts⟩,ty,pos,af,gd⟩=tO (f::xs):=by rw [opT_eq];simp [Op.operands,Call.operands]
@[go_sem] theorem st_move {x:Operand}:stOp (.move x)=false:=rfl
@[go_sem] theorem st_assign {x:Operand}:stOp (.assign x)=false:=rfl
@[go_sem] theorem st_pick {c x y:Operand}:stOp (.pick c x y)=false:=rfl
@[go_sem] theorem st_alloc {t:TypeId}:stOp (.alloc t)=false:=rfl
@[go_sem] theorem st_box {t:TypeId} {x:Operand}:stOp (.box t x)=false:=rfl
@[go_sem] theorem st_build {t:TypeId} {ps:Array (Nat×Operand)}:stOp (.build t ps)=false:=rfl
@[go_sem] theorem st_buildSlice {t:TypeId} {m:Nat} {ps:Array (Nat×Operand)}:stOp (.buildSlice t m ps)=false:=rfl
@[go_sem] theorem st_load {t:TypeId} {x:Operand}:stOp (.load t x)=false:=rfl
@[go_sem] theorem st_store {t:TypeId} {p x:Operand}:stOp (.store t p x)=true:=rfl
@[go_sem] theorem st_nilCheck {x:Operand}:stOp (.nilCheck x)=false:=rfl
@[go_sem] theorem st_binOp {op:BinOp} {t t':TypeId} {x y:Operand}:stOp (.binOp op t x y t')=false:=rfl
@[go_sem] theorem st_unOp {op:UnOp} {t:TypeId} {x:Operand}:stOp (.unOp op t x)=false:=rfl
@[go_sem] theorem st_convert {t u:TypeId} {x:Operand}:stOp (.convert t u x)=false:=rfl
@[go_sem] theorem st_makeFunc {f:Fn} {fi ca:Array Operand}:stOp (.makeFunc f fi ca)=false:=rfl
@[go_sem] theorem st_makeSlice {t:TypeId} {l c:Operand}:stOp (.makeSlice t l c)=false:=rfl
@[go_sem] theorem st_slice {t:TypeId} {x:Operand} {lo hi mx:Option Operand}:stOp (.slice t x lo hi mx)=false:=rfl
@[go_sem] theorem st_fieldAddr {t:TypeId} {x:Operand} {f:Nat}:stOp (.fieldAddr t x f)=false:=rfl
@[go_sem] theorem st_field {t:TypeId} {x:Operand} {f:Nat}:stOp (.field t x f)=false:=rfl
@[go_sem] theorem st_indexAddr {t:TypeId} {x j:Operand}:stOp (.indexAddr t x j)=false:=rfl
@[go_sem] theorem st_index {t:TypeId} {x j:Operand}:stOp (.index t x j)=false:=rfl
@[go_sem] theorem st_makeMap {t:TypeId} {r:Option Operand}:stOp (.makeMap t r)=false:=rfl
@[go_sem] theorem st_lookup {t:TypeId} {x i:Operand} {ok:Bool}:stOp (.lookup t x i ok)=false:=rfl
@[go_sem] theorem st_mapUpdate {t:TypeId} {m k x:Operand}:stOp (.mapUpdate t m k x)=true:=rfl
@[go_sem] theorem st_insert {t:TypeId} {m k x:Operand}:stOp (.insert t m k x)=true:=rfl
@[go_sem] theorem st_mapEntry {t:TypeId} {m k:Operand}:stOp (.mapEntry t m k)=true:=rfl
@[go_sem] theorem st_entryStore {t:TypeId} {m i x:Operand}:stOp (.entryStore t m i x)=true:=rfl
@[go_sem] theorem st_range {t:TypeId} {x:Operand}:stOp (.range t x)=false:=rfl
@[go_sem] theorem st_entry {x:Operand}:stOp (.entry x)=false:=rfl
@[go_sem] theorem st_extract {x:Operand} {j:Nat}:stOp (.extract x j)=false:=rfl
@[go_sem] theorem st_len {xs ts}:stOp (.call ⟨.builtin .len,xs,ts⟩)=false:=rfl
@[go_sem] theorem st_min {xs ts}:stOp (.call ⟨.builtin .min,xs,ts⟩)=false:=rfl
@[go_sem] theorem st_max {xs ts}:stOp (.call ⟨.builtin .max,xs,ts⟩)=false:=rfl
@[go_sem] theorem st_append {xs ts}:stOp (.call ⟨.builtin .append,xs,ts⟩)=true:=rfl
@[go_sem] theorem st_copy {xs ts}:stOp (.call ⟨.builtin .copy,xs,ts⟩)=true:=rfl
@[go_sem] theorem st_cap {xs ts}:stOp (.call ⟨.builtin .cap,xs,ts⟩)=false:=rfl
@[go_sem] theorem st_call {f:Operand} {xs ts}:stOp (.call ⟨.value f,xs,ts⟩)=false:=rfl
@[congr] theorem aopX_congr {o:Oper} (h:s=s'):aopX P T o s K=aopX P T o s' K:=by rw [h]
@[congr] theorem okX_congr {x x':Option (Prop×D)} (h:x=x') (h':s=s'):okX x d s K=okX x' d s' K:=by rw [h,h']
@[congr] theorem aclX_congr {f f':D} {args args':List D} (h:f=f') (h1:args=args') (h':s=s'):aclX T f args d s K=aclX T f' args' d s' K:=by rw [h,h1,h']
@[go_sem] theorem okX_some {p:Prop} {v:D}:okX (some (p,v)) d s K=K (s.put d v):=rfl
@[go_sem] theorem X_move {x:Operand}:aopX P T ⟨d, .move x,ty,pos,af,gd⟩ s K=aop P T ⟨d, .move x,ty,pos,af,gd⟩ s K:=rfl
@[go_sem] theorem X_assign {x:Operand}:aopX P T ⟨d, .assign x,ty,pos,af,gd⟩ s K=aop P T ⟨d, .assign x,ty,pos,af,gd⟩ s K:=rfl
@[go_sem] theorem X_pick {c x y:Operand}:aopX P T ⟨d, .pick c x y,ty,pos,af,gd⟩ s K=aop P T ⟨d, .pick c x y,ty,pos,af,gd⟩ s K:=rfl
@[go_sem] theorem X_alloc {t:TypeId}:aopX P T ⟨d, .alloc t,ty,pos,af,gd⟩ s K=aop P T ⟨d, .alloc t,ty,pos,af,gd⟩ s K:=rfl
@[go_sem] theorem X_box {t:TypeId} {x:Operand}:aopX P T ⟨d, .box t x,ty,pos,af,gd⟩ s K=aop P T ⟨d, .box t x,ty,pos,af,gd⟩ s K:=rfl
@[go_sem] theorem X_build {t:TypeId} {ps:Array (Nat×Operand)}:aopX P T ⟨d, .build t ps,ty,pos,af,gd⟩ s K=aop P T ⟨d, .build t ps,ty,pos,af,gd⟩ s K:=rfl
@[go_sem] theorem X_buildSlice {t:TypeId} {m:Nat} {ps:Array (Nat×Operand)}:aopX P T ⟨d, .buildSlice t m ps,ty,pos,af,gd⟩ s K=aop P T ⟨d, .buildSlice t m ps,ty,pos,af,gd⟩ s K:=rfl
@[go_sem] theorem X_load {t:TypeId} {x:Operand}:aopX P T ⟨d, .load t x,ty,pos,af,gd⟩ s K=aop P T ⟨d, .load t x,ty,pos,af,gd⟩ s K:=rfl
@[go_sem] theorem X_store {t:TypeId} {p x:Operand}:aopX P T ⟨d, .store t p x,ty,pos,af,gd⟩ s K=aop P T ⟨d, .store t p x,ty,pos,af,gd⟩ s K:=rfl
@[go_sem] theorem X_nilCheck {x:Operand}:aopX P T ⟨d, .nilCheck x,ty,pos,af,gd⟩ s K=aop P T ⟨d, .nilCheck x,ty,pos,af,gd⟩ s K:=rfl
@[go_sem] theorem X_binOp {op:BinOp} {t t':TypeId} {x y:Operand}:aopX P T ⟨d, .binOp op t x y t',ty,pos,af,gd⟩ s K=(nilq P op t (s.ev x) (s.ev y)=none∧faD op (s.ev x) (s.ev y)=none∧okP (binD P op t (s.ev x) (s.ev y)) d s K):=rfl
@[go_sem] theorem X_unOp {op:UnOp} {t:TypeId} {x:Operand}:aopX P T ⟨d, .unOp op t x,ty,pos,af,gd⟩ s K=aop P T ⟨d, .unOp op t x,ty,pos,af,gd⟩ s K:=rfl
@[go_sem] theorem X_convert {t u:TypeId} {x:Operand}:aopX P T ⟨d, .convert t u x,ty,pos,af,gd⟩ s K=aop P T ⟨d, .convert t u x,ty,pos,af,gd⟩ s K:=rfl
@[go_sem] theorem X_makeFunc {f:Fn} {fi ca:Array Operand}:aopX P T ⟨d, .makeFunc f fi ca,ty,pos,af,gd⟩ s K=aop P T ⟨d, .makeFunc f fi ca,ty,pos,af,gd⟩ s K:=rfl
@[go_sem] theorem X_makeSlice {t:TypeId} {l c:Operand}:aopX P T ⟨d, .makeSlice t l c,ty,pos,af,gd⟩ s K=aop P T ⟨d, .makeSlice t l c,ty,pos,af,gd⟩ s K:=rfl
@[go_sem] theorem X_slice {t:TypeId} {x:Operand} {lo hi mx:Option Operand}:aopX P T ⟨d, .slice t x lo hi mx,ty,pos,af,gd⟩ s K=aop P T ⟨d, .slice t x lo hi mx,ty,pos,af,gd⟩ s K:=rfl
@[go_sem] theorem X_fieldAddr {t:TypeId} {x:Operand} {f:Nat}:aopX P T ⟨d, .fieldAddr t x f,ty,pos,af,gd⟩ s K=aop P T ⟨d, .fieldAddr t x f,ty,pos,af,gd⟩ s K:=rfl
@[go_sem] theorem X_field {t:TypeId} {x:Operand} {f:Nat}:aopX P T ⟨d, .field t x f,ty,pos,af,gd⟩ s K=aop P T ⟨d, .field t x f,ty,pos,af,gd⟩ s K:=rfl
@[go_sem] theorem X_indexAddr {t:TypeId} {x j:Operand}:aopX P T ⟨d, .indexAddr t x j,ty,pos,af,gd⟩ s K=aop P T ⟨d, .indexAddr t x j,ty,pos,af,gd⟩ s K:=rfl
@[go_sem] theorem X_index {t:TypeId} {x j:Operand}:aopX P T ⟨d, .index t x j,ty,pos,af,gd⟩ s K=aop P T ⟨d, .index t x j,ty,pos,af,gd⟩ s K:=rfl
@[go_sem] theorem X_makeMap {t:TypeId} {r:Option Operand}:aopX P T ⟨d, .makeMap t r,ty,pos,af,gd⟩ s K=aop P T ⟨d, .makeMap t r,ty,pos,af,gd⟩ s K:=rfl
@[go_sem] theorem X_lookup {t:TypeId} {x i:Operand} {ok:Bool}:aopX P T ⟨d, .lookup t x i ok,ty,pos,af,gd⟩ s K=aop P T ⟨d, .lookup t x i ok,ty,pos,af,gd⟩ s K:=rfl
@[go_sem] theorem X_mapUpdate {t:TypeId} {m k x:Operand}:aopX P T ⟨d, .mapUpdate t m k x,ty,pos,af,gd⟩ s K=aop P T ⟨d, .mapUpdate t m k x,ty,pos,af,gd⟩ s K:=rfl
@[go_sem] theorem X_insert {t:TypeId} {m k x:Operand}:aopX P T ⟨d, .insert t m k x,ty,pos,af,gd⟩ s K=aop P T ⟨d, .insert t m k x,ty,pos,af,gd⟩ s K:=rfl
@[go_sem] theorem X_mapEntry {t:TypeId} {m k:Operand}:aopX P T ⟨d, .mapEntry t m k,ty,pos,af,gd⟩ s K=aop P T ⟨d, .mapEntry t m k,ty,pos,af,gd⟩ s K:=rfl
@[go_sem] theorem X_entryStore {t:TypeId} {m i x:Operand}:aopX P T ⟨d, .entryStore t m i x,ty,pos,af,gd⟩ s K=aop P T ⟨d, .entryStore t m i x,ty,pos,af,gd⟩ s K:=rfl
@[go_sem] theorem X_range {t:TypeId} {x:Operand}:aopX P T ⟨d, .range t x,ty,pos,af,gd⟩ s K=aop P T ⟨d, .range t x,ty,pos,af,gd⟩ s K:=rfl
@[go_sem] theorem X_entry {x:Operand}:aopX P T ⟨d, .entry x,ty,pos,af,gd⟩ s K=aop P T ⟨d, .entry x,ty,pos,af,gd⟩ s K:=rfl
@[go_sem] theorem X_extract {x:Operand} {j:Nat}:aopX P T ⟨d, .extract x j,ty,pos,af,gd⟩ s K=aop P T ⟨d, .extract x j,ty,pos,af,gd⟩ s K:=rfl
@[go_sem] theorem X_len {x:Operand} {t:TypeId}:aopX P T ⟨d, .call ⟨.builtin .len, #[x], #[t]⟩,ty,pos,af,gd⟩ s K=((elOf P t).isSome=true∧okX (lenD (s.ev x)) d s K):=rfl
@[go_sem] theorem X_min {xs:Array Operand} {ts:Array TypeId}:aopX P T ⟨d, .call ⟨.builtin .min,xs,ts⟩,ty,pos,af,gd⟩ s K=aop P T ⟨d, .call ⟨.builtin .min,xs,ts⟩,ty,pos,af,gd⟩ s K:=rfl
@[go_sem] theorem X_max {xs:Array Operand} {ts:Array TypeId}:aopX P T ⟨d, .call ⟨.builtin .max,xs,ts⟩,ty,pos,af,gd⟩ s K=aop P T ⟨d, .call ⟨.builtin .max,xs,ts⟩,ty,pos,af,gd⟩ s K:=rfl
@[go_sem] theorem X_append {x y:Operand} {t u:TypeId}:aopX P T ⟨d, .call ⟨.builtin .append, #[x,y], #[t,u]⟩,ty,pos,af,gd⟩ s K=(appM P s t u (s.ev x) (s.ev y)=none∧t=u∧okT (appD P s t d (s.ev x) (s.ev y)) fun s'=>K (app8 P t (s.ev x) d s')):=rfl
@[go_sem] theorem X_copy {xs:Array Operand} {ts:Array TypeId}:aopX P T ⟨d, .call ⟨.builtin .copy,xs,ts⟩,ty,pos,af,gd⟩ s K=aop P T ⟨d, .call ⟨.builtin .copy,xs,ts⟩,ty,pos,af,gd⟩ s K:=rfl
@[go_sem] theorem X_cap {xs:Array Operand} {ts:Array TypeId}:aopX P T ⟨d, .call ⟨.builtin .cap,xs,ts⟩,ty,pos,af,gd⟩ s K=aop P T ⟨d, .call ⟨.builtin .cap,xs,ts⟩,ty,pos,af,gd⟩ s K:=rfl
@[go_sem] theorem X_call {f:Operand} {xs:List Operand} {ts:Array TypeId}:aopX P T ⟨d, .call ⟨.value f,xs.toArray,ts⟩,ty,pos,af,gd⟩ s K=aclX T (s.ev f) (xs.map s.ev) d s K:=rfl
def xcX (x:Option (Prop×D×List (Nat×Ob)×Nat)) (tm:List (Nat×D)) (d:Option Nat) (K:St→Prop):Prop:=match x with
 |some (p,r,os',nx')=>p∧K (St.put ⟨tm,os',nx'⟩ d r)
 |none=>False
@[congr] theorem xcX_congr {x x':Option (Prop×D×List (Nat×Ob)×Nat)} {tm tm':List (Nat×D)} (h:x=x') (h':tm=tm'):xcX x tm d K=xcX x' tm' d K:=by rw [h,h']
@[go_sem] theorem aclX_fn {f:FuncId} {fi ca args:List D} {tm:List (Nat×D)} {os:List (Nat×Ob)} {nx:Nat}:aclX T (.fn (.func f) fi ca) args d ⟨tm,os,nx⟩ K=(ovm T f=false∧xcX (look T os nx f (fi++args++ca)) tm d K):=rfl
@[go_sem] theorem xcX_some {p:Prop} {v:D} {tm:List (Nat×D)} {os:List (Nat×Ob)} {nx:Nat}:xcX (some (p,v,os,nx)) tm d K=(p∧K (St.put ⟨tm,os,nx⟩ d v)):=rfl
@[go_sem] theorem push_c {j n:Nat} {T W:List Nat} {B nx:Nat}:push ⟨j,n::T,W,B,nx⟩ acc=⟨j,n::T,W,B,nx⟩::acc:=rfl
@[go_sem] theorem push_n {j:Nat} {W:List Nat} {B nx:Nat}:push ⟨j,[],W,B,nx⟩ acc=if nx=B then acc else⟨j,[],W,B,nx⟩::acc:=rfl
def kdx (P:Program) (T:Tab) (all:Array Oper) (rest:List Oper) (us:List Nat) (i:Nat) (K:St→Prop):List Ft→St→Prop:=fun acc s=>dx P T all rest us i acc K s
def kdxE (P:Program) (T:Tab) (o:Oper) (u i:Nat) (acc:List Ft) (k:List Ft→St→Prop):St→Prop:=fun s=>dxE P T o u i acc s k
def kdxS (P:Program) (T:Tab) (all:Array Oper) (d:Option Nat) (rest:List Oper) (us:List Nat) (i:Nat) (acc:List Ft) (K:St→Prop):St→Prop:=fun s=>dx P T all rest us i acc K (s.put d .skip)
variable {us us':List Nat} {u u':Nat}
@[congr] theorem dx_congr {l:List Oper} (hu:us=us') (hi:i=i') (ha:acc=acc') (h:s=s'):dx P T all l us i acc K s=dx P T all l us' i' acc' K s':=by rw [hu,hi,ha,h]
@[congr] theorem kdx_congr {l:List Oper} (hu:us=us') (hi:i=i') (ha:acc=acc') (h:s=s'):kdx P T all l us i K acc s=kdx P T all l us' i' K acc' s':=by rw [hu,hi,ha,h]
@[congr] theorem kdxE_congr {o:Oper} {k:List Ft→St→Prop} (hu:u=u') (hi:i=i') (ha:acc=acc') (h:s=s'):kdxE P T o u i acc k s=kdxE P T o u' i' acc' k s':=by rw [hu,hi,ha,h]
@[congr] theorem kdxS_congr {l:List Oper} (hu:us=us') (hi:i=i') (ha:acc=acc') (h:s=s'):kdxS P T all d l us i acc K s=kdxS P T all d l us' i' acc' K s':=by rw [hu,hi,ha,h]
@[congr] theorem dxE_congr {o:Oper} {k:List Ft→St→Prop} (hu:u=u') (hi:i=i') (ha:acc=acc') (h:s=s'):dxE P T o u i acc s k=dxE P T o u' i' acc' s' k:=by rw [hu,hi,ha,h]
@[congr] theorem dxL_congr {o:Oper} {k:List Ft→St→Prop} {Tt Tt':List Nat} (hu:u=u') (hi:i=i') (ha:acc=acc') (h:s=s') (ht:Tt=Tt'):dxL P T o u i acc s k Tt=dxL P T o u' i' acc' s' k Tt':=by rw [hu,hi,ha,h,ht]
@[congr] theorem dxR_congr {o:Oper} {k:List Ft→St→Prop} {r r':St} (h:r=r'):dxR P o u i acc s Tt k r=dxR P o u i acc s Tt k r':=by rw [h]
@[congr] theorem dxW_congr {o:Oper} {k:List Ft→St→Prop} {W W':List Nat} {r r':St} (hr:r=r') (h:W=W'):dxW P o u i acc s Tt r k W=dxW P o u i acc s Tt r' k W':=by rw [hr,h]
@[go_sem] theorem DX_nil:dx P T all [] us i acc K s=K s:=rfl
@[go_sem] theorem DX_none {op:Op}:dx P T all (⟨d,op,ty,pos,af,none⟩::rest) us i acc K s=dxE P T ⟨d,op,ty,pos,af,none⟩ (uh us) i acc s (kdx P T all rest (ut us) (i+1) K):=rfl
@[go_sem] theorem DX_guard {op:Op} {j:Nat} {w:Bool}:dx P T all (⟨d,op,ty,pos,af,some (j,w)⟩::rest) us i acc K s=
 grd (gtmp all j) (s.gd (gtmp all j)) w (kdxE P T ⟨d,op,ty,pos,af,some (j,w)⟩ (uh us) i acc (kdx P T all rest (ut us) (i+1) K)) (kdxS P T all d rest (ut us) (i+1) acc K) s:=rfl
@[go_sem] theorem DX_appc {o:Oper} {l r:List Oper}:dx P T all (List.append (o::l) r) us i acc K s=dx P T all (o::List.append l r) us i acc K s:=rfl
@[go_sem] theorem DX_appn {r:List Oper}:dx P T all (List.append [] r) us i acc K s=dx P T all r us i acc K s:=rfl
@[go_sem] theorem DX_appa {l r q:List Oper}:dx P T all (List.append (List.append l r) q) us i acc K s=dx P T all (List.append l (List.append r q)) us i acc K s:=by
 rw [List.append_eq,List.append_eq,List.append_eq,List.append_eq,List.append_assoc]
@[go_sem] theorem kdx_app {l:List Oper}:kdx P T all l us i K acc s=dx P T all l us i acc K s:=rfl
@[go_sem] theorem kdxE_app {o:Oper} {k:List Ft→St→Prop}:kdxE P T o u i acc k s=dxE P T o u i acc s k:=rfl
@[go_sem] theorem kdxS_app:kdxS P T all d rest us i acc K s=dx P T all rest us i acc K (s.put d .skip):=rfl
@[go_sem] theorem dxE_eq {o:Oper} {k:List Ft→St→Prop} {tm:List (Nat×D)} {os:List (Nat×Ob)} {nx:Nat}:dxE P T o u i acc ⟨tm,os,nx⟩ k=dxL P T o u i acc ⟨tm,os,nx⟩ k (clo os (uni (midsA (pickL (opT o) tm)) [])):=rfl
@[go_sem] theorem dxL_eq {o:Oper} {k:List Ft→St→Prop} {tm:List (Nat×D)} {os:List (Nat×Ob)} {nx:Nat}:dxL P T o u i acc ⟨tm,os,nx⟩ k Tt=aopX P T o (St.loc (opT o) Tt nx ⟨tm,os,nx⟩) (dxR P o u i acc ⟨tm,os,nx⟩ Tt k):=rfl
@[go_sem] theorem dxR_eq {op:Op} {k:List Ft→St→Prop} {tm:List (Nat×D)} {os:List (Nat×Ob)} {nx:Nat}:dxR P ⟨d,op,ty,pos,af,gd⟩ u i acc s Tt k ⟨tm,os,nx⟩=dxW P ⟨d,op,ty,pos,af,gd⟩ u i acc s Tt ⟨tm,os,nx⟩ k (wSl u (wOf (stOp op) Tt os)):=rfl
@[go_sem] theorem dxW_eq {op:Op} {k:List Ft→St→Prop} {tm tm':List (Nat×D)} {os os':List (Nat×Ob)} {nx nx':Nat}:dxW P ⟨d,op,ty,pos,af,gd⟩ u i acc ⟨tm,os,nx⟩ Tt ⟨tm',os',nx'⟩ k W=
 (low nx Tt=true∧valsB Tt (pickL (opT ⟨d,op,ty,pos,af,gd⟩) tm)=true∧obsB Tt (pickL Tt os)=true∧nx≤nx'∧rosB Tt nx nx' os'=true∧rvP Tt nx nx' tm' d∧sameO W os' os Tt∧
 accB u ⟨i,Tt,W,nx,nx'⟩ acc∧k (push ⟨i,Tt,W,nx,nx'⟩ acc) (St.mrg ⟨tm,os,nx⟩ Tt d ⟨tm',os',nx'⟩)):=rfl
end
open Go
attribute [go_sem] Bool.false_and Bool.and_false Bool.true_and Bool.and_true Bool.or_false Bool.false_or Bool.true_or Bool.or_true Bool.not_true Bool.not_false
section
variable {P:Program} {T:Tab} {n N:Nat} {lv:Nat→Option (List Nat)} {s s':St} {Q:Exit→St→Prop}
def ng (Q:Exit→St→Prop):Exit→St→Prop
 | .goto _,_=>False
 |e,s=>Q e s
theorem SWp.scope {c:Code} (h:SWp P n N c (ng Q) s):SWp P n N (.scope c) Q s:=by
 intro δ g a w hr hn
 refine wp_scope_straight (wp_mono (h δ g a w hr hn) fun e a' w' ⟨g',s',h1,h2⟩=> ?_)
 cases e with
 |goto l=>exact h1.elim
 |_=>exact⟨g',s',h1,h2⟩
@[congr] theorem ng_congr {e:Exit} (h':s=s'):ng Q e s=ng Q e s':=by rw [h']
@[go_sem] theorem ng_n:ng Q .normal s=Q .normal s:=rfl
@[go_sem] theorem ng_r:ng Q .ret s=Q .ret s:=rfl
@[go_sem] theorem ng_e {i:Nat}:ng Q (.exit i) s=Q (.exit i) s:=rfl
@[go_sem] theorem okD_ite {p:Prop} [Decidable p] {v:D} {d:Option Nat} {K:St→Prop}:okD (if p then some v else none) d s K=(p∧K (s.put d v)):=by
 by_cases h:p<;>simp [h,okD]
@[go_sem] theorem okS_ite {p:Prop} [Decidable p] {K:St→Prop}:okS (if p then some s else none) K=(p∧K s):=by
 by_cases h:p<;>simp [h,okS]
end
open Go
section
variable {P:Program} {g g':G} {w w':World}
def opnD (id n c sz:Nat):D→D
 | .vec i m=>if i=id∧m=n then .view id c sz 0 n else .vec i m
 |d=>d
def sealQ (Q:D→List (Nat×Ob)→Nat→Prop) (d:D) (os:List (Nat×Ob)) (nx:Nat):Prop:=match d with
 | .view id c sz lo n=>match lk id os with
  |some (.vec hd sz' e els)=>lo=0∧c=els.length∧sz=sz'∧Q (.vec nx n) ((nx, .vec hd sz' e (els.take n))::rmv os [id]) (nx+1)
  |_=>False
 |d=>Q d os nx
attribute [go_sem] opnD sealQ false_and and_false Int.zero_add Int.natCast_nonneg Nat.zero_add
theorem opn_rel {id sz:Nat} {hd:Bool} {e:TypeId} {els:List (List C)} {os:List (Nat×Ob)} {nx:Nat} (hr:RelO g ⟨[],os,nx⟩ w) (ho:lk id os=some (.vec hd sz e els)):
 ∃c g',els.length≤c∧c≤9223372036854775807∧RelO g' ⟨[],upd id (.vec hd sz e (fit c sz els)) os,nx⟩ w∧Step g ⟨[],os,nx⟩ w g' ⟨[],upd id (.vec hd sz e (fit c sz els)) os,nx⟩ w∧
  ∀v d,VRel g w v d→VRel g' w v (opnD id els.length c sz d):=by
 obtain⟨a0,cap,h1,h2,h3,h4,h5⟩:=hr.ok id _ ho
 have hle:g.Le (g.vec id (a0,cap,cap)):=⟨fun id b hb=>hb,fun j x l c hj=>by
  by_cases h:j=id
  ·subst h
   rw [h1]at hj;cases hj
   exact⟨a0,cap,cap,by simp [G.vec],h2,fun _=>⟨rfl,rfl⟩⟩
  ·exact⟨x,l,c,by simp [G.vec,h,hj],Nat.le_refl _,fun _=>⟨rfl,rfl⟩⟩,fun b hb=>hb⟩
 obtain⟨h6,h7⟩:=hr.replace ho (.vec hd sz e (fit cap sz els)) [] hle (fun b hb=>hb) (fun i hi=>rfl) (fun i hi=>by simp [G.vec,hi]) (w':=w) (Nat.le_refl _) (fun _ _ _=>rfl)
  (by
   refine⟨a0,cap,by rw [fit_length];simp [G.vec],by rw [fit_length];exact Nat.le_refl _,h3,fit_wide h4, ?_⟩
   rcases h5 with h5|⟨b,off,cells,vs,rfl,h8,h9,h10,h11⟩
   ·exact .inl h5
   ·obtain⟨vs2,h12⟩:=ok_fit (I:=g.I) (w:=w) (c:=cap) (els:=els) h9 h10.2 (fun i j x y _ hx hy=>⟨_,(h11 i j x y hx hy).1,(h11 i j x y hx hy).2⟩)
    exact .inr ⟨b,off,cells,vs2,rfl,h8,h9,h10,h12⟩)
  (fun b hb=> .inl (by
   simp only [G.blk,G.vec,if_true]at hb
   simp only [G.blk,h1]
   cases a0<;>exact hb))
 refine⟨cap,_,h2,h3,h6,h7,fun v d hv=> ?_⟩
 have hm:=hv.mono (fun _ _=>rfl) hle
 unfold opnD
 split
 ·rename_i i m
  split
  ·rename_i hc
   obtain⟨rfl,rfl⟩:=hc
   cases hv with
   |vec a' cap' _ _ a1 len cap1 hk hn hm' ha hvv=>
    rw [h1]at hk;cases hk
    obtain⟨rfl,rfl⟩:=hvv rfl
    refine .view a' cap' i cap' sz 0 els.length a' cap' cap' (by simp [G.vec]) (Nat.le_refl _) (Nat.zero_le _) h2 h3 fun _=>⟨rfl,rfl,fun h=>h,fun b o hb=>⟨fun _=>by rw [Nat.zero_mul];exact hb,o,hb⟩⟩
  ·exact hm
 ·exact hm
theorem ACall.opn {f:FuncId} {ds:List D} {os:List (Nat×Ob)} {nx:Nat} {Q:D→List (Nat×Ob)→Nat→Prop} (id:Nat) {hd:Bool} {sz:Nat} {e:TypeId} {els:List (List C)} (ho:lk id os=some (.vec hd sz e els)) (hl:els.length≤9223372036854775807)
 (h:∀c,els.length≤c→c≤9223372036854775807→ACall P f (ds.map (opnD id els.length c sz)) (upd id (.vec hd sz e (fit c sz els)) os) nx Q):ACall P f ds os nx Q:=by
 refine⟨(h _ (Nat.le_refl _) hl).1,fun g w vs hr hsz hv=> ?_⟩
 obtain⟨c,g',h1,h2,h3,h4,h5⟩:=opn_rel hr ho
 refine((h c h1 h2).2 g' w vs h3 (by rw [List.length_map];exact hsz) (fun i v d hvv hd=> ?_)).mono fun e w' ⟨v,d,g2,os',nx',he,hq,hro,hvr,hst⟩=>⟨v,d,g2,os',nx',he,hq,hro,hvr,h4.trans hst⟩
 rw [List.getElem?_map,Option.map_eq_some_iff]at hd
 obtain⟨d0,hd0,rfl⟩:=hd
 exact h5 v d0 (hv i v d0 hvv hd0)
theorem seal_rel {id c sz n:Nat} {hd:Bool} {e:TypeId} {els:List (List C)} {os:List (Nat×Ob)} {nx:Nat} (ho:RelO g ⟨[],os,nx⟩ w) (hlk:lk id os=some (.vec hd sz e els)) (hc:c=els.length) {v:Value} (hv:VRel g w v (.view id c sz 0 n)):
 ∃g',RelO g' ⟨[],(nx, .vec hd sz e (els.take n))::rmv os [id],nx+1⟩ w∧VRel g' w v (.vec nx n)∧Step g ⟨[],os,nx⟩ w g' ⟨[],(nx, .vec hd sz e (els.take n))::rmv os [id],nx+1⟩ w:=by
 obtain⟨a1,cap1,h1,h2,h3,h4,h5⟩:=ho.ok id _ hlk
 cases hv with
 |view a' cap' _ _ _ _ _ a0 len cap hk hle hl hh hm hvv=>
 rw [hk]at h1;cases h1
 obtain⟨rfl,rfl,h6,h7⟩:=hvv hc
 subst hc
 have haa:a'=a1:=by
  rcases h5 with⟨rfl,_⟩|⟨b,off,_,_,rfl,_⟩
  ·exact h6 rfl
  ·have:=(h7 b off rfl).1 (.inr rfl)
   rw [this,Nat.zero_mul,Nat.add_zero]
 subst haa
 have hfr:=ho.fresh nx (Nat.le_refl _)
 have hdl:(els.take n).length=n:=by rw [List.length_take];omega
 have hne:∀i o,lk i os=some o→i≠nx:=fun i o ho' hi=>by
  subst hi
  have:=ho.ok _ o ho'
  cases o with
  |box cs=>obtain⟨b,_,_,h,_⟩:=this;rw [hfr.1]at h;cases h
  |map _ _=>obtain⟨b,_,h,_⟩:=this;rw [hfr.1]at h;cases h
  |it _ _=>obtain⟨b,h,_⟩:=this;rw [hfr.1]at h;cases h
  |vec _ _ _ _=>obtain⟨b,_,h,_⟩:=this;rw [hfr.2]at h;cases h
 have hidne:=hne id _ hlk
 have hκ:∀i,i≠nx→(g.vec nx (a',n,els.length)).κ i=g.κ i:=fun i hi=>if_neg hi
 have hκ0:(g.vec nx (a',n,els.length)).κ nx=some (a',n,els.length):=if_pos rfl
 have hgle:g.Le (g.vec nx (a',n,els.length)):=⟨fun _ _ h=>h,fun i x y z h=>⟨x,y,z,by
  have:i≠nx:=fun hi=>by rw [hi,hfr.2]at h;cases h
  rw [hκ i this];exact h,Nat.le_refl _,fun _=>⟨rfl,rfl⟩⟩,fun _ h=>h⟩
 have hin:∀i o,lk i ((nx,Ob.vec hd sz e (els.take n))::rmv os [id])=some o→(i=nx∧o= .vec hd sz e (els.take n))∨(i≠nx∧i≠id∧lk i os=some o):=fun i o h=>by
  simp only [lk_cons,lk_rmv]at h
  split at h
  ·rename_i hi;cases h;exact .inl ⟨hi,rfl⟩
  ·rename_i hi
   split at h
   ·cases h
   ·rename_i hi2;exact .inr ⟨hi,by simpa using hi2,h⟩
 have hblk:∀i o,i≠nx→(g.vec nx (a',n,els.length)).blk i o=g.blk i o:=fun i o hi=>by
  cases o with
  |box cs=>rfl
  |map _ _=>rfl
  |it _ _=>rfl
  |vec _ _ _ _=>simp only [G.blk,hκ i hi]
 have hblk0:∀b,(g.vec nx (a',n,els.length)).blk nx (.vec hd sz e (els.take n))=some b→g.blk id (.vec hd sz e els)=some b:=fun b hb=>by
  simp only [G.blk,hκ0]at hb
  simp only [G.blk,hk]
  cases a'<;>exact hb
 have hown:∀b,Own (g.vec nx (a',n,els.length)) ⟨[],(nx, .vec hd sz e (els.take n))::rmv os [id],nx+1⟩ b→Own g ⟨[],os,nx⟩ b:=fun b ⟨i,o,h6,h7⟩=>by
  rcases hin i o h6 with⟨rfl,rfl⟩|⟨h8,_,h9⟩
  ·exact⟨id,_,hlk,hblk0 b h7⟩
  ·rw [hblk i o h8]at h7;exact⟨i,o,h9,h7⟩
 have hst:Step g ⟨[],os,nx⟩ w (g.vec nx (a',n,els.length)) ⟨[],(nx, .vec hd sz e (els.take n))::rmv os [id],nx+1⟩ w:=
  ⟨hgle,Nat.le_refl _,fun _ _ _=>rfl,fun b _ hno h=>hno (hown b h),fun _ _ _ h=>h, .refl w⟩
 refine⟨g.vec nx (a',n,els.length),⟨fun i o hi=> ?_,fun i o i' o' b h6 h7 h8 h9=> ?_,fun i hi=> ?_,fun b hb=>⟨(ho.imm b hb).1,fun h=>(ho.imm b hb).2 (hown b h)⟩,ho.cel⟩, ?_,hst⟩
 ·rcases hin i o hi with⟨rfl,rfl⟩|⟨h8,_,h9⟩
  ·refine⟨_,_,hκ0.trans (by rw [hdl]),by rw [hdl];omega,by omega,fun x hx=>h4 x (List.mem_of_mem_take hx), ?_⟩
   rcases h5 with⟨rfl,hc⟩|⟨b,off,cells,vs,rfl,h10,h11,h12,h13⟩
   ·exact .inl ⟨rfl,hc⟩
   ·refine .inr ⟨b,off,cells,vs,rfl,h10,h11,h12,fun i j x y hx hy=> ?_⟩
    rw [List.getElem?_take]at hx
    split at hx
    ·exact h13 i j x y hx hy
    ·cases hx
  ·exact(ho.ok i o h9).mono (fun _ _=>rfl) hgle (fun _ _=>rfl) (hκ i h8)
 ·rcases hin i o h6 with⟨rfl,rfl⟩|⟨h10,h11,h12⟩<;>rcases hin i' o' h7 with⟨rfl,rfl⟩|⟨h13,h14,h15⟩
  ·rfl
  ·rw [hblk i' o' h13]at h9
   exact absurd (ho.apart id _ i' o' b hlk h15 (hblk0 b h8) h9) (fun h=>h14 h.symm)
  ·rw [hblk i o h10]at h8
   exact absurd (ho.apart i o id _ b h12 hlk h8 (hblk0 b h9)) h11
  ·rw [hblk i o h10]at h8
   rw [hblk i' o' h13]at h9
   exact ho.apart i o i' o' b h12 h15 h8 h9
 ·have hi':nx+1≤i:=hi
  rw [hκ i (by omega)]
  exact ho.fresh i (Nat.le_of_succ_le hi')
 ·refine .vec a' _ nx n a' n els.length hκ0 (Nat.le_refl _) (by omega) ?_ fun _=>⟨rfl,rfl⟩
  rcases h5 with⟨_,hc⟩|⟨b,off,_,_,rfl,_⟩
  ·exact .inl (by omega)
  ·exact .inr ⟨b,off,rfl⟩
theorem ACall.sld {f:FuncId} {ds:List D} {os:List (Nat×Ob)} {nx:Nat} {Q:D→List (Nat×Ob)→Nat→Prop} (h:ACall P f ds os nx (sealQ Q)):ACall P f ds os nx Q:=by
 refine⟨h.1,fun g w vs hr hsz hv=>(h.2 g w vs hr hsz hv).mono fun e w' ⟨v,d,g2,os',nx',he,hq,hro,hvr,hst⟩=> ?_⟩
 unfold sealQ at hq
 split at hq
 ·split at hq
  ·rename_i hlk
   obtain⟨rfl,h1,rfl,h2⟩:=hq
   obtain⟨g3,h3,h4,h5⟩:=seal_rel hro hlk h1 hvr
   exact⟨v,_,g3,_,_,he,h2,h3,h4,hst.trans h5⟩
  ·cases hq
 ·exact⟨v,d,g2,os',nx',he,hq,hro,hvr,hst⟩
end
open Go
theorem fit_take {c sz n:Nat} {E:List (List C)} (h:n≤E.length) (h':n≤c):(fit c sz E).take n=E.take n:=by
 rw [fit,List.take_take,Nat.min_eq_left h',List.take_append_of_le_length h]
theorem lay_length {E X:List (List C)} {i:Nat} (h:i+X.length≤E.length):(lay E i X).length=E.length:=setAt_length _ _ _ h
theorem lay_get {E X:List (List C)} {i p:Nat} (h:i+X.length≤E.length):(lay E i X)[p]? =if i≤p∧p<i+X.length then X[p - i]? else E[p]? :=setAt_get h
theorem ins_get {E:List (List C)} {x:List C} {i k:Nat} (h:i≤E.length):(E.take i++x::E.drop i)[k]? =if k<i then E[k]? else if k=i then some x else E[k - 1]? :=by
 have h1:(E.take i).length=i:=by rw [List.length_take];omega
 by_cases hk:k<i
 ·rw [if_pos hk,List.getElem?_append_left (by omega),List.getElem?_take_of_lt hk]
 ·rw [if_neg hk,List.getElem?_append_right (by omega),h1]
  by_cases hk2:k=i
  ·rw [if_pos hk2,hk2,Nat.sub_self];rfl
  ·rw [if_neg hk2,show k - i=(k - i - 1)+1 by omega,List.getElem?_cons_succ,List.getElem?_drop]
   congr 1
   omega
theorem ins_lay {sz c i n:Nat} {E A:List (List C)} {x:List C} (hn:n=E.length) (hi:i<n) (h2:n+1≤c) (hA:(lay A i [x]).length=c) (hA0:∀k,k<i→A[k]? =E[k]?) (hAl:A.length=c):
 (fit c sz (lay (fit c sz (lay A i [x])) (i+1) (E.drop i))).take (n+1)=E.take i++x::E.drop i:=by
 subst hn
 have hd:(E.drop i).length=E.length - i:=List.length_drop
 rw [fit_eq hA,fit_eq (by rw [lay_length (by omega)];exact hA)]
 apply List.ext_getElem?
 intro k
 rw [ins_get (by omega),List.getElem?_take]
 by_cases hk:k<E.length+1
 ·rw [if_pos hk,lay_get (by omega),lay_get (by simp only [List.length_singleton];omega),hd]
  simp only [List.length_singleton]
  by_cases h3:k<i
  ·rw [if_neg (by omega),if_neg (by omega),if_pos h3,hA0 k h3]
  ·rw [if_neg h3]
   by_cases h4:k=i
   ·rw [if_neg (by omega),if_pos (by omega),if_pos h4,h4,Nat.sub_self];rfl
   ·rw [if_pos (by omega),if_neg h4,List.getElem?_drop]
    congr 1
    omega
 ·rw [if_neg hk,if_neg (by omega),if_neg (by omega),List.getElem?_eq_none (by omega)]
theorem ins_new {sz c c1 i:Nat} {E:List (List C)} {x z:List C} (hi:i<E.length) (hc:E.length≤c) (h2:E.length+1≤c1):
 (fit c1 sz (lay (fit c1 sz (lay (fit c1 sz ((fit c sz E).take i++List.replicate (E.length+1 - i) z)) i ([x].take (E.length+1 - i)))) (i+1) ((((fit c sz E).take E.length).drop i).take (E.length+1 - (i+1))))).take (E.length+1)=E.take i++x::E.drop i:=by
 rw [fit_take (c:=c) (sz:=sz) (E:=E) (n:=E.length) (Nat.le_refl _) hc,List.take_length,List.take_of_length_le (l:=E.drop i) (by rw [List.length_drop];omega),List.take_of_length_le (l:=[x]) (by simp only [List.length_singleton];omega),fit_take (c:=c) (sz:=sz) (E:=E) (n:=i) (by omega) (by omega)]
 refine ins_lay rfl hi h2 ?_ (fun k hk=> ?_) (fit_length _ _ _)
 ·rw [lay_length (by rw [fit_length];simp only [List.length_singleton];omega),fit_length]
 ·rw [fit_get,if_pos (by omega),if_pos (by simp only [List.length_append,List.length_take,List.length_replicate];omega),List.getElem?_append_left (by rw [List.length_take];omega),List.getElem?_take_of_lt hk]
theorem ins_old {sz c i:Nat} {E:List (List C)} {x:List C} (hi:i<E.length) (hc:E.length+1≤c):
 (fit c sz (lay (fit c sz (lay (fit c sz E) (i+1) ((((fit c sz E).take (E.length+1)).drop i).take (E.length+1 - (i+1))))) i ([x].take (E.length+1 - i)))).take (E.length+1)=E.take i++x::E.drop i:=by
 have e1:(((fit c sz E).take (E.length+1)).drop i).take (E.length+1 - (i+1))=E.drop i:=by
  apply List.ext_getElem?
  intro k
  rw [List.getElem?_take,List.getElem?_drop,List.getElem?_drop,List.getElem?_take,fit_get]
  by_cases h:k<E.length+1 - (i+1)
  ·rw [if_pos h,if_pos (by omega),if_pos (by omega),if_pos (by omega)]
  ·rw [if_neg h,List.getElem?_eq_none (by omega)]
 have hd:(E.drop i).length=E.length - i:=List.length_drop
 have hl:(lay (fit c sz E) (i+1) (E.drop i)).length=c:=by rw [lay_length (by rw [fit_length,hd];omega),fit_length]
 rw [e1,List.take_of_length_le (l:=[x]) (by simp only [List.length_singleton];omega),fit_eq hl,fit_eq (by rw [lay_length (by rw [hl];simp only [List.length_singleton];omega),hl])]
 apply List.ext_getElem?
 intro k
 rw [ins_get (by omega),List.getElem?_take]
 by_cases hk:k<E.length+1
 ·rw [if_pos hk,lay_get (by rw [hl];simp only [List.length_singleton];omega),lay_get (by rw [fit_length,hd];omega),hd]
  simp only [List.length_singleton]
  by_cases h3:k<i
  ·rw [if_neg (by omega),if_neg (by omega),if_pos h3,fit_get,if_pos (by omega),if_pos (by omega)]
  ·rw [if_neg h3]
   by_cases h4:k=i
   ·rw [if_pos (by omega),if_pos h4,h4,Nat.sub_self];rfl
   ·rw [if_neg (by omega),if_pos (by omega),if_neg h4,List.getElem?_drop]
    congr 1
    omega
 ·rw [if_neg hk,if_neg (by omega),if_neg (by omega),List.getElem?_eq_none (by omega)]
open Go Ieee
def kInf:Int:=2^2200
def kNan:Int:= -2^2300
theorem kInf_pos:0<kInf:=by unfold kInf;exact Int.pow_pos (by decide)
theorem kNan_lt:kNan< -kInf:=by
 unfold kNan kInf
 have:(2:Int)^2200<2^2300:=Int.pow_lt_pow_of_lt (by decide) (by decide)
 omega
def dkey:Datum→Int
 | .number s m i=>signed s m (i+1074).toNat
 | .infinity s=>if s=true then -kInf else kInf
 | .nan _ _=>kNan
def Dbl:Datum→Prop
 | .number _ m i=> -1074≤i∧i≤1000∧m<2^53
 |_=>True
theorem read_dbl (n:Nat):Dbl (FloatKind.f64.format.read n):=by
 unfold Format.read
 have e1:FloatKind.f64.format.signWeight=2^63:=rfl
 have e2:FloatKind.f64.format.binade=4503599627370496:=rfl
 have e3:FloatKind.f64.format.infRung=9218868437227405312:=rfl
 have e4:FloatKind.f64.format.leastPlace= -1074:=rfl
 simp only [e1,e2,e3,e4]
 split
 ·exact⟨by omega,by omega,by omega⟩
 ·split
  ·exact⟨by omega,by omega,by omega⟩
  ·split<;>trivial
theorem signed_eq (s:Bool) (m k:Nat):signed s m k=(if s=true then -(m:Int)else m)*2^k:=by
 unfold signed
 rw [Nat.shiftLeft_eq]
 cases s<;>simp [Int.neg_mul]
theorem pow2_le {a b:Nat} (h:a≤b):(2:Int)^a≤2^b:=by
 have:=Nat.pow_le_pow_right (n:=2) (by decide) h
 have h5:((2^a:Nat):Int)≤((2^b:Nat):Int):=Int.ofNat_le.2 this
 rwa [Int.natCast_pow,Int.natCast_pow]at h5
theorem signed_lt {s:Bool} {m k:Nat} (hm:m<2^53) (hk:k≤2100): -kInf<signed s m k∧signed s m k<kInf:=by
 have h1:(m:Int)*2^k<kInf:=by
  have h3:((m:Int))<2^53:=by
   have:((m:Nat):Int)<((2^53:Nat):Int):=Int.ofNat_lt.2 hm
   simpa using this
  have h4:(2:Int)^k≤2^2100:=pow2_le hk
  have h0:(0:Int)<2^k:=Int.pow_pos (by decide)
  have q1:=Int.mul_lt_mul_of_pos_right h3 h0
  have q2:(2:Int)^53*2^k≤2^53*2^2100:=Int.mul_le_mul_of_nonneg_left h4 (by decide)
  have q3:(2:Int)^53*2^2100=2^(53+2100):=(Int.pow_add ..).symm
  rw [q3]at q2
  exact Int.lt_of_lt_of_le q1 (Int.le_trans q2 (Int.le_of_lt (Int.pow_lt_pow_of_lt (by decide) (by decide))))
 have h0:(0:Int)≤(m:Int)*2^k:=Int.mul_nonneg (Int.natCast_nonneg _) (Int.le_of_lt (Int.pow_pos (by decide)))
 have hp:=kInf_pos
 rw [signed_eq]
 cases s
 ·simp only [Bool.false_eq_true,if_false];omega
 ·simp only [if_true,Int.neg_mul];omega
theorem dkey_lt {d:Datum} (h:Dbl d):(∀s m i,d= .number s m i→ -kInf<dkey d∧dkey d<kInf):=by
 rintro s m i rfl
 exact signed_lt h.2.2 (by have:=h.1;have:=h.2.1;omega)
def ordI (a b:Int):Ordering:=if a<b then .lt else if b<a then .gt else .eq
theorem compare_int (a b:Int):compare a b=ordI a b:=by
 unfold ordI
 show compareOfLessAndEq a b=_
 unfold compareOfLessAndEq
 split
 ·rfl
 ·split
  ·rw [if_neg (by omega)]
  ·rw [if_pos (by omega)]
theorem ordI_mul {a b c:Int} (hc:0<c):ordI (a*c) (b*c)=ordI a b:=by
 unfold ordI
 simp only [Int.mul_lt_mul_right hc]
theorem order_key {d e:Datum} (hd:Dbl d) (he:Dbl e) (h1:d.isNaN=false) (h2:e.isNaN=false):d.order e=some (ordI (dkey d) (dkey e)):=by
 have hp:=kInf_pos
 cases d with
 |nan s t=>cases h1
 |infinity s=>cases e with
  |nan s t=>cases h2
  |infinity t=>
   cases s<;>cases t
   ·simp [Datum.order,dkey,ordI]
   ·simp only [Datum.order,dkey,ordI,Bool.false_eq_true,if_false,if_true];rw [if_neg (by omega),if_pos (by omega)];rfl
   ·simp only [Datum.order,dkey,ordI,Bool.false_eq_true,if_false,if_true];rw [if_pos (by omega)];rfl
   ·simp [Datum.order,dkey,ordI]
  |number t n j=>
   have:=dkey_lt he t n j rfl
   cases s
   ·simp only [Datum.order,Bool.false_eq_true,if_false,Option.some.injEq]
    unfold ordI
    rw [if_neg (by simp only [dkey,Bool.false_eq_true,if_false]at*;omega),if_pos (by simp only [dkey,Bool.false_eq_true,if_false]at*;omega)]
   ·simp only [Datum.order,if_true,Option.some.injEq]
    unfold ordI
    rw [if_pos (by simp only [dkey,if_true]at*;omega)]
 |number s m i=>cases e with
  |nan s t=>cases h2
  |infinity t=>
   have:=dkey_lt hd s m i rfl
   cases t
   ·simp only [Datum.order,Bool.false_eq_true,if_false,Option.some.injEq]
    unfold ordI
    rw [if_pos (by simp only [dkey,Bool.false_eq_true,if_false]at*;omega)]
   ·simp only [Datum.order,if_true,Option.some.injEq]
    unfold ordI
    rw [if_neg (by simp only [dkey,if_true]at*;omega),if_pos (by simp only [dkey,if_true]at*;omega)]
  |number t n j=>
   simp only [Datum.order,dkey,Option.some.injEq,compare_int]
   have hb: -1074≤min i j:=by have:=hd.1;have:=he.1;omega
   have e1:(i+1074).toNat=(i - min i j).toNat+(min i j+1074).toNat:=by omega
   have e2:(j+1074).toNat=(j - min i j).toNat+(min i j+1074).toNat:=by omega
   rw [signed_eq,signed_eq,signed_eq,signed_eq,e1,e2,Int.pow_add,Int.pow_add,←Int.mul_assoc,←Int.mul_assoc,ordI_mul (Int.pow_pos (by decide))]
def fkey:Option Nat→Int
 |some n=>dkey (FloatKind.f64.format.read n)
 |none=>kNan
theorem dkey_nan {d:Datum} (h:Dbl d):dkey d=kNan↔d.isNaN=true:=by
 have:=kNan_lt
 have hp:=kInf_pos
 cases d with
 |nan s t=>exact⟨fun _=>rfl,fun _=>rfl⟩
 |infinity s=>
  refine⟨fun h=> ?_,fun h=>by cases h⟩
  cases s<;>simp only [dkey,Bool.false_eq_true,if_false,if_true]at h<;>omega
 |number s m i=>
  have:=dkey_lt h s m i rfl
  exact⟨fun h=>by omega,fun h=>by cases h⟩
theorem dkey_ge {d:Datum} (h:Dbl d):kNan≤dkey d:=by
 have:=kNan_lt
 have hp:=kInf_pos
 cases d with
 |nan s t=>exact Int.le_refl _
 |infinity s=>cases s<;>simp only [dkey,Bool.false_eq_true,if_false,if_true]<;>omega
 |number s m i=>have:=dkey_lt h s m i rfl;omega
theorem fkey_ge (x:Option Nat):kNan≤fkey x:=by
 cases x with
 |none=>exact Int.le_refl _
 |some n=>exact dkey_ge (read_dbl n)
def fnan (x:Option Nat):Bool:=ford x x != some .eq
theorem order_nan {d e:Datum} (h:d.isNaN=true∨e.isNaN=true):d.order e=none:=by
 rcases h with h|h
 ·obtain⟨s,t,rfl⟩:=isNaN_iff h;rfl
 ·obtain⟨s,t,rfl⟩:=isNaN_iff h;cases d<;>rfl
theorem ford_key (x y:Option Nat):ford x y=if fkey x=kNan∨fkey y=kNan then none else some (ordI (fkey x) (fkey y)):=by
 cases x with
 |none=>simp [ford,fkey]
 |some a=>cases y with
  |none=>simp [ford,fkey]
  |some b=>
   simp only [ford,fkey,Format.order,dkey_nan (read_dbl a),dkey_nan (read_dbl b)]
   split
   ·rename_i h;exact order_nan h
   ·rename_i h
    simp only [not_or,Bool.not_eq_true]at h
    exact order_key (read_dbl a) (read_dbl b) h.1 h.2
theorem fnan_key (x:Option Nat):fnan x=decide (fkey x=kNan):=by
 unfold fnan
 rw [ford_key]
 by_cases h:fkey x=kNan
 ·simp [h]
 ·simp [h,ordI]
theorem ford_lt (x y:Option Nat):(ford x y==some .lt)=(decide (fkey x≠kNan)&&decide (fkey x<fkey y)):=by
 rw [ford_key]
 have h1:=fkey_ge x
 have h2:=fkey_ge y
 by_cases hx:fkey x=kNan
 ·simp [hx]
 ·by_cases hy:fkey y=kNan
  ·have:¬fkey x<kNan:=by omega
   simp [hx,hy,this]
  ·simp only [hx,hy,or_self,if_false,ne_eq,not_false_eq_true,decide_true,Bool.true_and,ordI]
   by_cases h:fkey x<fkey y
   ·simp [h]
   ·by_cases h':fkey y<fkey x<;>simp [h,h']
theorem ford_gt (x y:Option Nat):(ford x y==some .gt)=(decide (fkey y≠kNan)&&decide (fkey y<fkey x)):=by
 rw [ford_key]
 have h1:=fkey_ge x
 have h2:=fkey_ge y
 by_cases hx:fkey x=kNan
 ·have:¬fkey y<kNan:=by omega
  simp [hx,this]
 ·by_cases hy:fkey y=kNan
  ·simp [hy]
  ·simp only [hx,hy,or_self,if_false,ne_eq,not_false_eq_true,decide_true,Bool.true_and,ordI]
   by_cases h:fkey x<fkey y
   ·have:¬fkey y<fkey x:=by omega
    simp [h,this]
   ·by_cases h':fkey y<fkey x<;>simp [h,h']
theorem ford_eqk (x y:Option Nat):(ford x y==some .eq)=(decide (fkey y≠kNan)&&decide (fkey x=fkey y)):=by
 rw [ford_key]
 by_cases hx:fkey x=kNan
 ·by_cases hy:fkey y=kNan
  ·simp [hy]
  ·have:¬kNan=fkey y:=fun e=>hy e.symm
   simp [hx,this]
 ·by_cases hy:fkey y=kNan
  ·simp [hy]
  ·simp only [hx,hy,or_self,if_false,ne_eq,not_false_eq_true,decide_true,Bool.true_and,ordI]
   by_cases h:fkey x<fkey y
   ·have:¬fkey x=fkey y:=by omega
    simp [h,this]
   ·by_cases h':fkey y<fkey x
    ·have:¬fkey x=fkey y:=by omega
     simp [h,h',this]
    ·have:fkey x=fkey y:=by omega
     simp [h,h',this]
theorem flo_key (n:Nat):fkey (flo .f64 n)=dkey (FloatKind.f64.format.read n):=by
 by_cases h:(FloatKind.f64.format.read n).isNaN=true
 ·rw [flo_nan h,fkey,(dkey_nan (read_dbl n)).2 h]
 ·rw [flo_num h];rfl
open Go Go.IntWalk
abbrev fg (t:Nat):Nat×(List D→Option (Prop×D×Fr)):=(1000000000+t,fun _=>none)
abbrev ovk (f:Nat):Nat×(List D→Option (Prop×D×Fr)):=(2000000000+f,fun _=>none)
theorem fg_ok {P:Program} (t:Nat):∀rs p r fr,(fun _=>none:List D→Option (Prop×D×Fr)) rs=some (p,r,fr)→p→FnOk P (1000000000+t) rs r fr:=fun rs p r fr h=>by cases h
theorem ov_ok {P:Program} (t:Nat):∀rs p r fr,(fun _=>none:List D→Option (Prop×D×Fr)) rs=some (p,r,fr)→p→FnOk P (2000000000+t) rs r fr:=fun rs p r fr h=>by cases h
theorem TabOk.append {P:Program} {T T':Tab} (h:TabOk P T) (h':TabOk P T'):TabOk P (T++T'):=by
 intro f sp rs p r fr hl hs hp
 rw [lk_app]at hl
 cases hk:lk f T with
 |none=>rw [hk]at hl;exact h' f sp rs p r fr hl hs hp
 |some x=>rw [hk]at hl;exact h f sp rs p r fr (by rw [hk];exact hl) hs hp
@[go_sem] theorem u64_nn (x:Int):0≤IntKind.u64.wrap x:=by
 simp only [IntKind.wrap,IntKind.signed,IntKind.bits]
 exact Int.emod_nonneg _ (by decide)
theorem u64_i64 (x:Int):IntKind.u64.wrap (IntKind.i64.wrap x)=IntKind.u64.wrap x:=by
 simp only [IntKind.wrap,IntKind.signed,IntKind.bits,IntKind.min]
 simp
 omega
theorem mid_eq {i j n:Nat} (h:i≤j) (hj:j≤n) (hn:(n:Int)≤9223372036854775807):IntKind.i64.wrap ((IntKind.u64.wrap (IntKind.i64.wrap (i+j))).fdiv (2^min 1 64))=(((i+j) / 2:Nat):Int):=by
 rw [u64_i64,u64_in _ (by omega),show(2^min 1 64:Int)=2 from rfl,Int.fdiv_eq_ediv_of_nonneg _ (by decide),i64_in _ (by omega)]
 omega
attribute [go_sem] Int.natCast_nonneg Int.toNat_natCast
def u64s (l:List Nat):List (List C):=l.map fun k:Nat=>[.int .u64 (k:Int)]
def u8s (l:List UInt8):List (List C):=l.map fun k:UInt8=>[.int .u8 (k.toNat:Int)]
def i64s (l:List Int):List (List C):=l.map fun k=>[.int .i64 k]
def du64s (l:List (List C)):List Nat:=l.map fun|[.int _ k]=>k.toNat|_=>0
def du8s (l:List (List C)):List UInt8:=l.map fun|[.int _ k]=>UInt8.ofNat k.toNat|_=>0
def w8 (n:Int):UInt8:=UInt8.ofNat (n % 256).toNat
theorem w8_wrap (n:Int):IntKind.u8.wrap n=((w8 n).toNat:Int):=by
 have h:IntKind.u8.wrap n=n % 256:=by simp [IntKind.wrap,IntKind.signed,IntKind.bits]
 rw [h,w8,UInt8.toNat_ofNat']
 omega
def di64s (l:List (List C)):List Int:=l.map fun|[.int _ k]=>k|_=>0
@[simp,go_sem] theorem u64s_length (l:List Nat):(u64s l).length=l.length:=by simp [u64s]
@[simp,go_sem] theorem u8s_length (l:List UInt8):(u8s l).length=l.length:=by simp [u8s]
@[simp,go_sem] theorem i64s_length (l:List Int):(i64s l).length=l.length:=by simp [i64s]
@[go_sem] theorem u64s_get (l:List Nat) (i:Nat):(u64s l).getD i [.int .u64 0]=[.int .u64 (l.getD i default:Nat)]:=by
 simp only [u64s,List.getD_eq_getElem?_getD,List.getElem?_map]
 cases l[i]? <;>rfl
@[go_sem] theorem u8s_get (l:List UInt8) (i:Nat):(u8s l).getD i [.int .u8 0]=[.int .u8 ((l.getD i default).toNat:Int)]:=by
 simp only [u8s,List.getD_eq_getElem?_getD,List.getElem?_map]
 cases l[i]? <;>rfl
@[go_sem] theorem i64s_get (l:List Int) (i:Nat):(i64s l).getD i [.int .i64 0]=[.int .i64 (l.getD i default)]:=by
 simp only [i64s,List.getD_eq_getElem?_getD,List.getElem?_map]
 cases l[i]? <;>rfl
@[go_sem] theorem u64s_wide (l:List Nat):Wide 1 (u64s l)=True:=by simp [Wide,u64s]
@[go_sem] theorem u8s_wide (l:List UInt8):Wide 1 (u8s l)=True:=by simp [Wide,u8s]
@[go_sem] theorem i64s_wide (l:List Int):Wide 1 (i64s l)=True:=by simp [Wide,i64s]
@[go_sem] theorem du64s_u64s (l:List Nat):du64s (u64s l)=l:=by
 simp only [du64s,u64s,List.map_map]
 exact List.map_id'' (fun e=>by simp) l
@[go_sem] theorem du8s_u8s (l:List UInt8):du8s (u8s l)=l:=by
 simp only [du8s,u8s,List.map_map]
 exact List.map_id'' (fun e=>by simp) l
@[go_sem] theorem di64s_i64s (l:List Int):di64s (i64s l)=l:=by
 simp only [di64s,i64s,List.map_map]
 exact List.map_id'' (fun e=>by simp) l
@[go_sem] theorem u64s_app (a b:List Nat):u64s a++u64s b=u64s (a++b):=by simp [u64s]
@[go_sem] theorem u8s_app (a b:List UInt8):u8s a++u8s b=u8s (a++b):=by simp [u8s]
@[go_sem] theorem u64s_drop (l:List Nat) (k:Nat):(u64s l).drop k=u64s (l.drop k):=by simp [u64s]
@[go_sem] theorem u8s_drop (l:List UInt8) (k:Nat):(u8s l).drop k=u8s (l.drop k):=by simp [u8s]
@[go_sem] theorem u64s_take (l:List Nat) (k:Nat):(u64s l).take k=u64s (l.take k):=by simp [u64s]
@[go_sem] theorem u8s_take (l:List UInt8) (k:Nat):(u8s l).take k=u8s (l.take k):=by simp [u8s]
@[go_sem] theorem u64s_one (z:Int) (h:0≤z):[[C.int .u64 z]]=u64s [z.toNat]:=by simp [u64s,Int.toNat_of_nonneg h]
@[go_sem] theorem u64s_cons (z:Int) (l:List Nat) (h:0≤z):[C.int .u64 z]::u64s l=u64s (z.toNat::l):=by simp [u64s,Int.toNat_of_nonneg h]
@[go_sem] theorem u64s_set (l:List Nat) (i:Nat) (z:Int) (h:0≤z):(u64s l).set i [C.int .u64 z]=u64s (l.set i z.toNat):=by simp [u64s,List.map_set,Int.toNat_of_nonneg h]
@[go_sem] theorem i64s_one (z:Int):[[C.int .i64 z]]=i64s [z]:=rfl
@[go_sem] theorem i64s_cons (z:Int) (l:List Int):[C.int .i64 z]::i64s l=i64s (z::l):=rfl
@[go_sem] theorem i64s_set (l:List Int) (i:Nat) (z:Int):(i64s l).set i [C.int .i64 z]=i64s (l.set i z):=by simp [i64s,List.map_set]
@[go_sem] theorem u8s_one (n:Int):[[C.int .u8 (IntKind.u8.wrap n)]]=u8s [w8 n]:=by rw [w8_wrap];rfl
@[go_sem] theorem u8s_cons (n:Int) (l:List UInt8):[C.int .u8 (IntKind.u8.wrap n)]::u8s l=u8s (w8 n::l):=by rw [w8_wrap];rfl
@[go_sem] theorem u8s_set (l:List UInt8) (i:Nat) (n:Int):(u8s l).set i [C.int .u8 (IntKind.u8.wrap n)]=u8s (l.set i (w8 n)):=by rw [w8_wrap];simp [u8s,List.map_set]
@[go_sem] theorem u8s_one' (b:UInt8):[[C.int .u8 (b.toNat:Int)]]=u8s [b]:=rfl
@[go_sem] theorem u8s_cons' (b:UInt8) (l:List UInt8):[C.int .u8 (b.toNat:Int)]::u8s l=u8s (b::l):=rfl
@[go_sem] theorem u8s_set' (l:List UInt8) (i:Nat) (b:UInt8):(u8s l).set i [C.int .u8 (b.toNat:Int)]=u8s (l.set i b):=by simp [u8s,List.map_set]
def bstr (l:List UInt8):ByteArray:=⟨l.toArray⟩
@[go_sem] theorem octs_u8s:∀l:List UInt8,octs (u8s l)=some l
 |[]=>rfl
 |b::l=>by
  have h:=octs_u8s l
  show octs ([.int .u8 (b.toNat:Int)]::u8s l)=_
  unfold octs
  rw [h]
  simp
@[go_sem] theorem octs_nil:octs []=some []:=rfl
@[go_sem] theorem bstr_eq (l:List UInt8):(⟨l.toArray⟩:ByteArray)=bstr l:=rfl
@[go_sem] theorem bstr_beq (a b:List UInt8):(bstr a==bstr b)=decide (a=b):=by
 have h:=beq_toListBytes (bstr a) (bstr b)
 rw [ByteArray.toList_eq,ByteArray.toList_eq]at h
 refine h.trans ?_
 rw [Bool.eq_iff_iff,beq_iff_eq,decide_eq_true_iff]
 simp [bstr]
def f64s (l:List (Option Nat)):List (List C):=l.map fun k=>[.flt .f64 k]
def df64s (l:List (List C)):List (Option Nat):=l.map fun|[.flt _ k]=>k|_=>none
@[simp,go_sem] theorem f64s_length (l:List (Option Nat)):(f64s l).length=l.length:=by simp [f64s]
@[go_sem] theorem f64s_get (l:List (Option Nat)) (i:Nat):(f64s l).getD i [.flt .f64 (some 0)]=[.flt .f64 (l.getD i (some 0))]:=by
 simp only [f64s,List.getD_eq_getElem?_getD,List.getElem?_map]
 cases l[i]? <;>rfl
@[go_sem] theorem f64s_wide (l:List (Option Nat)):Wide 1 (f64s l)=True:=by simp [Wide,f64s]
@[go_sem] theorem df64s_f64s (l:List (Option Nat)):df64s (f64s l)=l:=by
 simp only [df64s,f64s,List.map_map]
 exact List.map_id'' (fun e=>by simp) l
@[go_sem] theorem f64s_app (a b:List (Option Nat)):f64s a++f64s b=f64s (a++b):=by simp [f64s]
@[go_sem] theorem f64s_drop (l:List (Option Nat)) (k:Nat):(f64s l).drop k=f64s (l.drop k):=by simp [f64s]
@[go_sem] theorem f64s_take (l:List (Option Nat)) (k:Nat):(f64s l).take k=f64s (l.take k):=by simp [f64s]
@[go_sem] theorem f64s_one (z:Option Nat):[[C.flt .f64 z]]=f64s [z]:=rfl
@[go_sem] theorem f64s_cons (z:Option Nat) (l:List (Option Nat)):[C.flt .f64 z]::f64s l=f64s (z::l):=rfl
@[go_sem] theorem f64s_set (l:List (Option Nat)) (i:Nat) (z:Option Nat):(f64s l).set i [C.flt .f64 z]=f64s (l.set i z):=by simp [f64s,List.map_set]
@[go_sem] theorem flo_0:flo .f64 0=some 0:=by decide
@[go_sem] theorem flo_1:flo .f64 4607182418800017408=some 4607182418800017408:=by decide
@[go_sem] theorem flo_nan1:flo .f64 9221120237041090561=none:=by decide
def dkvF (l:List (List C×List C)):List (Nat×Int):=l.map fun|([.int _ k],[.int _ v])=>(k.toNat,v)|_=>(0,0)
@[go_sem] theorem dkvF_kvF {k v:IntKind} (l:List (Nat×Int)):dkvF (kvF k v l)=l:=by
 simp only [dkvF,kvF,List.map_map]
 exact List.map_id'' (fun e=>by simp) l
def cmpS (x y:Int):Int:=if x<y then -1 else if y<x then 1 else 0
theorem cmpS_neg {x y:Int}:cmpS x y<0↔x<y:=by
 unfold cmpS
 split
 ·simp;assumption
 ·split<;>simp<;>omega
theorem cmpS_0 {x y:Int}:cmpS x y=0↔x=y:=by
 unfold cmpS
 split
 ·simp;omega
 ·split<;>simp<;>omega
theorem take_succ_iff {α:Type} [DecidableEq α] [Inhabited α] {a b:List α} {i:Nat} (h1:i<a.length) (h2:i<b.length) (h:a.take i=b.take i):
 a.take (i+1)=b.take (i+1)↔a.getD i default=b.getD i default:=by
 have e1:a.take (i+1)=a.take i++[a[i]]:=by simp
 have e2:b.take (i+1)=b.take i++[b[i]]:=by simp
 rw [e1,e2,h,List.append_cancel_left_eq]
 simp [List.getD,List.getElem?_eq_getElem h1,List.getElem?_eq_getElem h2]
theorem getD_lt {α:Type} [Inhabited α] {l:List α} {i:Nat} (h:i<l.length):l.getD i default=l[i]:=by
 rw [List.getD_eq_getElem?_getD,List.getElem?_eq_getElem h];rfl
theorem take_succ {α:Type} [Inhabited α] {l:List α} {i:Nat} (h:i<l.length):l.take (i+1)=l.take i++[l.getD i default]:=by
 rw [getD_lt h];simp
theorem mem_getD {α:Type} [Inhabited α] {l:List α} {x:α}:x∈l↔∃i,i<l.length∧l.getD i default=x:=by
 constructor
 ·intro h
  obtain⟨i,hi,rfl⟩:=List.getElem_of_mem h
  exact⟨i,hi,getD_lt hi⟩
 ·rintro⟨i,hi,rfl⟩
  rw [getD_lt hi]
  exact List.getElem_mem hi
theorem nset_new {a:Nat} {b:Int}:∀{l:List (Nat×Int)},a∉l.map (·.1)→nset a b l=l++[(a,b)]
 |[],_=>rfl
 |(x,y)::l,h=>by
  simp only [List.map_cons,List.mem_cons,not_or]at h
  rw [nset,if_neg (fun e=>h.1 e.symm),nset_new h.2];rfl
theorem nlk_nset {a k:Nat} {b:Int}:∀{l:List (Nat×Int)},nlk k (nset a b l)=if k=a then some b else nlk k l
 |[]=>by
  by_cases h:a=k
  ·subst h;simp [nset,nlk]
  ·have:¬k=a:=fun e=>h e.symm
   simp [nset,nlk,h,this]
 |(x,y)::l=>by
  rw [nset]
  by_cases h:x=a
  ·subst h
   by_cases h2:x=k
   ·subst h2;simp [nlk]
   ·have:¬k=x:=fun e=>h2 e.symm
    simp [nlk,h2,this]
  ·rw [if_neg h,nlk,nlk,nlk_nset]
   by_cases h2:x=k
   ·subst h2;simp [h]
   ·simp [h2]
theorem nlk_some {k:Nat} {b:Int}:∀{l:List (Nat×Int)},(l.map (·.1)).Nodup→(nlk k l=some b↔(k,b)∈l)
 |[],_=>by simp [nlk]
 |(x,y)::l,h=>by
  simp only [List.map_cons,List.nodup_cons]at h
  rw [nlk]
  by_cases h2:x=k
  ·subst h2
   rw [if_pos rfl]
   simp only [Option.some.injEq,List.mem_cons,Prod.mk.injEq,true_and]
   refine⟨fun e=> .inl e.symm,fun e=> ?_⟩
   rcases e with e|e
   ·exact e.symm
   ·exact absurd (List.mem_map.2 ⟨_,e,rfl⟩) h.1
  ·rw [if_neg h2,nlk_some h.2,List.mem_cons]
   refine⟨.inr,fun e=> ?_⟩
   rcases e with e|e
   ·simp only [Prod.mk.injEq]at e;exact absurd e.1.symm h2
   ·exact e
theorem nlk_none {k:Nat}:∀{l:List (Nat×Int)},(nlk k l=none↔k∉l.map (·.1))
 |[]=>by simp [nlk]
 |(x,y)::l=>by
  rw [nlk]
  by_cases h2:x=k
  ·subst h2;simp
  ·have:¬k=x:=fun e=>h2 e.symm
   rw [if_neg h2,nlk_none];simp [this]
open Go
def mrk (D:Nat):Deferred:={target:= .collected D,args:= #[]}
section
variable {δ:List Deferred} {P:Program} {T:Tab} {g g' g'':G} {s s' s'':St} {a:Act} {w w' w'':World} {n N:Nat}
def SWm (P:Program) (n N:Nat) (c:Code) (Q:Exit→St→Prop) (s:St):Prop:=
 ∀(δ:List Deferred) (g:G) (a:Act) (w:World),Rel δ g s a w→a.tmps.size=n→
  c.wp P (fun e a' w'=>∃(Ds:List Nat) (g':G) (s':St),Q e s'∧Rel (Ds.map mrk++δ) g' s' a' w'∧(∀D∈Ds,w.heap.size≤D∧w'.heap[D]? =some (.deferred (some [])))∧Ds.Nodup∧a'.tmps.size=n∧StepN N g s w g' s' w') a w
theorem SWm.of {c:Code} {Q:Exit→St→Prop} (h:SWp P n N c Q s):SWm P n N c Q s:=fun δ g a w hr hn=>
 wp_mono (h δ g a w hr hn) fun e a' w' ⟨g',s',h1,h2,h3,h4⟩=>⟨[],g',s',h1,h2,fun D hD=>(by cases hD),List.nodup_nil,h3,h4⟩
theorem StepN.other (h:StepN N g s w g' s' w') (ho:RelO g s w) {D:Nat} {o:Obj} (hD:w.heap[D]? =some o) (hc:plainOb o=false):w'.heap[D]? =some o:=by
 rw [h.same D (Array.getElem?_eq_some_iff.1 hD).1 fun hown=> ?_,hD]
 obtain⟨o',h1,h2⟩:=Own.cel ho hown
 rw [h1]at hD
 cases hD
 rw [hc]at h2
 cases h2
theorem SWm.seq {x y:Code} {Q:Exit→St→Prop} (h:SWm P n N x (sq (SWm P n N y Q) Q) s):SWm P n N (.seq x y) Q s:=fun δ g a w hr hn=>by
 refine wp_seq (wp_mono (h δ g a w hr hn) fun e a' w' ⟨Ds,g',s',h1,h2,h3,h4,h5,h6⟩=> ?_)
 cases e with
 |normal=>
  refine wp_mono (h1 _ g' a' w' h2 h5) fun e a'' w'' ⟨Ds',g'',s'',h7,h8,h9,h10,h11,h12⟩=> ?_
  refine⟨Ds'++Ds,g'',s'',h7,by simpa using h8,fun D hD=> ?_, ?_,h11,h6.trans h12⟩
  ·rcases List.mem_append.1 hD with hD|hD
   ·exact⟨Nat.le_trans h6.size (h9 D hD).1,(h9 D hD).2⟩
   ·exact⟨(h3 D hD).1,h12.other h2.o (h3 D hD).2 rfl⟩
  ·refine List.nodup_append.2 ⟨h10,h4,fun D hD D' hD' e=> ?_⟩
   subst e
   have:=(h9 D hD).1
   have:=(Array.getElem?_eq_some_iff.1 (h3 D hD').2).1
   omega
 |_=>exact⟨Ds,g',s',h1,h2,h3,h4,h5,h6⟩
theorem SWm.block {id:Nat} {c:Code} {Q:Exit→St→Prop} (h:SWm P n N c (bl id Q) s):SWm P n N (.block id c) Q s:=fun δ g a w hr hn=>by
 refine wp_block (wp_mono (h δ g a w hr hn) fun e a' w' ⟨Ds,g',s',h1,h2,h3,h4,h5,h6⟩=> ?_)
 cases e with
 |exit i=>
  simp only [bl]at h1
  simp only [Exit.inBlock]
  split
  ·rename_i hi
   rw [if_pos hi]at h1
   exact⟨Ds,g',s',h1,h2,h3,h4,h5,h6⟩
  ·rename_i hi
   rw [if_neg hi]at h1
   exact⟨Ds,g',s',h1,h2,h3,h4,h5,h6⟩
 |_=>exact⟨Ds,g',s',h1,h2,h3,h4,h5,h6⟩
theorem SWm.mono {c:Code} {Q Q':Exit→St→Prop} (h:SWm P n N c Q s) (hq:∀e s',Q e s'→Q' e s'):SWm P n N c Q' s:=
 fun δ g a w hr hn=>wp_mono (h δ g a w hr hn) fun e a' w' ⟨Ds,g',s',h1,h2⟩=>⟨Ds,g',s',hq e s' h1,h2⟩
theorem Ext.grown (h:Ext w w'):w.grownBy w' none:=⟨h.2.2.os,h.2.2.tape,h.2.2.out,h.1,fun k hk _=>h.2.1 k hk⟩
theorem RelO.grown {row:Option Nat} (ho:RelO g s w) (hg:w.grownBy w' row) (hrow:∀r,row=some r→∃o:Obj,w.heap[r]? =some o∧plainOb o=false):RelO g s w':=by
 have hcel:∀b,Cel w b→w'.heap[b]? =w.heap[b]? :=fun b hb=>hg.block b hb.lt fun e=>by
  obtain⟨o,h1,h2⟩:=hrow b e.symm
  obtain⟨o',h3,h4⟩:=hb
  rw [h3]at h1
  cases h1
  rw [h4]at h2
  cases h2
 have hk:Keeps g.I w w':=fun b hb=>hcel b (ho.cel b hb)
 exact⟨fun id o h=>(ho.ok id o h).mono hk (.refl g) (fun b hb=>hcel b (Own.cel ho ⟨id,o,h,hb⟩)) rfl,ho.apart,ho.fresh,fun b hb=>⟨Nat.lt_of_lt_of_le (ho.imm b hb).1 hg.size,(ho.imm b hb).2⟩,ho.cel.same fun b hb=>hcel b (ho.cel b hb)⟩
theorem Rel.grown {row:Option Nat} (hr:Rel δ g s a w) (hg:w.grownBy w' row) (hrow:∀r,row=some r→∃o:Obj,w.heap[r]? =some o∧plainOb o=false):Rel δ g s a w':=by
 have hk:Keeps g.I w w':=fun b hb=>hg.block b (hr.o.cel b hb).lt fun e=>by
  obtain⟨o,h1,h2⟩:=hrow b e.symm
  obtain⟨o',h3,h4⟩:=hr.o.cel b hb
  rw [h3]at h1
  cases h1
  rw [h4]at h2
  cases h2
 exact⟨fun t d ht=>let⟨v,h1,h2⟩:=hr.tm t d ht;⟨v,h1,h2.mono hk (.refl g)⟩,hr.defers,hr.o.grown hg hrow⟩
theorem StepN.grown {row:Option Nat} (h:StepN N g s w g' s' w') (hg:w'.grownBy w'' row) (hd:w'.drawn≤w''.drawn) (hrow:∀r,row=some r→w.heap.size≤r):StepN N g s w g' s' w'':=
 ⟨h.ρ,h.κ,h.I,Nat.le_trans h.size hg.size,fun b hb ho=>(hg.block b (Nat.lt_of_lt_of_le hb h.size) fun e=>by have:=hrow b e.symm;omega).trans (h.same b hb ho),h.own,h.imm,h.env.trans ⟨hg.os,hg.output,hg.tape,hd⟩⟩
theorem StepN.less {M:Nat} (hNM:N≤M) (h:StepN M g s w g' s' w'):StepN N g s w g' s' w':=
 ⟨fun id b hi=>h.ρ id b (by omega),fun id a l c hi=>h.κ id a l c (by omega),h.I,h.size,h.same,h.own,h.imm,h.env⟩
def SeqG (P:Program) (gf:FuncId) (lb:Array Value) (I:Nat→Prop) {m:Nat} (ys:Fin m→List D) (order:List (Fin m)) (w:World):Prop:=
 ∀(l:Nat) (J Jx:List (Fin m)→World→Prop) (W:World),RowKit.Below w.heap.size w W→(∀pre A B,J pre A→Ext A B→J pre B)→(∀pre A B,Jx pre A→Ext A B→Jx pre B)→
  (∀pre x (vs:Array Value) W1,J pre W1→pre.length<m→vs.size=(ys x).length→(∀(j:Nat) (v:Value) (d:D),vs[j]? =some v→(ys x)[j]? =some d→VRel (G0 I) W1 v d)→YieldAt Fence.wide 3 P l vs W1 fun e W'=>
   (e= .returned (.bool true)∧J (pre++[x]) W'∧∀b,I b→Cel W1 b→W'.heap[b]? =W1.heap[b]?)∨(e= .returned (.bool false)∧Jx (pre++[x]) W'∧∀b,I b→Cel W1 b→W'.heap[b]? =W1.heap[b]?))→
  J [] W→CallsIn Fence.wide 4 P gf (#[.func (.yield l) #[] #[]]++lb) W fun e W'=>(∃v,e= .returned v)∧((∃xs,xs=order∧J xs W')∨(∃pre,pre<+:order∧Jx pre W'))
def IterOk (P:Program) (gf:FuncId) (caps:List D) {m:Nat} (ys:Fin m→List D) (order:List (Fin m)):Prop:=
 (∀(args:Array Value) (w:World),(callFunc gf args).run P w= .ok (.enter gf args) w)∧∀(I:Nat→Prop) (w:World) (lb:Array Value),Cels I w→lb.size=caps.length→(∀(i:Nat) (v:Value) (d:D),lb[i]? =some v→caps[i]? =some d→VRel (G0 I) w v d)→
  SeqG P gf lb I ys order w
def setps:List Nat→List D→List (Nat×D)→List (Nat×D)
 |p::l,d::ds,tm=>setps l ds ((p,d)::tm)
 |_,_,tm=>tm
def asg (A:St→Prop):Exit→St→Prop
 | .normal,s=>A s
 |_,_=>False
def rfp (Q:Exit→St→Prop) (s:St) (A:St→Prop) (pfx:Prop):Exit→St→Prop
 | .normal,s'=>A s'
 | .ret,s'=>pfx→Q .ret ⟨s.tm,s'.os,s'.nx⟩
 | .exit i,s'=>pfx→Q (.exit i) ⟨s.tm,s'.os,s'.nx⟩
 |_,_=>False
theorem setps_rel {δ':List Deferred} {w:World}:∀(ps:List Nat) (ds:List D) (vs:List Value) {tm:List (Nat×D)} {os:List (Nat×Ob)} {nx:Nat} {a:Act},Rel δ' g ⟨tm,os,nx⟩ a w→vs.length=ds.length→(∀p∈ps,p<a.tmps.size)→
 (∀(j:Nat) (v:Value) (d:D),vs[j]? =some v→ds[j]? =some d→VRel g w v d)→
 Rel δ' g ⟨setps ps ds tm,os,nx⟩ {tmps:=(ps.zip vs).foldl (fun t (p,v)=>t.setIfInBounds p v) a.tmps,defers:=a.defers} w∧((ps.zip vs).foldl (fun t (p,v)=>t.setIfInBounds p v) a.tmps).size=a.tmps.size
 |[],ds,vs,tm,os,nx,a,hr,_,_,_=>⟨by simpa [setps]using hr,rfl⟩
 |p::ps,[],[],tm,os,nx,a,hr,_,_,_=>⟨by simpa [setps]using hr,rfl⟩
 |p::ps,d::ds,v::vs,tm,os,nx,a,hr,hl,hp,hv=>by
  have h1:Rel δ' g ⟨(p,d)::tm,os,nx⟩ (a.put (some p) v) w:=hr.put (some p) (hv 0 v d rfl rfl) (fun x hx=>by cases hx;exact hp p (by simp))
  have h2:=setps_rel ps ds vs (a:=a.put (some p) v) h1 (by simpa using hl) (fun q hq=>by rw [put_size];exact hp q (by simp [hq])) (fun j u e hu he=>hv (j+1) u e (by simpa using hu) (by simpa using he))
  refine⟨?_, ?_⟩
  ·have:=h2.1
   simpa [setps,Act.put]using this
  ·have:=h2.2
   rw [put_size]at this
   simpa [Act.put]using this
def exOf:Code→Option Exit
 | .ret=>some .ret
 | .exit i=>some (.exit i)
 |_=>none
def D.pure1:D→Bool
 | .c _=>true
 | .rp _=>true
 |_=>false
theorem VRel.toG0 {v:Value} {d:D} (hd:d.pure1=true) (h:VRel g w v d):VRel (G0 g.I) w v d:=by
 cases d<;>simp only [D.pure1,Bool.false_eq_true]at hd
 case c x=>cases h with|c _ _ h=>exact .c _ _ h
 case rp cs=>cases h with|rp b off _ vs hI hc=>exact .rp b off cs vs hI hc
theorem SWm.rangeFunc (hT:TabS P T) (lv:Nat→Option (List Nat)) {gop:Operand} {ps:Array Tmp} {assign body:Code} {Q:Exit→St→Prop} {gf:FuncId} {caps:List D} (hev:s.ev gop= .fn (.func gf) [] caps) (hcaps:∀d∈caps,d.pure1=true)
 {m:Nat} {ys:Fin m→List D} {order:List (Fin m)} (hit:IterOk P gf caps ys order) (O:List (Fin m)→List (Nat×Ob)) (ok:List (Fin m)→Prop)
 (hps:∀x,(ys x).length=ps.size) (hpn:∀p∈ps.toList,p<n) (hN:N≤s.nx)
 (ha1:plainC assign=true) (ha2:dstOk n assign=true) (hb1:plainC body=true) (hb2:dstOk n body=true)
 (h0:ok []∧Sub s.nx s ⟨s.tm,O [],s.nx⟩)
 (hround:∀pre x,ok pre→pre.length<m→awp P T n s.nx lv assign (asg fun s1=>
  awp P T n s.nx lv body (rfp Q s (fun s'=>ok (pre++[x])∧Sub s.nx ⟨s.tm,s'.os,s'.nx⟩ ⟨s.tm,O (pre++[x]),s.nx⟩) (pre++[x]<+:order)) s1) ⟨setps ps.toList (ys x) s.tm,O pre,s.nx⟩)
 (hdone:ok order→Q .normal ⟨s.tm,O order,s.nx⟩):SWm P n N (.rangeFunc gop ps assign body) Q s:=by
 intro δ g a w hr hn
 have hg:=hr.ev gop
 rw [hev]at hg
 generalize hgv:a.eval gop=gv at hg
 cases hg with
 |fn _ fiv lb _ _ h1 h2 h3 h4=>
 have hfi:fiv= #[]:=by
  apply Array.eq_empty_of_size_eq_zero
  simpa using h1
 subst hfi
 obtain⟨hent,hit⟩:=hit
 have hseq:=hit g.I w lb hr.o.cel h2 fun i v d hv hd=>(h4 i v d hv hd).toG0 (hcaps d (List.mem_of_getElem? hd))
 have hst0:∃g1,Rel δ g1 ⟨s.tm,O [],s.nx⟩ a w∧StepN s.nx g s w g1 ⟨s.tm,O [],s.nx⟩ w:=⟨_,hr.sub h0.2⟩
 refine wpIn_wide (n:=5).1 (wpIn_rangeFunc fun fn _=> ?_)
 obtain⟨rec,hrec⟩:∃rec:LoopState→Option Code→Loop,rec=fun st pe=>{state:=st,pending:=pe,fn,tmps:=a.tmps,params:=ps,assign,body,defers:=w.heap.size}:=⟨_,rfl⟩
 obtain⟨W1,hW1⟩:∃W1,(w.alloc (.deferred (some []))).alloc (.loop (rec .ready none))=W1:=⟨_,rfl⟩
 have hL1:W1.heap[w.heap.size+1]? =some (.loop (rec .ready none)):=by
  rw [←hW1];have:=World.alloc_heap_new (w.alloc (.deferred (some []))) (.loop (rec .ready none));rwa [World.size_alloc]at this
 have hD1:W1.heap[w.heap.size]? =some (.deferred (some [])):=by
  rw [←hW1];exact(RowKit.Below.heap_alloc _ _ _ (by simp)).trans (World.alloc_heap_new w _)
 have hb1':RowKit.Below w.heap.size w W1:=by
  rw [←hW1];exact((RowKit.Below.refl _ w).alloc (Nat.le_refl _) _).alloc (by simp) _
 obtain⟨J,hJ⟩:∃J:List (Fin m)→World→Prop,J=fun pre W=>ok pre∧∃g1,Rel δ g1 ⟨s.tm,O pre,s.nx⟩ a W∧StepN s.nx g s w g1 ⟨s.tm,O pre,s.nx⟩ W:=⟨_,rfl⟩
 obtain⟨Jx,hJx⟩:∃Jx:Code→List (Fin m)→World→Prop,Jx=fun c pre W=>∃(e:Exit) (s':St) (g1:G),exOf c=some e∧(pre<+:order→Q e ⟨s.tm,s'.os,s'.nx⟩)∧Rel δ g1 ⟨s.tm,s'.os,s'.nx⟩ a W∧StepN s.nx g s w g1 ⟨s.tm,s'.os,s'.nx⟩ W:=⟨_,rfl⟩
 have hJe:∀pre W W',J pre W→Ext W W'→J pre W':=by
  intro pre W W' h he
  rw [hJ]at h⊢
  obtain⟨h5,g1,h6,h7⟩:=h
  exact⟨h5,g1,h6.grown he.grown fun r e=>(by cases e),h7.grown he.grown he.2.2.drw fun r e=>by cases e⟩
 have hJxe:∀c pre W W',Jx c pre W→Ext W W'→Jx c pre W':=by
  intro c pre W W' h he
  rw [hJx]at h⊢
  obtain⟨e,s',g1,h5,h8,h6,h7⟩:=h
  exact⟨e,s',g1,h5,h8,h6.grown he.grown fun r e=>(by cases e),h7.grown he.grown he.2.2.drw fun r e=>by cases e⟩
 have hJg:∀pre W W' row,J pre W→W.grownBy W' row→W.drawn≤W'.drawn→(∀r,row=some r→w.heap.size≤r∧∃o:Obj,W.heap[r]? =some o∧plainOb o=false)→J pre W':=by
  intro pre W W' row h hgr hdr hrow
  rw [hJ]at h⊢
  obtain⟨h5,g1,h6,h7⟩:=h
  exact⟨h5,g1,h6.grown hgr fun r e=>(hrow r e).2,h7.grown hgr hdr fun r e=>(hrow r e).1⟩
 have hJxg:∀c pre W W' row,Jx c pre W→W.grownBy W' row→W.drawn≤W'.drawn→(∀r,row=some r→w.heap.size≤r∧∃o:Obj,W.heap[r]? =some o∧plainOb o=false)→Jx c pre W':=by
  intro c pre W W' row h hgr hdr hrow
  rw [hJx]at h⊢
  obtain⟨e,s',g1,h5,h8,h6,h7⟩:=h
  exact⟨e,s',g1,h5,h8,h6.grown hgr fun r e=>(hrow r e).2,h7.grown hgr hdr fun r e=>(hrow r e).1⟩
 have hput:∀(W:World) (o:Obj),W.heap[w.heap.size+1]? =some o→plainOb o=false→∀r,some (w.heap.size+1)=some r→w.heap.size≤r∧∃o:Obj,W.heap[r]? =some o∧plainOb o=false:=fun W o h h' r e=>by cases e;exact⟨by omega,o,h,h'⟩
 have hW1g:∀pre,J pre w→J pre W1:=fun pre h=>by
  rw [←hW1]
  exact hJg _ _ _ none (hJg _ _ _ none h (World.grownBy_alloc w _ none) (Nat.le_refl _) (fun r e=>by cases e)) (World.grownBy_alloc _ _ none) (Nat.le_refl _) fun r e=>by cases e
 refine⟨w.heap.size+1,[{target:= .collected w.heap.size,args:= #[]}],W1,{target:= .fn (.func gf) lb,args:= #[.func (.yield (w.heap.size+1)) #[] #[]]},W1,gf,
  #[.func (.yield (w.heap.size+1)) #[] #[]]++lb,W1, ?_, ?_, ?_, ?_,fun _=>by omega, ?_⟩
 ·rw [←hW1,hrec];exact run_enterLoop_outer _ _ _ _ _
 ·simp only [resolve,hgv]
  simp [go_sem]
 ·intro f' _;trivial
 ·simp [invoke,go_sem,hent]
 ·refine(hseq (w.heap.size+1)
   (fun pre W=>J pre W∧W.heap[w.heap.size+1]? =some (.loop (rec .ready none))∧W.heap[w.heap.size]? =some (.deferred (some [])))
   (fun pre W=>∃c,Jx c pre W∧W.heap[w.heap.size+1]? =some (.loop (rec .done (some c)))∧W.heap[w.heap.size]? =some (.deferred (some [])))
   W1 hb1'
   (fun pre A B hs he=>⟨hJe pre A B hs.1 he,(he.2.1 _ (Array.getElem?_eq_some_iff.1 hs.2.1).1).trans hs.2.1,(he.2.1 _ (Array.getElem?_eq_some_iff.1 hs.2.2).1).trans hs.2.2⟩)
   (fun pre A B hs he=>by
    obtain⟨c,hc,hl,hk⟩:=hs
    exact⟨c,hJxe c pre A B hc he,(he.2.1 _ (Array.getElem?_eq_some_iff.1 hl).1).trans hl,(he.2.1 _ (Array.getElem?_eq_some_iff.1 hk).1).trans hk⟩)
   ?_ ⟨hW1g _ (by rw [hJ];exact⟨h0.1,hst0⟩),hL1,hD1⟩).mono ?_
  ·
   rintro pre x vs W ⟨hj,hl,hk⟩ hlen hvs1 hvs2
   rw [hJ]at hj
   obtain⟨hok,g1,hr1,hs1⟩:=hj
   have hy:=run_yield (P:=P) (args:=vs) hl (by rw [hrec];exact hvs1.trans (hps x))
   rw [hrec]at hy
   have henc:∀(j:Nat) (v:Value) (d:D),vs[j]? =some v→(ys x)[j]? =some d→VRel g1 W v d:=fun j v d hv hd=>
    (hvs2 j v d hv hd).of0 (g:=g1) fun b hb=>hs1.I b hb
   have hset:=setps_rel (δ':=[]) ps.toList (ys x) vs.toList (a:={tmps:=a.tmps,defers:=[]}) (g:=g1) (w:=W) (tm:=s.tm) (os:=O pre) (nx:=s.nx) ⟨hr1.tm,rfl,hr1.o⟩ (by simpa using hvs1) (fun p hp=>by show p<a.tmps.size;rw [hn];exact hpn p hp) (fun j v d hv hd=>henc j v d (by simpa using hv) hd)
   have hzip:((ps.zip vs).foldl (fun t (p,v)=>t.setIfInBounds p v) a.tmps)=((ps.toList.zip vs.toList).foldl (fun t (p,v)=>t.setIfInBounds p v) a.tmps):=by
    rw [←Array.foldl_toList,Array.toList_zip]
   refine⟨fn,_,assign,body,hy,roundIn_of_wpIn trivial ?_⟩
   rw [hzip]
   refine wpIn_mono (awp_in hT lv assign _ _ ha1 ha2 (hround pre x hok hlen) g1 _ W hset.1 (by show _=n;rw [hset.2];exact hn)) ?_
   rintro e a2 W2 ⟨g2,s2,h5,h6,h7,h8⟩
   cases e with
   |normal=>
    have h5:awp P T n s.nx lv body _ s2:=h5
    have hl2:=h8.other hset.1.o hl rfl
    have hk2:=h8.other hset.1.o hk rfl
    refine⟨_,run_beginRound hl2 (by rw [hrec]), ?_⟩
    obtain⟨W3,hW3⟩:∃W3,W2.putObj (w.heap.size+1) (.loop {rec .ready none with state:= .busy})=W3:=⟨_,rfl⟩
    rw [hW3]
    have hg3:W2.grownBy W3 (some (w.heap.size+1)):=by rw [←hW3];exact grownBy_putObj' _ _ _
    have hlt2:w.heap.size+1<W2.heap.size:=(Array.getElem?_eq_some_iff.1 hl2).1
    have hl3:W3.heap[w.heap.size+1]? =some (.loop {rec .ready none with state:= .busy}):=by rw [←hW3];exact World.putObj_heap_same hlt2
    have hk3:W3.heap[w.heap.size]? =some (.deferred (some [])):=by rw [←hW3];exact(World.putObj_heap_other (by omega)).trans hk2
    have hr3:=h6.grown hg3 fun r e=>(hput W2 _ hl2 rfl r e).2
    have hs3:StepN s.nx g s w g2 ⟨s.tm,s2.os,s2.nx⟩ W3:=((hs1.tm (tm:=s.tm) (tm':=s.tm)).trans (h8.tm (tm:=s.tm) (tm':=s.tm))).grown hg3 (by rw [←hW3];exact Nat.le_refl _) fun r e=>(hput W2 _ hl2 rfl r e).1
    refine wpIn_mono (awp_in hT lv body _ _ hb1 hb2 h5 g2 a2 W3 hr3 h7) ?_
    rintro e a4 W4 ⟨g4,s4,h9,h10,h11,h12⟩
    have hl4:=h12.other hr3.o hl3 rfl
    have hk4:=h12.other hr3.o hk3 rfl
    have hs4:StepN s.nx g s w g4 ⟨s.tm,s4.os,s4.nx⟩ W4:=hs3.trans (h12.tm (tm:=s.tm) (tm':=s.tm))
    have hst:Step g s w g4 ⟨s.tm,s4.os,s4.nx⟩ W4:=hs4.step hr.o (Nat.le_refl _)
    have hr4:Rel δ g4 ⟨s.tm,s4.os,s4.nx⟩ a W4:=⟨fun t d ht=>let⟨v,h13,h14⟩:=hr.tm t d ht;⟨v,h13,hst.vrel hr.o h14⟩,hr.defers,h10.o.tm⟩
    have fin:∀(jump:Option Code),∃W5,(Instr.endRound (w.heap.size+1) jump).run P W4= .ok (.bool jump.isNone) W5∧(W4.grownBy W5 (some (w.heap.size+1))∧W4.drawn≤W5.drawn)∧W5.heap[w.heap.size+1]? =some (.loop (rec (if jump.isNone then .ready else .done) jump))∧W5.heap[w.heap.size]? =some (.deferred (some [])):=fun jump=>by
     have:=run_endRound (P:=P) jump hl4
     rw [hrec]at this⊢
     exact⟨_,this,⟨grownBy_putObj' _ _ _,Nat.le_refl _⟩,World.putObj_heap_same (Array.getElem?_eq_some_iff.1 hl4).1,(World.putObj_heap_other (by omega)).trans hk4⟩
    have hkp:∀W5,W4.grownBy W5 (some (w.heap.size+1))→∀b,g.I b→Cel W b→W5.heap[b]? =W.heap[b]? :=fun W5 hg5 b hb _=>by
     have h13:W.heap[b]? =w.heap[b]? :=hs1.same b (hr.o.imm b hb).1 (hr.o.imm b hb).2
     have h14:W4.heap[b]? =w.heap[b]? :=hst.same b (hr.o.imm b hb).1 (hr.o.imm b hb).2
     have hlt:=(hr.o.imm b hb).1
     rw [h13,←h14]
     exact hg5.block b (Nat.lt_of_lt_of_le hlt hst.size) fun e=>by cases e;omega
    have leave:∀(c:Code) (e:Exit),exOf c=some e→(pre++[x]<+:order→Q e ⟨s.tm,s4.os,s4.nx⟩)→Jx c (pre++[x]) W4:=fun c e h13 h14=>by
     rw [hJx]
     exact⟨e,s4,g4,h13,h14,hr4,hs4⟩
    cases e with
    |normal=>
     obtain⟨h13,h14⟩:ok (pre++[x])∧Sub s.nx ⟨s.tm,s4.os,s4.nx⟩ ⟨s.tm,O (pre++[x]),s.nx⟩:=h9
     obtain⟨h15,h16⟩:=hr4.sub h14
     obtain⟨W5,h17,h18,h19,h20⟩:=fin none
     refine⟨_,W5,h17, .inl ⟨rfl,⟨hJg _ W4 W5 _ (by rw [hJ];exact⟨h13,_,h15,hs4.trans h16⟩) h18.1 h18.2 (hput W4 _ hl4 rfl),h19,h20⟩,hkp W5 h18.1⟩⟩
    |ret=>
     obtain⟨W5,h17,h18,h19,h20⟩:=fin (some .ret)
     exact⟨_,W5,h17, .inr ⟨rfl,⟨.ret,hJxg _ _ W4 W5 _ (leave .ret .ret rfl h9) h18.1 h18.2 (hput W4 _ hl4 rfl),h19,h20⟩,hkp W5 h18.1⟩⟩
    |exit i=>
     obtain⟨W5,h17,h18,h19,h20⟩:=fin (some (.exit i))
     exact⟨_,W5,h17, .inr ⟨rfl,⟨.exit i,hJxg _ _ W4 W5 _ (leave (.exit i) (.exit i) rfl h9) h18.1 h18.2 (hput W4 _ hl4 rfl),h19,h20⟩,hkp W5 h18.1⟩⟩
    |_=>exact h9.elim
   |_=>exact h5.elim
  ·
   rintro e W2 ⟨⟨v,rfl⟩,(⟨xs,rfl,hi,hl,hk⟩|⟨pre,hSp,c,hi,hl,hk⟩)⟩
   ·refine⟨none,_,by have:=run_endLoop (P:=P) hl (by rw [hrec];simp);rw [hrec]at this;exact this, ?_⟩
    have hg3:=grownBy_putObj' W2 (w.heap.size+1) (.loop {rec .ready none with state:= .exhausted})
    have hi3:=hJg _ W2 _ _ hi hg3 (Nat.le_refl _) (hput W2 _ hl rfl)
    have hk3:=(World.putObj_heap_other (w:=W2) (r:=w.heap.size+1) (o:= .loop {rec .ready none with state:= .exhausted}) (k:=w.heap.size) (by omega)).trans hk
    rw [hrec]at hi3 hk3
    rw [hJ]at hi3
    obtain⟨h5,g1,h6,h7⟩:=hi3
    exact⟨[w.heap.size],g1,_,hdone h5,⟨h6.tm,by show _::a.defers=_;rw [hr.defers];rfl,h6.o⟩,fun D hD=>by simp at hD;subst hD;exact⟨Nat.le_refl _,hk3⟩,by simp,hn,StepN.less hN h7⟩
   ·refine⟨some c,_,by have:=run_endLoop (P:=P) hl (by rw [hrec];simp);rw [hrec]at this;exact this, ?_⟩
    have hg3:=grownBy_putObj' W2 (w.heap.size+1) (.loop {rec .done (some c)with state:= .exhausted})
    have hi3:=hJxg c _ W2 _ _ hi hg3 (Nat.le_refl _) (hput W2 _ hl rfl)
    have hk3:=(World.putObj_heap_other (w:=W2) (r:=w.heap.size+1) (o:= .loop {rec .done (some c)with state:= .exhausted}) (k:=w.heap.size) (by omega)).trans hk
    rw [hrec]at hi3 hk3
    rw [hJx]at hi3
    have hfin:∀Wf,(∃(e:Exit) (s':St) (g1:G),exOf c=some e∧(pre<+:order→Q e ⟨s.tm,s'.os,s'.nx⟩)∧Rel δ g1 ⟨s.tm,s'.os,s'.nx⟩ a Wf∧StepN s.nx g s w g1 ⟨s.tm,s'.os,s'.nx⟩ Wf)→Wf.heap[w.heap.size]? =some (.deferred (some []))→
     c.wpIn Fence.wide 5 P (fun e a' w'=>∃(Ds:List Nat) (g':G) (s':St),Q e s'∧Rel (Ds.map mrk++δ) g' s' a' w'∧(∀D∈Ds,w.heap.size≤D∧w'.heap[D]? =some (.deferred (some [])))∧Ds.Nodup∧a'.tmps.size=n∧StepN N g s w g' s' w') {a with defers:=[{target:= .collected w.heap.size,args:= #[]}]++a.defers} Wf:=by
     rintro Wf ⟨e,s',g1,h5,h8,h6,h7⟩ hkf
     have key:∃(Ds:List Nat) (g':G) (s':St),Q e s'∧Rel (Ds.map mrk++δ) g' s' {a with defers:=[{target:= .collected w.heap.size,args:= #[]}]++a.defers} Wf∧(∀D∈Ds,w.heap.size≤D∧Wf.heap[D]? =some (.deferred (some [])))∧Ds.Nodup∧a.tmps.size=n∧StepN N g s w g' s' Wf:=
      ⟨[w.heap.size],g1,_,h8 hSp,⟨h6.tm,by show _::a.defers=_;rw [hr.defers];rfl,h6.o⟩,fun D hD=>by simp at hD;subst hD;exact⟨Nat.le_refl _,hkf⟩,by simp,hn,StepN.less hN h7⟩
     cases c<;>simp only [exOf,reduceCtorEq,Option.some.injEq]at h5
     ·subst h5;exact wpIn_exit key
     ·subst h5;exact wpIn_ret key
    exact hfin _ hi3 hk3
end
open Go
section
variable {δ:List Deferred} {P:Program} {T:Tab} {g g' g'':G} {s s' s'':St} {a:Act} {w w' w'':World} {n N:Nat}
theorem leaves_marks {m:Nat} {fn:Func} {tmps:Array Value} {R:Ending→World→Prop} (K:World→Prop):∀(Ds:List Nat) (w:World),Ds.Nodup→(∀D∈Ds,w.heap[D]? =some (.deferred (some [])))→K w→
 (∀W D,D∈Ds→K W→W.heap[D]? =some (.deferred (some []))→K (W.putObj D (.deferred none)))→(∀W,K W→∃v,(results fn tmps).run P W= .ok v W∧R (.returned v) W)→
 LeavesInM Fence.wide m P fn tmps R (Ds.map mrk) .returning w
 |[],w,_,_,hK,_,h=>h w hK
 |D::Ds,w,hn,hD,hK,hs,h=>by
  obtain⟨hn1,hn2⟩:=List.nodup_cons.1 hn
  refine⟨by simp, .inl ⟨D,_,rfl,run_takeDeferred (hD D (by simp)), ?_⟩⟩
  refine leaves_marks K Ds _ hn2 (fun D' hD'=> ?_) (hs w D (by simp) hK (hD D (by simp))) (fun W D' hD'=>hs W D' (by simp [hD'])) h
  have hne:D'≠D:=fun e=>hn1 (by rw [←e];exact hD')
  exact(World.putObj_heap_other hne).trans (hD D' (by simp [hD']))
theorem acall_introM {f:FuncId} {fn:Func} {c:Code} {ds:List D} {os:List (Nat×Ob)} {nx:Nat} {Q:D→List (Nat×Ob)→Nat→Prop}
 (hf:P.funcs[f]? =some fn) (hname:(fn.name== "runtime.NumGoroutine")=false) (hb:fn.body=some c) (hn:fn.ntmps=n) (hl:ds.length≤n) {rs:List ResultVar} (hrs:fn.results.toList=rs)
 (h:SWm P n nx c (fin P rs Q) ⟨prm 0 ds,os,nx⟩):ACall P f ds os nx Q:=by
 refine⟨⟨fn,hf,hname,by rw [hb];rfl⟩,fun g w vs ho hsz hv=> ?_⟩
 refine callsIn_wide (n:=5).1 (callsIn_of_wp_marks hf hb trivial (wpIn_wide.2 ?_))
 subst hn
 have hr:Rel [] g ⟨prm 0 ds,os,nx⟩ {tmps:=vs++Array.replicate (fn.ntmps - vs.size) undef,defers:=[]} w:=by
  refine⟨fun t d ht=> ?_,rfl,ho.tm⟩
  obtain⟨_,h2⟩:=lk_prm ds 0 t d ht
  rw [Nat.sub_zero]at h2
  have ht:t<vs.size:=by
   rw [hsz]
   rcases Nat.lt_or_ge t ds.length with h|h
   ·exact h
   ·rw [List.getElem?_eq_none h]at h2;cases h2
  refine⟨vs[t], ?_,hv t _ d (Array.getElem?_eq_getElem ht) h2⟩
  rw [Array.getElem?_append_left ht,Array.getElem?_eq_getElem ht]
 refine wp_mono (h [] g _ w hr (by simp;omega)) fun e a' w' ⟨Ds,g',s',h1,h2,h3,h4,h5,h6⟩=> ?_
 rw [List.append_nil]at h2
 have fin:∀(hq:rto (rdD P s' rs) s' Q),LeavesInM Fence.wide 5 P fn a'.tmps (fun e w'=>∃v d g' os' nx',e= .returned v∧Q d os' nx'∧RelO g' ⟨[],os',nx'⟩ w'∧VRel g' w' v d∧Step g ⟨[],os,nx⟩ w g' ⟨[],os',nx'⟩ w') a'.defers .returning w':=by
  intro hq
  rw [h2.defers]
  refine leaves_marks (fun W=>Rel (Ds.map mrk) g' s' a' W∧StepN nx g ⟨prm 0 ds,os,nx⟩ w g' s' W) Ds w' h4 (fun D hD=>(h3 D hD).2) ⟨h2,h6⟩ (fun W D hD hK hd=> ?_) (fun W hK=> ?_)
  ·have hg:=grownBy_putObj' W D (.deferred none)
   exact⟨hK.1.grown hg fun r e=>by cases e;exact⟨_,hd,rfl⟩,hK.2.grown hg (Nat.le_refl _) fun r e=>by cases e;exact(h3 D hD).1⟩
  ·unfold rto at hq
   split at hq
   ·rename_i d hrd
    obtain⟨v,h7,h8⟩:=rdD_sound hK.1 fn hrs hrd
    exact⟨v,h7,v,d,g',s'.os,s'.nx,rfl,hq,hK.1.o.tm,h8,(hK.2.tm (tm:=[]) (tm':=[])).step ho (Nat.le_refl _)⟩
   ·cases hq
 cases e with
 |normal=>exact fin h1
 |ret=>exact fin h1
 |_=>cases h1
theorem SWm.awp (hT:TabS P T) (lv:Nat→Option (List Nat)) {c:Code} {Q:Exit→St→Prop} (hd:dstOk n c=true) (h:awp P T n N lv c Q s):SWm P n N c Q s:=SWm.of (awp_sound hT lv c Q s hd h)
end
open Go
section
variable {δ:List Deferred} {P:Program} {T:Tab} {g g':G} {s s' r e:St} {a:Act} {w:World} {n N:Nat} {F F':Nat→Prop} {all:Array Oper}
theorem drawn_soundK {k:Nat} (hk:k<all.size) (hanc:∀j,j<k→Anc all j k) (hch:∀t,k<t→t<all.size→∃o ed,all[t]? =some o∧ed∈o.after∧Region.binds .any ed=true∧ed.on=t - 1) (hT:TabS P T) (hd:all.toList.all (dstOk1 n)=true) (hE:∀(i:Nat) o,all[i]? =some o→∀ed∈o.after,Region.binds .any ed=true→ed.on<i) {Q:Exit→Act→World→Prop}:∀(fuel:Nat) (listed:Array Bool) (l:List Ent) (g:G) (s:St) (a:Act) (w:World),
 l.length=fuel→listed.size=all.size→Down all listed→(∀i,i<k→(listed.getD i true=false↔∃x∈l,x.i=i))→(∀i,k≤i→i<all.size→listed.getD i true=false)→(∀x∈l,x.i<k∧all[x.i]? =some x.o)→l.Pairwise (Two all)→(∀x∈l,x.r.nx≤e.nx∧x.B≤x.r.nx)→
 Tr P T all l s e→RelP (Free l e) δ g s a w→a.tmps.size=n→(∀g' (listed':Array Bool) a' w',listed'.size=all.size→(∀i,i<all.size→listed'.getD i true=decide (i<k))→RelP (fun id=>e.nx≤id) δ g' e a' w'→a'.tmps.size=n→Step g s w g' e w'→wpAny P .any all Q (all.size - k) listed' a' w')→
 wpAny P .any all Q (fuel+(all.size - k)) listed a w
 |0,listed,l,g,s,a,w,hl,hsz,hdn,hli,hlk,ho,hp,hnx,htr,hr,hn,hQ=>by
  have:l=[]:=List.eq_nil_of_length_eq_zero hl
  subst this
  rw [Nat.zero_add]
  refine hQ g listed a w hsz (fun i hi=> ?_) ((hr.eqv htr).less fun id hid=> .inr hid) hn (Step.eqv htr.2)
  by_cases hik:i<k
  ·have:listed.getD i true≠false:=fun h=>by
    obtain⟨x,hx,_⟩:=(hli i hik).1 h
    cases hx
   rw [decide_eq_true hik]
   simpa using this
  ·rw [decide_eq_false hik];exact hlk i (by omega) hi
 |fuel+1,listed,l,g,s,a,w,hl,hsz,hdn,hli,hlk,ho0,hp,hnx,htr,hr,hn,hQ=>by
  have ho:∀x∈l,all[x.i]? =some x.o:=fun x hx=>(ho0 x hx).2
  have hlk':∀x∈l,x.i<k:=fun x hx=>(ho0 x hx).1
  have hlt:∀x∈l,x.i<all.size:=fun x hx=>(Array.getElem?_eq_some_iff.1 (ho x hx)).1
  rw [show fuel+1+(all.size - k)=fuel+(all.size - k)+1 by omega]
  refine⟨fun h0=> ?_,fun i hi=> ?_⟩
  ·
   cases l with
   |nil=>simp at hl
   |cons y l=>
    exfalso
    have hy:=ho y (by simp)
    have hyl:=hlt y (by simp)
    have:y.i∈Region.ready .any all listed:=by
     rw [Region.ready,List.mem_filter]
     refine⟨List.mem_range.2 hyl, ?_⟩
     have h1:listed.getD y.i true=false:=(hli y.i (hlk' y (by simp))).2 ⟨y,by simp,rfl⟩
     rw [h1,hy]
     simp only [Bool.not_false,Option.map_some,Option.getD_some,Bool.true_and,Array.all_eq_true_iff_forall_mem]
     intro ed hed
     by_cases hb:Region.binds .any ed=true
     ·have h2:=hE y.i y.o hy ed hed hb
      have h3:listed.getD ed.on true≠false:=fun h=>by
       obtain⟨z,hz,hzi⟩:=(hli ed.on (by have:=hlk' y (by simp);omega)).1 h
       rcases List.mem_cons.1 hz with rfl|hz
       ·omega
       ·have:=(List.rel_of_pairwise_cons hp hz).1
        omega
      have h4:ed.on<listed.size:=by omega
      have h5:listed.getD ed.on true=true:=by simpa using h3
      have h6:listed.getD ed.on false=true:=by
       simp only [Array.getD,h4,dif_pos]at h5⊢
       exact h5
      simp [hb,h6]
     ·simp [hb]
    rw [h0]at this
    cases this
  ·rw [Region.ready,List.mem_filter]at hi
   obtain⟨hi1,hi2⟩:=hi
   have hi1':=List.mem_range.1 hi1
   simp only [Bool.and_eq_true,Bool.not_eq_true']at hi2
   obtain⟨hi3,hi4⟩:=hi2
   have hik:i<k:=by
    rcases Nat.lt_or_ge i k with h|h
    ·exact h
    exfalso
    have hgo:∀o ed,all[i]? =some o→ed∈o.after→Region.binds .any ed=true→listed.getD ed.on false=true:=fun o ed ho' hed hb=>by
     rw [ho']at hi4
     simp only [Option.map_some,Option.getD_some,Array.all_eq_true_iff_forall_mem]at hi4
     have:=hi4 ed hed
     rw [hb]at this
     simpa using this
    rcases Nat.eq_or_lt_of_le h with h5|h5
    ·subst h5
     cases l with
     |nil=>simp at hl
     |cons y l=>
      have h6:=hanc y.i (hlk' y (by simp))
      have h7:listed.getD y.i false=true:=by
       obtain⟨o,ed,ho',he',hb,h⟩:=h6.inv
       rcases h with h|h
       ·rw [←h];exact hgo _ _ ho' he' hb
       ·exact h.listed hdn (hgo _ _ ho' he' hb)
      have h8:listed.getD y.i true=false:=(hli y.i (hlk' y (by simp))).2 ⟨y,by simp,rfl⟩
      have h9:y.i<listed.size:=by rw [hsz];exact hlt y (by simp)
      simp only [Array.getD,h9,dif_pos]at h7 h8
      rw [h7]at h8
      cases h8
    ·obtain⟨o,ed,ho',hed,hb,hon⟩:=hch i h5 hi1'
     have h6:=hgo o ed ho' hed hb
     rw [hon]at h6
     have h8:=hlk (i - 1) (by omega) (by omega)
     have h9:i - 1<listed.size:=by omega
     simp only [Array.getD,h9,dif_pos]at h6 h8
     rw [h6]at h8
     cases h8
   obtain⟨x,hx,rfl⟩:=(hli i hik).1 hi3
   have hxo:=ho x hx
   rw [hxo]at hi4
   simp only [Option.map_some,Option.getD_some,Array.all_eq_true_iff_forall_mem]at hi4
   obtain⟨pre,post,rfl⟩:=List.append_of_mem hx
   have hpp:=List.pairwise_append.1 hp
   have hind:∀y∈pre,Ind all y x∨(cmB all y.o x.o=true∧y.r.nx=y.B):=fun y hy=>by
    obtain⟨h1,_,_,h2⟩:=hpp.2.2 y hy x (by simp)
    refine h2.resolve_left fun he=> ?_
    have hgo:∀ed∈x.o.after,Region.binds .any ed=true→listed.getD ed.on false=true:=fun ed hed hb=>by
     have:=hi4 ed hed
     rw [hb]at this
     simpa using this
    have h5:listed.getD y.i false=true:=by
     obtain⟨o,ed,ho',he',hb,h⟩:=he.inv
     rw [hxo]at ho';cases ho'
     rcases h with h|h
     ·rw [←h];exact hgo _ he' hb
     ·exact h.listed hdn (hgo _ he' hb)
    have h6:listed.getD y.i true=false:=(hli y.i (hlk' y (by simp [hy]))).2 ⟨y,by simp [hy],rfl⟩
    have h7:y.i<listed.size:=by rw [hsz];exact hlt y (by simp [hy])
    simp only [Array.getD,h7,dif_pos]at h5 h6
    rw [h5]at h6
    cases h6
   obtain⟨hgx,pre',hsim,htr'⟩:=Tr.front (fun y hy=>(hind y hy).imp_right (·.1)) htr
   have hn1:∀y∈pre,∀id∈x.T,¬(y.B≤id∧id<y.r.nx):=fun y hy id hid=>by
    rcases hind y hy with h|h
    ·exact h.n1 id hid
    ·omega
   have hsim2:(pre'++post).map Ent.sh=(pre++post).map Ent.sh:=by rw [List.map_append,List.map_append,hsim]
   have hback:∀y'∈pre'++post,∃y∈pre++post,y'.sh=y.sh:=fun y' hy'=>mem_sim hsim2 hy'
   have hpost:∀y∈post,x.r.nx≤y.B:=fun y hy=>(List.rel_of_pairwise_cons hpp.2.1 hy).2.1
   have hpre:∀y∈pre,y.r.nx≤x.B:=fun y hy=>(hpp.2.2 y hy x (by simp)).2.1
   have hxnx:=hnx x (by simp)
   have hlow:=hgx.facts.2.2
   unfold wpOp
   rw [hxo]
   refine ent_sound (F':=Free (pre'++post) e) hT hgx (List.all_eq_true.1 hd x.o (by simpa using Array.mem_of_getElem? hxo)) hr hn (fun id h1 h2=> .inl ⟨x,by simp,h1,h2⟩) (fun id hid=> ?_) fun g' a' w' hr' hn' hst=> ?_
   ·rcases hid with⟨y',hy',h1,h2⟩|h1
    ·obtain⟨y,hy,hyy⟩:=hback y' hy'
     obtain⟨_,_,_,_,a5,a6⟩:=sh_eq hyy
     rw [a5]at h1
     rw [a6]at h2
     rcases List.mem_append.1 hy with hy|hy
     ·have h3:=hpre y hy
      exact⟨.inl ⟨y,by simp [hy],h1,h2⟩, .inl (by omega),fun hm=>hn1 y hy id hm ⟨h1,h2⟩⟩
     ·have h3:=hpost y hy
      exact⟨.inl ⟨y,by simp [hy],h1,h2⟩, .inr (by omega),fun hm=>by have:=hlow id hm;omega⟩
    ·exact⟨.inr h1, .inr (by omega),fun hm=>by have:=hlow id hm;omega⟩
   ·have hlen':pre'.length=pre.length:=by simpa using congrArg List.length hsim
    refine drawn_soundK hk hanc hch hT hd hE fuel _ (pre'++post) g' _ a' w' (by simp at hl⊢;omega) (by simpa using hsz) ?_ (fun i hi=> ?_) (fun i h1 h2=>by rw [getD_set_ne true (by omega)];exact hlk i h1 h2) (fun y' hy'=> ?_) ?_ (fun y' hy'=> ?_) htr' hr' hn'
     (fun g'' l'' a'' w'' h0 h0' h1 h2 h3=>hQ g'' l'' a'' w'' h0 h0' h1 h2 (hst.trans h3))
    ·intro i o hi ho' ed hed hb
     have hset:∀k:Nat,listed.getD k false=true→(listed.setIfInBounds x.i true).getD k false=true:=fun k hk=>by
      by_cases hkx:k=x.i
      ·subst hkx
       simp [Array.getD,hsz,hi1']
      ·rw [getD_set_ne false (fun h=>hkx h.symm)];exact hk
     refine hset _ ?_
     by_cases hix:i=x.i
     ·subst hix
      rw [hxo]at ho';cases ho'
      have:=hi4 ed hed
      rw [hb]at this
      simpa using this
     ·rw [getD_set_ne false (fun h=>hix h.symm)]at hi
      exact hdn i o hi ho' ed hed hb
    ·have hne:∀y∈pre++post,y.i≠x.i:=fun y hy=>by
      rcases List.mem_append.1 hy with hy|hy
      ·have:=(hpp.2.2 y hy x (by simp)).1;omega
      ·have:=(List.rel_of_pairwise_cons hpp.2.1 hy).1;omega
     by_cases hix:i=x.i
     ·subst hix
      have h7:x.i<listed.size:=by omega
      constructor
      ·intro h
       simp [Array.getD,h7]at h
      ·rintro⟨y',hy',hyi⟩
       obtain⟨y,hy,hyy⟩:=hback y' hy'
       exact absurd ((sh_eq hyy).1.symm.trans hyi) (hne y hy)
     ·have:(listed.setIfInBounds x.i true).getD i true=listed.getD i true:=by
       have hix':x.i≠i:=fun h=>hix h.symm
       simp only [Array.getD,Array.size_setIfInBounds]
       split
       ·simp only [Array.getInternal_eq_getElem]
        exact Array.getElem_setIfInBounds_ne _ hix'
       ·rfl
      rw [this,hli i hi]
      constructor
      ·rintro⟨y,hy,hyi⟩
       have hy2:y∈pre++post:=by
        simp at hy⊢
        rcases hy with h|h|h
        ·exact .inl h
        ·subst h;exact absurd hyi.symm hix
        ·exact .inr h
       obtain⟨y',hy',hyy⟩:=mem_sim hsim2.symm hy2
       exact⟨y',hy',(sh_eq hyy).1.symm.trans hyi⟩
      ·rintro⟨y',hy',hyi⟩
       obtain⟨y,hy,hyy⟩:=hback y' hy'
       exact⟨y,by simp at hy⊢;rcases hy with h|h<;>simp [h],(sh_eq hyy).1.symm.trans hyi⟩
    ·obtain⟨y,hy,hyy⟩:=hback y' hy'
     obtain⟨a1,a2,_⟩:=sh_eq hyy
     rw [a1,a2]
     exact ho0 y (by simp at hy⊢;rcases hy with h|h<;>simp [h])
    ·exact pw_sim (fun _ _ _ _ h1 h2 h3=>h3.sim h1 h2) hsim2 (hp.sublist (by simp))
    ·obtain⟨y,hy,hyy⟩:=hback y' hy'
     obtain⟨_,_,_,_,a5,a6⟩:=sh_eq hyy
     rw [a5,a6]
     exact hnx y (by simp at hy⊢;rcases hy with h|h<;>simp [h])
def tailB (all:Array Oper) (us:List Nat) (k:Nat):Bool:=decide (k<all.size)&&((List.range k).all fun j=>bitN (us.getD k 0) j)&&(List.range all.size).all fun t=>decide (t≤k)||Region.waitsFor .any all t (t - 1)
def lstK (k m:Nat):Array Bool:=(Array.range m).map fun i=>decide (i<k)
theorem lstK_eq {k:Nat} {listed:Array Bool} (h:∀i,i<listed.size→listed.getD i true=decide (i<k)):listed=lstK k listed.size:=by
 apply Array.ext
 ·simp [lstK]
 ·intro i h1 h2
  have:=h i h1
  simp only [Array.getD,h1,dif_pos]at this
  simp [lstK]
  simpa using this
theorem ADraw.tailG (W:St→(St→Prop)→Prop) (hW:∀(δ:List Deferred) (g:G) (e:St) (a:Act) (w:World) (K:St→Prop),Rel δ g e a w→W e K→∃g1 e1,K e1∧Rel δ g1 e1 a w∧Step g e w g1 e1 w) (k:Nat) (us:List Nat) (hT:TabOk P T) {i:Nat} {ops:Array Oper} {Q:Exit→St→Prop} (hm:P.follows .mixedOrders=true) (hB:prsB ops 0 [] [] ops.toList us=true) (hd:ops.toList.all (dstOk1 n)=true)
 (hk:tailB ops us k=true) (hq:Region.seqB .any ops (ops.size - k) k (lstK k ops.size)=true)
 (h:dx P T ops (ops.toList.take k) us 0 [] (fun e=>W e fun e=>aops P T ops (ops.toList.drop k) e (Q .normal)) s):ADraw P n N i ops Q s:=by
 intro δ g a w hr hn
 obtain⟨l,e,hK,ho⟩:=dx_out _ _ _ _ _ h
 obtain⟨hp1,_,hp3,hp4⟩:=prsB_spec hB rfl (fun j p h=>by simp [bitN_zero]at h) (fun j=>by simp)
 simp only [tailB,Bool.and_eq_true,decide_eq_true_eq]at hk
 obtain⟨⟨hk1,hk2⟩,hk3⟩:=hk
 have htk:∀j o,(ops.toList.take k)[j]? =some o→j<k∧ops[j]? =some o:=fun j o hj=>by
  rw [List.getElem?_take]at hj
  split at hj
  ·rename_i hjk;exact⟨hjk,by simpa using hj⟩
  ·cases hj
 have hof:∀x∈l,x.i<k∧ops[x.i]? =some x.o:=fun x hx=>by
  obtain⟨j,h1,h2⟩:=ho.of x hx
  have:x.i=j:=by omega
  rw [this]
  exact htk j _ h2
 have hC:Ext w {w with drawn:=w.drawn+1}:=⟨Nat.le_refl _,fun _ _=>rfl,rfl,rfl,rfl,Nat.le_succ _⟩
 obtain⟨h6,h7⟩:=hr.o.grow hC (I:=g.I) (fun b hb=>hb) (fun b _ hb=>hb) (hr.o.cel.same fun b hb=>hC.2.1 b (hr.o.imm b hb).1)
 have hr':Rel δ (g.imm g.I) s a {w with drawn:=w.drawn+1}:=hr.of h6 h7.tm rfl
 have hlen:l.length=k:=by
  have hnd:(l.map (·.i)).Pairwise (· < ·):=(List.pairwise_map).2 (ho.two.imp fun h=>h.1)
  have h1:l.map (·.i)=List.range k:=by
   refine List.Perm.eq_of_pairwise (le:=(· < ·)) (fun a b _ _ h h'=>by omega) hnd List.pairwise_lt_range ?_
   refine(List.perm_ext_iff_of_nodup (hnd.imp fun h=>Nat.ne_of_lt h) List.nodup_range).2 fun q=> ?_
   rw [List.mem_map,List.mem_range]
   constructor
   ·rintro⟨x,hx,rfl⟩
    exact(hof x hx).1
   ·intro hq
    obtain⟨x,hx,hxi⟩:=ho.nums q ops[q] (by rw [List.getElem?_take_of_lt hq];simp [show q<ops.size by omega])
    exact⟨x,hx,by omega⟩
  have h2:=congrArg List.length h1
  simpa using h2
 have hanc:∀j,j<k→Anc ops j k:=fun j hj=>by
  have hb:=List.all_eq_true.1 hk2 j (List.mem_range.2 hj)
  have:=hp4 k ops[k] (by simp [hk1]) j hb
  rwa [Nat.zero_add]at this
 have hch:∀t,k<t→t<ops.size→∃o ed,ops[t]? =some o∧ed∈o.after∧Region.binds .any ed=true∧ed.on=t - 1:=fun t h1 h2=>by
  have hb:=List.all_eq_true.1 hk3 t (List.mem_range.2 h2)
  rw [decide_eq_false (by omega),Bool.false_or]at hb
  obtain⟨o,h3,ed,h4,h5,h6⟩:=Region.waitsFor_spec hb
  exact⟨o,ed,h3,h4,h5,h6⟩
 have hfuel:ops.size=l.length+(ops.size - k):=by omega
 refine wp_region_any hm ?_
 have key:=drawn_soundK (e:=e) (Q:=fun x a' w'=>∃g' s',Q x s'∧Rel δ g' s' a' w'∧a'.tmps.size=n∧StepN N g s w g' s' w') hk1 hanc hch hT.toS hd (fun i o hi ed hed hb=>by
  have:=hp1 i o (by simpa using hi) ed hed hb
  omega) l.length (Array.replicate ops.size false) l (g.imm g.I) s a {w with drawn:=w.drawn+1} rfl (by simp) (fun i o hi=>by by_cases hsz:i<ops.size<;>simp [Array.getD,hsz]at hi) (fun i hi=> ?_) (fun i h1 h2=>by simp [Array.getD,h2]) hof ?_ (fun x hx=>⟨(ho.lo x hx).2.2,(ho.lo x hx).2.1⟩) ho.tr (hr'.toP.less fun id hid=> ?_) hn (fun g' listed' a' w' hsz hls h1 h2 h3=> ?_)
 ·rw [←hfuel]at key;exact key
 ·constructor
  ·intro _
   obtain⟨x,hx,hxi⟩:=ho.nums i ops[i] (by rw [List.getElem?_take_of_lt hi];simp [show i<ops.size by omega])
   exact⟨x,hx,by omega⟩
  ·intro _
   simp [Array.getD,show i<ops.size by omega]
 ·refine ho.two.imp_of_mem fun{y x} hy hx h=>⟨h.1,h.2.1,h.2.2.1, ?_⟩
  rw [Nat.sub_zero]at h
  by_cases hed:bitN (us.getD x.i 0) y.i=true
  ·left
   have:=hp4 x.i x.o (by simpa using(hof x hx).2) y.i hed
   rwa [Nat.zero_add]at this
  ·right;left
   have h8:=indF_spec (h.2.2.2.resolve_right hed)
   have h9:=hp3 y.i x.i y.o x.o h.1 (by simpa using(hof y hy).2) (by simpa using(hof x hx).2)
   rw [Nat.zero_add]at h9
   exact⟨h9.resolve_left hed,h8.1,h8.2.1,h8.2.2,h.2.1,h.2.2.1⟩
 ·rcases hid with⟨x,hx,h1,h2⟩|h1
  ·have:=ho.lo x hx;omega
  ·have:=ho.nx;omega
 ·have hle:listed'=lstK k ops.size:=by rw [←hsz];exact lstK_eq fun i hi=>hls i (by omega)
  obtain⟨g1,e1,hK,hrel,hst1⟩:=hW δ g' e a' w' _ (h1.toR fun id hid=>hid) hK
  have h10:Step g s w (g.imm g.I) s {w with drawn:=w.drawn+1}:=h7.tm
  have hdl:(ops.toList.drop k).length=ops.size - k:=by simp
  have:=wpAny_of_seq (P:=P) (md:= .any) (ops:=ops) (Q':=fun x a' w'=>∃g' s',Q x s'∧Rel δ g' s' a' w'∧a'.tmps.size=n∧StepN N g s w g' s' w') (ops.toList.drop k) k listed' a' w' (fun j=>by simp) (by rw [hdl,hle];exact hq)
   (aops_sound hT.toS ops _ (fun o ho=>List.all_eq_true.1 hd o (List.mem_of_mem_drop ho)) hK hrel h2 fun a'' w'' ⟨g'',s'',q1,q2,q3,q4⟩=>⟨g'',s'',q1,q2,q3,(((h10.trans h3).trans hst1).trans q4).toN⟩)
  rwa [hdl]at this
theorem ADraw.tail (k:Nat) (us:List Nat) (hT:TabOk P T) {i:Nat} {ops:Array Oper} {Q:Exit→St→Prop} (hm:P.follows .mixedOrders=true) (hB:prsB ops 0 [] [] ops.toList us=true) (hd:ops.toList.all (dstOk1 n)=true)
 (hk:tailB ops us k=true) (hq:Region.seqB .any ops (ops.size - k) k (lstK k ops.size)=true)
 (h:dx P T ops (ops.toList.take k) us 0 [] (fun e=>aops P T ops (ops.toList.drop k) e (Q .normal)) s):ADraw P n N i ops Q s:=
 .tailG (fun e K=>K e) (fun δ g e a w K hr hK=>⟨g,e,hK,hr, .refl _ _ _⟩) k us hT hm hB hd hk hq h
@[go_sem] def frzT (t:Nat) (e:St) (K:St→Prop):Prop:=match lk t e.tm with
 |some (.vec id k)=>match lk id e.os with
  |some (.vec _ _ _ els)=>k=els.length∧K ⟨upd t (.c (.sl els)) e.tm,rmv e.os [id],e.nx⟩
  |_=>False
 |_=>False
end
open Go
section
variable {P:Program} {T:Tab} {n N:Nat} {s:St}
end
open Go
abbrev SP:=List D→Option (Prop×D×Fr)
def SPx (P:Program) (n:FuncId) (g:List D→List D) (sp:SP):Prop:=∀rs p r fr,sp rs=some (p,r,fr)→p→FnOk P n (g rs) r fr
structure Ct (P:Program) where
 n:FuncId
 sp:SP
 ok:SPx P n (fun l=>l) sp
structure Kd (α:Type) where
 u:D→Option (Prop×α)
 d:α→D
 ok:∀x p a,u x=some (p,a)→p→x=d a
def cj (p:Prop):Option (Prop×D×Fr)→Option (Prop×D×Fr)
 |some (q,r,fr)=>some (p∧q,r,fr)
 |none=>none
def argU {α:Type} (f:α→SP) (l:List D):Option (Prop×α)→Option (Prop×D×Fr)
 |some (p,a)=>cj p (f a l)
 |none=>none
def arg {α:Type} (k:Kd α) (f:α→SP):SP
 |x::l=>argU f l (k.u x)
 |[]=>none
def ret (q:Prop) (r:D) (fr:Fr):SP
 |[]=>some (q,r,fr)
 |_=>none
abbrev pu (r:D):SP:=ret True r []
attribute [go_sem] cj argU arg ret
section
variable {P:Program} {n f:FuncId} {g:List D→List D}
theorem arg_ok {α:Type} {k:Kd α} {f:α→SP} (h:∀a,SPx P n (fun l=>g (k.d a::l)) (f a)):SPx P n g (arg k f):=by
 intro rs p r fr hs hp
 cases rs with
 |nil=>cases hs
 |cons x l=>
  cases hu:k.u x with
  |none=>simp only [arg,argU,hu]at hs;cases hs
  |some y=>
   obtain⟨q,a⟩:=y
   cases hf:f a l with
   |none=>simp only [arg,argU,hu,hf,cj]at hs;cases hs
   |some y=>
    obtain⟨q',r',fr'⟩:=y
    simp only [arg,argU,hu,hf,cj]at hs
    cases hs
    rw [k.ok x q a hu hp.1]
    exact h a l _ _ _ hf hp.2
theorem ret_ok {q:Prop} {r:D} (h:q→PureFn P n (g []) r):SPx P n g (ret q r []):=by
 intro rs p r' fr hs hp
 unfold ret at hs
 split at hs<;>cases hs
 exact h hp
theorem retF_ok {q:Prop} {r:D} {x:Nat×TypeId×Bool×List (List C)} {l:Fr} (h:q→FreshFn P n (g []) r (x::l)) (hr:r.scal=false:=by rfl):SPx P n g (ret q r (x::l)):=by
 intro rs p r' fr hs hp
 unfold ret at hs
 split at hs<;>cases hs
 exact⟨hr,h hp⟩
def tb:List (Ct P)→Tab
 |[]=>[]
 |c::l=>(c.n,c.sp)::tb l
theorem tb_ok:∀l:List (Ct P),TabOk P (tb l)
 |[]=> .nil
 |c::l=> .cons c.ok (tb_ok l)
attribute [go_sem] tb
theorem Ct.pure (c:Ct P) {rs:List D} {q:Prop} {r:D} (h:c.sp rs=some (q,r,[])) (hq:q):PureFn P c.n rs r:=c.ok rs q r [] h hq
def dumC (n:FuncId):Ct P:=⟨n,fun _=>none,fun _ _ _ _ h=>by cases h⟩
abbrev fgC (t:Nat):Ct P:=dumC (1000000000+t)
abbrev ovC' (t:Nat):Ct P:=dumC (2000000000+t)
attribute [go_sem] dumC
def fnB (fn:Func):Bool:= !(fn.name== "runtime.NumGoroutine")&&fn.body.isSome&&dstOk fn.ntmps (fn.body.getD .skip)
theorem cl {T:Tab} (hT:TabOk P T) (fn:Func) (lv:Nat→Option (List Nat)) {ds:List D} {os:List (Nat×Ob)} {nx:Nat} {Q:D→List (Nat×Ob)→Nat→Prop}
 (h:awp P T fn.ntmps nx lv (fn.body.getD .skip) (fin P fn.results.toList Q) ⟨prm 0 ds,os,nx⟩)
 (hf:P.funcs[f]? =some fn:=by kernel_rfl) (hb:fnB fn=true:=by kernel_rfl) (hl:ds.length≤fn.ntmps:=by exact Nat.le_of_ble_eq_true rfl):ACall P f ds os nx Q:=by
 simp only [fnB,Bool.and_eq_true,Bool.not_eq_true']at hb
 obtain⟨⟨h1,h2⟩,h3⟩:=hb
 refine acall_intro hT.toS (fn:=fn) lv hf h1 ?_ h3 rfl hl rfl h
 cases hc:fn.body with
 |none=>rw [hc]at h2;cases h2
 |some c=>rfl
theorem run (l:List (Ct P)) (fn:Func) (lv:Nat→Option (List Nat)) {rs:List D} {r:D}
 (h:TabOk P (tb l)→awp P (tb l) fn.ntmps 0 lv (fn.body.getD .skip) (fin P fn.results.toList (PR r)) ⟨prm 0 rs,[],0⟩)
 (hf:P.funcs[f]? =some fn:=by kernel_rfl) (hb:fnB fn=true:=by kernel_rfl) (hl:rs.length≤fn.ntmps:=by exact Nat.le_of_ble_eq_true rfl):PureFn P f rs r:=
 .of (cl (tb_ok l) fn lv (h (tb_ok l)) hf hb hl)
theorem runF (l:List (Ct P)) (fn:Func) (lv:Nat→Option (List Nat)) {rs:List D} {r:D} {fr:Fr}
 (h:TabOk P (tb l)→awp P (tb l) fn.ntmps 0 lv (fn.body.getD .skip) (fin P fn.results.toList (FR r fr)) ⟨prm 0 rs,[],0⟩)
 (hf:P.funcs[f]? =some fn:=by kernel_rfl) (hb:fnB fn=true:=by kernel_rfl) (hl:rs.length≤fn.ntmps:=by exact Nat.le_of_ble_eq_true rfl):FreshFn P f rs r fr:=
 .of (cl (tb_ok l) fn lv (h (tb_ok l)) hf hb hl)
theorem Cd.mk {a b:Prop} (h:a) (h1:b):a∧b:=⟨h,h1⟩
theorem cdA:type_of% (Cd.mk @cd_t (Cd.mk @cd_f (Cd.mk @cd_dec (Cd.mk @cd_not (Cd.mk @cd_and (Cd.mk @cd_or (Cd.mk @grd_tt (Cd.mk @grd_ff (Cd.mk @grd_tf (Cd.mk @grd_ft (Cd.mk @grd_dt (Cd.mk @grd_df (Cd.mk @grd_nt @grd_nf))))))))))))):=(Cd.mk @cd_t (Cd.mk @cd_f (Cd.mk @cd_dec (Cd.mk @cd_not (Cd.mk @cd_and (Cd.mk @cd_or (Cd.mk @grd_tt (Cd.mk @grd_ff (Cd.mk @grd_tf (Cd.mk @grd_ft (Cd.mk @grd_dt (Cd.mk @grd_df (Cd.mk @grd_nt @grd_nf)))))))))))))
theorem cdB:type_of% (Cd.mk @decide_true (Cd.mk @Bool.and_self (Cd.mk @Bool.true_and (Cd.mk @Ob.map.injEq (Cd.mk @Ob.it.injEq (Cd.mk @true_and @and_true)))))):=(Cd.mk @decide_true (Cd.mk @Bool.and_self (Cd.mk @Bool.true_and (Cd.mk @Ob.map.injEq (Cd.mk @Ob.it.injEq (Cd.mk @true_and @and_true))))))
theorem cdN:type_of% (Cd.mk @false_implies (Cd.mk @true_implies (Cd.mk @not_false_eq_true @not_true_eq_false))):=(Cd.mk @false_implies (Cd.mk @true_implies (Cd.mk @not_false_eq_true @not_true_eq_false)))
theorem vc {p q:Prop} (h:q) (e:p=q:=by simp -implicitDefEqProofs only [cdA,go_sem,simprocAttr, -Int.reduceEq,List.cons.injEq,cdB]<;>rfl):p:=e▸h
theorem vc0 {p:Prop} (e:p=True:=by simp -implicitDefEqProofs only [cdA,go_sem,simprocAttr, -Int.reduceEq,List.cons.injEq,cdB]):p:=e▸trivial
theorem aw {T:Tab} (hT:TabOk P T) (lv:Nat→Option (List Nat)) {m N:Nat} {c:Code} {Q:Exit→St→Prop} {s:St} (h:awp P T m N lv c Q s) (hd:dstOk m c=true:=by kernel_rfl):SWp P m N c Q s:=awp_sound hT.toS lv c Q s hd h
theorem dr {T:Tab} (us:List Nat) (hT:TabOk P T) {m N:Nat} {s:St} {i:Nat} {ops:Array Oper} {Q:Exit→St→Prop} (h:dx P T ops ops.toList us 0 [] (Q .normal) s)
 (hm:P.follows .mixedOrders=true:=by kernel_rfl) (hB:prsB ops 0 [] [] ops.toList us=true:=by kernel_rfl) (hd:ops.toList.all (dstOk1 m)=true:=by kernel_rfl):ADraw P m N i ops Q s:= .run us hT hm hB hd h
end
def St.up (s:St) (t:Nat) (d:D):St:=⟨upd t d s.tm,s.os,s.nx⟩
def St.uo (s:St) (i:Nat) (o:Ob):St:=⟨s.tm,upd i o s.os,s.nx⟩
def St.ub (s:St) (i k:Nat) (d:D):St:=match lk i s.os with
 |some (.box cs)=>⟨s.tm,upd i (.box (cs.set k d)) s.os,s.nx⟩
 |_=>s
attribute [go_sem] St.up St.uo St.ub List.set_cons_zero List.set_cons_succ
theorem lpl {P:Program} {n N:Nat} {c:Code} {Q:Exit→St→Prop} {s:St} {ι:Type} (S:St→ι→St) (μ:ι→Nat) (i0:ι) (h:∀i,SWp P n N c (lp N (S s) μ (μ i) Q) (S s i)) (h0:Sub N s (S s i0):=by simp [go_sem]):SWp P n N (.loop c) Q s:= .loop (S s) μ i0 h0 h
theorem ixl {P:Program} {n N:Nat} {c:Code} {Q:Exit→St→Prop} {s:St} (t len:Nat) (p:Nat→Prop) (hp:p 0) (h:∀i,i≤len→p i→SWp P n N c (lp N (fun i:{i:Nat // i≤len∧p i}=>s.up t (.int .i64 (i.1:Int))) (fun i=>len - i.1) (len - i) Q) (s.up t (.int .i64 (i:Int)))) (h0:Sub N s (s.up t (.int .i64 ((0:Nat):Int))):=by simp [go_sem]):SWp P n N (.loop c) Q s:=
 .loop (fun i:{i:Nat // i≤len∧p i}=>s.up t (.int .i64 (i.1:Int))) (fun i=>len - i.1) ⟨0,Nat.zero_le _,hp⟩ h0 fun i=>h i.1 i.2.1 i.2.2
theorem SWp.same {P:Program} {n N:Nat} {c:Code} {Q:Exit→St→Prop} {s s':St} (ht:∀t d,lk t s'.tm=some d→lk t s.tm=some d) (ho:∀i,lk i s'.os=lk i s.os) (hx:s'.nx=s.nx) (h:SWp P n N c Q s'):SWp P n N c Q s:=by
 intro δ g a w hr hn
 have hown:∀b,Own g s' b↔Own g s b:=fun b=>by simp only [Own,ho]
 have hr':Rel δ g s' a w:=by
  refine⟨fun t d hd=>hr.tm t d (ht t d hd),hr.defers,⟨fun id o h=>hr.o.ok id o (by rw [←ho];exact h),fun id o id' o' b h1 h2=>hr.o.apart id o id' o' b (by rw [←ho];exact h1) (by rw [←ho];exact h2),fun id h=>hr.o.fresh id (by rw [←hx];exact h),fun b hb=>⟨(hr.o.imm b hb).1,fun h=>(hr.o.imm b hb).2 ((hown b).1 h)⟩,hr.o.cel⟩⟩
 refine wp_mono (h δ g a w hr' hn) fun e a' w' ⟨g2,s2,h1,h2,h3,h4⟩=>⟨g2,s2,h1,h2,h3, ?_⟩
 exact⟨h4.ρ,h4.κ,h4.I,h4.size,fun b hb h=>h4.same b hb fun h'=>h ((hown b).1 h'),fun b hb h=>h4.own b hb fun h'=>h ((hown b).1 h'),fun b hb h=>h4.imm b hb fun h'=>h ((hown b).1 h'),h4.env⟩
theorem nv {P:Program} {n N:Nat} {c:Code} {Q:Exit→St→Prop} {s:St} (t z:Nat) (e:TypeId) (h:SWp P n N c Q ⟨upd t (.vec s.nx 0) s.tm,(s.nx, .vec true z e [])::s.os,s.nx+1⟩) (ht:lk t s.tm=some .nil:=by rfl) (hN:N≤s.nx:=by exact Nat.le_of_ble_eq_true rfl):SWp P n N c Q s:=by
 refine .nilvec t z e ht hN (.same (s':=⟨upd t (.vec s.nx 0) s.tm,(s.nx, .vec true z e [])::s.os,s.nx+1⟩) (fun u d hu=> ?_) (fun _=>rfl) rfl h)
 simp only [lk_upd]at hu
 simp only [lk_cons]
 split at hu
 ·rename_i hc;rw [if_pos hc.1];exact hu
 ·rename_i hc
  rw [if_neg fun he=>hc ⟨he,by subst he;rw [ht];simp⟩];exact hu
theorem cInt (k:IntKind) {z:Int} (h:z=(z.toNat:Int)):D.c (.int k z)= .c (.int k (z.toNat:Int)):=by rw [←h]
def uU64:D→Option (Prop×Nat)| .c (.int .u64 z)=>some (z=(z.toNat:Int),z.toNat)|_=>none
def uU8:D→Option (Prop×Nat)| .c (.int .u8 z)=>some (z=(z.toNat:Int),z.toNat)|_=>none
def uI64:D→Option (Prop×Int)| .c (.int .i64 z)=>some (True,z)|_=>none
def uBool:D→Option (Prop×Bool)| .c (.bool z)=>some (True,z)|_=>none
def uStr:D→Option (Prop×ByteArray)| .c (.str z)=>some (True,z)|_=>none
def uF64:D→Option (Prop×Option Nat)| .c (.flt .f64 z)=>some (True,z)|_=>none
def uFn (n:FuncId):D→Option (Prop×Unit)| .fn (.func m) [] []=>some (m=n,())|_=>none
def uSl {α:Type} (e:List α→List (List C)) (d:List (List C)→List α):D→Option (Prop×List α)| .c (.sl z)=>some (z=e (d z),d z)|_=>none
def uMp (q:IntKind):D→Option (Prop×List (Nat×Int))| .c (.map [.int .u64] z)=>some (z=kvF .u64 q (dkvF z),dkvF z)|_=>none
def cds1 (x:C):Option (List C)→Option (List C)|some cs=>some (x::cs)|none=>none
def cds:List D→Option (List C)
 |[]=>some []
 | .c x::l=>cds1 x (cds l)
 |_=>none
def uAgU {α:Type} (e:α→List C) (d:List C→α):Option (List C)→Option (Prop×α)|some cs=>some (cs=e (d cs),d cs)|none=>none
def uAg {α:Type} (e:α→List C) (d:List C→α):D→Option (Prop×α)| .agg l=>uAgU e d (cds l)|_=>none
theorem cds_map:∀{l:List D} {cs:List C},cds l=some cs→l=cs.map D.c
 |[],cs,h=>by cases h;rfl
 | .c x::l,cs,h=>by
  cases h1:cds l with
  |none=>simp only [cds,h1,cds1]at h;cases h
  |some cs'=>simp only [cds,h1,cds1]at h;cases h;rw [List.map_cons,←cds_map h1]
def kU64:Kd Nat:=⟨uU64,fun n=> .c (.int .u64 (n:Int)),fun x p a h hp=>by unfold uU64 at h;split at h<;>cases h;exact cInt _ hp⟩
def kU8:Kd Nat:=⟨uU8,fun n=> .c (.int .u8 (n:Int)),fun x p a h hp=>by unfold uU8 at h;split at h<;>cases h;exact cInt _ hp⟩
def kI64:Kd Int:=⟨uI64,fun n=> .c (.int .i64 n),fun x p a h hp=>by unfold uI64 at h;split at h<;>cases h;rfl⟩
def kBool:Kd Bool:=⟨uBool,fun n=> .c (.bool n),fun x p a h hp=>by unfold uBool at h;split at h<;>cases h;rfl⟩
def kStr:Kd ByteArray:=⟨uStr,fun n=> .c (.str n),fun x p a h hp=>by unfold uStr at h;split at h<;>cases h;rfl⟩
def kF64:Kd (Option Nat):=⟨uF64,fun n=> .c (.flt .f64 n),fun x p a h hp=>by unfold uF64 at h;split at h<;>cases h;rfl⟩
def kFn (n:FuncId):Kd Unit:=⟨uFn n,fun _=> .fn (.func n) [] [],fun x p a h hp=>by unfold uFn at h;split at h<;>cases h;rw [show _=n from hp]⟩
def kSl {α:Type} (e:List α→List (List C)) (d:List (List C)→List α):Kd (List α):=⟨uSl e d,fun l=> .c (.sl (e l)),fun x p a h hp=>by unfold uSl at h;split at h<;>cases h;rw [←show _=e (d _)from hp]⟩
def kMp (q:IntKind):Kd (List (Nat×Int)):=⟨uMp q,fun l=> .c (.map [.int .u64] (kvF .u64 q l)),fun x p a h hp=>by unfold uMp at h;split at h<;>cases h;rw [←show _=kvF .u64 q (dkvF _)from hp]⟩
def kAg {α:Type} (e:α→List C) (d:List C→α):Kd α:=⟨uAg e d,fun x=> .agg ((e x).map D.c),fun x p a h hp=>by
 unfold uAg uAgU at h
 split at h
 ·split at h<;>cases h
  rename_i h1
  rw [←show _=e (d _)from hp,cds_map h1]
 ·cases h⟩
attribute [go_sem] cds cds1 uU64 uU8 uI64 uBool uStr uF64 uFn uSl uMp uAg uAgU kU64 kU8 kI64 kBool kStr kF64 kFn kSl kMp kAg List.map_cons List.map_nil C.int.injEq C.sl.injEq C.str.injEq C.bool.injEq C.flt.injEq dkvF_kvF Option.getD_some
namespace Srt
structure Tot {κ:Type} (lt:κ→κ→Prop):Prop where
 irr:∀a,¬lt a a
 tr:∀{a b c},lt a b→lt b c→lt a c
 tot:∀a b,lt a b∨a=b∨lt b a
theorem totNat:Tot (fun a b:Nat=>a<b):=⟨fun a=>by omega,fun h h'=>by omega,fun a b=>by omega⟩
section
variable {α κ:Type} [Inhabited α] [DecidableEq κ] (key:α→κ) (lt:κ→κ→Prop) [DecidableRel lt]
def Up (l:List α):Prop:=l.Pairwise fun a b=>lt (key a) (key b)
def pos (l:List α) (k:κ):Nat:=l.findIdx fun x=>decide (¬lt (key x) k)
def thr (l:List α) (k:κ):Bool:=decide (pos key lt l k<l.length∧key (l.getD (pos key lt l k) default)=k)
def ins (l:List α) (i:Nat) (x:α):List α:=l.take i++x::l.drop i
def put (l:List α) (x:α):List α:=if thr key lt l (key x)=true then l.set (pos key lt l (key x)) x else ins l (pos key lt l (key x)) x
def Chn (l:List α):Prop:=∀j,j<l.length→0<j→lt (key (l.getD (j - 1) default)) (key (l.getD j default))
instance (l:List α):Decidable (Chn key lt l):=by unfold Chn;infer_instance
variable {key lt} {l:List α} {k:κ} {x:α} {i:Nat} (T:Tot lt)
theorem pos_le:pos key lt l k≤l.length:=List.findIdx_le_length
theorem pos_lo (h:i<pos key lt l k):lt (key (l.getD i default)) k:=by
 have h2:i<l.length:=Nat.lt_of_lt_of_le h pos_le
 have:=List.not_of_lt_findIdx h
 rw [getD_lt h2]
 simpa using this
theorem pos_eq (hi:i≤l.length) (h1:∀j,j<i→lt (key (l.getD j default)) k) (h2:i<l.length→¬lt (key (l.getD i default)) k):pos key lt l k=i:=by
 unfold pos
 rcases Nat.lt_or_ge i l.length with h|h
 ·rw [List.findIdx_eq h]
  have h3:=h2 h
  rw [getD_lt h]at h3
  refine⟨by simpa using h3,fun j hj=> ?_⟩
  have:=h1 j hj
  rw [getD_lt (Nat.lt_trans hj h)]at this
  simpa using this
 ·have:i=l.length:=by omega
  subst this
  refine Nat.le_antisymm List.findIdx_le_length (Nat.le_of_not_lt fun hlt=> ?_)
  have h3:=List.findIdx_getElem (w:=hlt)
  have h4:=h1 _ hlt
  rw [getD_lt hlt]at h4
  simp only [decide_eq_true_eq]at h3
  exact h3 h4
theorem up_get:Up key lt l↔∀a b,a<b→b<l.length→lt (key (l.getD a default)) (key (l.getD b default)):=by
 unfold Up
 rw [List.pairwise_iff_getElem]
 refine⟨fun h a b hab hb=> ?_,fun h a b ha hb hab=> ?_⟩
 ·rw [getD_lt hb,getD_lt (by omega)];exact h a b (by omega) hb hab
 ·have:=h a b hab hb
  rwa [getD_lt hb,getD_lt ha]at this
theorem at_pos (h:pos key lt l k<l.length):¬lt (key (l.getD (pos key lt l k) default)) k:=by
 have h3:=List.findIdx_getElem (w:=h)
 rw [getD_lt h]
 exact of_decide_eq_true h3
include T
theorem chn_up:Chn key lt l↔Up key lt l:=by
 rw [up_get]
 refine⟨fun h a b hab=> ?_,fun h j hj h0=>h (j - 1) j (by omega) hj⟩
 induction b with
 |zero=>omega
 |succ b ih=>
  intro hb
  have h1:=h (b+1) hb (by omega)
  rw [Nat.add_sub_cancel]at h1
  by_cases hab':a=b
  ·rw [hab'];exact h1
  ·exact T.tr (ih (by omega) (by omega)) h1
theorem pos_hi (hu:Up key lt l) (h:pos key lt l k≤i) (hi:i<l.length):¬lt (key (l.getD i default)) k:=by
 have h1:=at_pos (key:=key) (lt:=lt) (l:=l) (k:=k) (by omega)
 by_cases he:pos key lt l k=i
 ·rw [←he];exact h1
 ·intro h2
  exact h1 (T.tr (up_get.1 hu _ _ (by omega) hi) h2)
theorem thr_iff (hu:Up key lt l):thr key lt l k=true↔∃x∈l,key x=k:=by
 simp only [thr,decide_eq_true_eq]
 refine⟨fun⟨h1,h2⟩=>⟨_,mem_getD.2 ⟨_,h1,rfl⟩,h2⟩,fun⟨x,hx,he⟩=> ?_⟩
 obtain⟨i,hi,rfl⟩:=mem_getD.1 hx
 have h1:pos key lt l k=i:=by
  refine pos_eq (by omega) (fun j hj=> ?_) fun _=> ?_
  ·rw [←he];exact up_get.1 hu j i hj hi
  ·rw [he];exact T.irr _
 rw [h1];exact⟨hi,he⟩
theorem up_inj (hu:Up key lt l) {a b:α} (ha:a∈l) (hb:b∈l) (h:key a=key b):a=b:=by
 obtain⟨i,hi,rfl⟩:=mem_getD.1 ha
 obtain⟨j,hj,rfl⟩:=mem_getD.1 hb
 rcases Nat.lt_trichotomy i j with h1|h1|h1
 ·have:=up_get.1 hu i j h1 hj;rw [h]at this;exact absurd this (T.irr _)
 ·rw [h1]
 ·have:=up_get.1 hu j i h1 hi;rw [h]at this;exact absurd this (T.irr _)
theorem ext {a b:List α} (ha:Up key lt a) (hb:Up key lt b) (h:∀x,x∈a↔x∈b):a=b:=by
 induction a generalizing b with
 |nil=>
  cases b with
  |nil=>rfl
  |cons y b=>exact absurd ((h y).2 (by simp)) (by simp)
 |cons x a ih=>
  cases b with
  |nil=>exact absurd ((h x).1 (by simp)) (by simp)
  |cons y b=>
   simp only [Up,List.pairwise_cons]at ha hb
   have hxy:x=y:=by
    rcases List.mem_cons.1 ((h x).1 (by simp))with h1|h1
    ·exact h1
    ·rcases List.mem_cons.1 ((h y).2 (by simp))with h2|h2
     ·exact h2.symm
     ·exact absurd (T.tr (ha.1 y h2) (hb.1 x h1)) (T.irr _)
   subst hxy
   congr 1
   refine ih ha.2 hb.2 fun z=> ?_
   have hz:=h z
   simp only [List.mem_cons]at hz
   refine⟨fun h1=> ?_,fun h1=> ?_⟩
   ·rcases hz.1 (.inr h1)with h2|h2
    ·subst h2;exact absurd (ha.1 z h1) (T.irr _)
    ·exact h2
   ·rcases hz.2 (.inr h1)with h2|h2
    ·subst h2;exact absurd (hb.1 z h1) (T.irr _)
    ·exact h2
omit T in
theorem ins_perm:List.Perm (ins l i x) (x::l):=by
 have:=List.perm_middle (a:=x) (l₁:=l.take i) (l₂:=l.drop i)
 rwa [List.take_append_drop]at this
theorem ins_up (hu:Up key lt l) (ht:¬thr key lt l (key x)=true):Up key lt (ins l (pos key lt l (key x)) x):=by
 have hn:∀e∈l,¬key e=key x:=fun e he h=>ht ((thr_iff T hu).2 ⟨e,he,h⟩)
 have hlo:∀e∈l.take (pos key lt l (key x)),lt (key e) (key x):=fun e he=>by
  obtain⟨i,hi,rfl⟩:=List.getElem_of_mem he
  rw [List.length_take]at hi
  have:=pos_lo (key:=key) (lt:=lt) (l:=l) (k:=key x) (i:=i) (by omega)
  rw [getD_lt (by omega)]at this
  simpa using this
 have hhi:∀e∈l.drop (pos key lt l (key x)),lt (key x) (key e):=fun e he=>by
  obtain⟨i,hi,rfl⟩:=List.getElem_of_mem he
  rw [List.length_drop]at hi
  have h3:=pos_hi T hu (k:=key x) (i:=pos key lt l (key x)+i) (by omega) (by omega)
  have h4:=hn _ (List.mem_of_mem_drop he)
  rw [getD_lt (by omega)]at h3
  simp only [List.getElem_drop]at h4⊢
  rcases T.tot (key l[pos key lt l (key x)+i]) (key x)with h|h|h
  ·exact absurd h h3
  ·exact absurd h h4
  ·exact h
 unfold Up at*
 rw [←List.take_append_drop (pos key lt l (key x)) l,List.pairwise_append]at hu
 rw [ins,List.pairwise_append]
 refine⟨hu.1,List.pairwise_cons.2 ⟨hhi,hu.2.1⟩,fun a ha b hb=> ?_⟩
 rcases List.mem_cons.1 hb with rfl|hb
 ·exact hlo a ha
 ·exact hu.2.2 a ha b hb
omit T in
theorem set_getD {p:Nat} (hp:p<l.length) (q:Nat):(l.set p x).getD q default=if q=p then x else l.getD q default:=by
 rw [List.getD_eq_getElem?_getD,List.getElem?_set]
 by_cases h:p=q
 ·subst h;simp [hp]
 ·have:¬q=p:=fun e=>h e.symm
  simp [h,this]
omit T in
theorem set_up {p:Nat} (hu:Up key lt l) (hp:p<l.length) (hk:key x=key (l.getD p default)):Up key lt (l.set p x):=by
 rw [up_get]at*
 intro a b hab hb
 rw [List.length_set]at hb
 have:∀q,key ((l.set p x).getD q default)=key (l.getD q default):=fun q=>by
  rw [set_getD hp]
  split
  ·rename_i h;rw [h,hk]
  ·rfl
 rw [this,this]
 exact hu a b hab hb
theorem put_up (hu:Up key lt l):Up key lt (put key lt l x):=by
 unfold put
 split
 ·rename_i h
  simp only [thr,decide_eq_true_eq]at h
  exact set_up hu h.1 h.2.symm
 ·rename_i h;exact ins_up T hu h
theorem mem_put (hu:Up key lt l) {y:α}:y∈put key lt l x↔y=x∨(y∈l∧key y≠key x):=by
 unfold put
 split
 ·rename_i h
  simp only [thr,decide_eq_true_eq]at h
  obtain⟨h1,h2⟩:=h
  refine⟨fun hy=> ?_,fun hy=> ?_⟩
  ·obtain⟨i,hi,rfl⟩:=mem_getD.1 hy
   rw [List.length_set]at hi
   rw [set_getD h1]
   split
   ·exact .inl rfl
   ·rename_i hne
    refine .inr ⟨mem_getD.2 ⟨i,hi,rfl⟩,fun he=> ?_⟩
    have:=up_inj T hu (mem_getD.2 ⟨i,hi,rfl⟩) (mem_getD.2 ⟨_,h1,rfl⟩) (he.trans h2.symm)
    rcases Nat.lt_trichotomy i (pos key lt l (key x))with h|h|h
    ·have h3:=up_get.1 hu _ _ h h1;rw [this]at h3;exact T.irr _ h3
    ·exact hne h
    ·have h3:=up_get.1 hu _ _ h hi;rw [this]at h3;exact T.irr _ h3
  ·rcases hy with rfl|⟨hy,hne⟩
   ·exact mem_getD.2 ⟨pos key lt l (key y),by rw [List.length_set];exact h1,by rw [set_getD h1,if_pos rfl]⟩
   ·obtain⟨i,hi,rfl⟩:=mem_getD.1 hy
    refine mem_getD.2 ⟨i,by rw [List.length_set];exact hi, ?_⟩
    rw [set_getD h1,if_neg]
    rintro rfl
    exact hne h2
 ·rename_i h
  rw [ins_perm.mem_iff,List.mem_cons]
  refine⟨fun hy=>hy.imp id fun hy=>⟨hy,fun he=>h ((thr_iff T hu).2 ⟨y,hy,he⟩)⟩,fun hy=>hy.imp id fun hy=>hy.1⟩
omit T in
theorem ins_len:(ins l i x).length=l.length+1:=ins_perm.length_eq
theorem put_filter (hu:Up key lt l):l.filter (fun e=>decide (lt (key e) (key x)))++x::l.filter (fun e=>decide (lt (key x) (key e)))=put key lt l x:=by
 refine ext T (key:=key) (lt:=lt) ?_ (put_up T hu) fun y=> ?_
 ·unfold Up at*
  rw [List.pairwise_append]
  refine⟨hu.filter _,List.pairwise_cons.2 ⟨fun b hb=>by simpa using(List.mem_filter.1 hb).2,hu.filter _⟩,fun a ha b hb=> ?_⟩
  have h1:lt (key a) (key x):=by simpa using(List.mem_filter.1 ha).2
  rcases List.mem_cons.1 hb with rfl|hb
  ·exact h1
  ·exact T.tr h1 (by simpa using(List.mem_filter.1 hb).2)
 ·rw [mem_put T hu]
  simp only [List.mem_append,List.mem_cons,List.mem_filter,decide_eq_true_eq]
  refine⟨fun h=> ?_,fun h=> ?_⟩
  ·rcases h with⟨h1,h2⟩|h1|⟨h1,h2⟩
   ·exact .inr ⟨h1,fun e=>T.irr _ (e▸h2)⟩
   ·exact .inl h1
   ·exact .inr ⟨h1,fun e=>T.irr _ (e▸h2)⟩
  ·rcases h with h1|⟨h1,h2⟩
   ·exact .inr (.inl h1)
   ·rcases T.tot (key y) (key x)with h|h|h
    ·exact .inl ⟨h1,h⟩
    ·exact absurd h h2
    ·exact .inr (.inr ⟨h1,h⟩)
end
end Srt
end Dm
