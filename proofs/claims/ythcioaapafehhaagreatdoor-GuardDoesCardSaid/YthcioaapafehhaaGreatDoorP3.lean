import Derived.Test.YthcioaapafehhaaGreatDoorP2
import Derived.IntWalk
import Derived.KernelRfl
import Derived.Scope
import Derived.Test.YthcioaapafehhaaGreatDoorProg
set_option linter.unusedSimpArgs false
set_option linter.unusedVariables false
set_option linter.unusedSectionVars false
set_option linter.defProp false
set_option maxRecDepth 20000
set_option maxHeartbeats 4000000
namespace Dm
open Go
section
variable {δ:List Deferred} {P:Program} {T:Tab} {all:Array Oper} {g g':G} {s s' s'' e:St} {a a':Act} {w w':World} {n N:Nat} {F F':Nat→Prop}
theorem bcE (h:Eqv s s') {b:Nat}:Own g s b↔Own g s' b:=⟨fun⟨i,o,h1,h2⟩=>⟨i,o,by rw [←h.2];exact h1,h2⟩,fun⟨i,o,h1,h2⟩=>⟨i,o,by rw [h.2];exact h1,h2⟩⟩
theorem bab.eqv (hr:bab F δ g s a w) (h:Eqv s s'):bab F δ g s' a w:=
 ⟨fun t d ht=>hr.tm t d (by rw [h.1];exact ht),hr.defers,⟨fun i o hi=>hr.o.ok i o (by rw [h.2];exact hi),fun i o i' o' b h1 h2=>hr.o.apart i o i' o' b (by rw [h.2];exact h1) (by rw [h.2];exact h2),hr.o.fresh,
  fun b hb=>⟨(hr.o.imm b hb).1,fun ho=>(hr.o.imm b hb).2 ((bcE h).2 ho)⟩,hr.o.cel⟩⟩
theorem Step.eqv (h:∀id,lk id s.os=lk id s'.os):Step g s w g s' w:=by
 have h':∀b,Own g s b↔Own g s' b:=fun b=>⟨fun⟨i,o,h1,h2⟩=>⟨i,o,by rw [←h];exact h1,h2⟩,fun⟨i,o,h1,h2⟩=>⟨i,o,by rw [h];exact h1,h2⟩⟩
 exact⟨.refl g,Nat.le_refl _,fun _ _ _=>rfl,fun b _ ho hh=>ho ((h' b).2 hh),fun _ _ _ h=>h, .refl w⟩
theorem bab.skip (hr:bab F δ g s a w) (d:Option Nat) (hd:∀x,d=some x→x<a.tmps.size):bab F δ g (s.put d .skip) (a.put d undef) w:=by
 cases d with
 |none=>exact hr
 |some u=>
  refine⟨fun t x ht=> ?_,hr.defers,⟨hr.o.ok,hr.o.apart,hr.o.fresh,hr.o.imm,hr.o.cel⟩⟩
  simp only [St.put,zb]at ht
  split at ht
  ·rename_i htu
   cases ht
   subst htu
   exact⟨undef,by simp [Act.put,hd t rfl], .skip⟩
  ·rename_i htu
   obtain⟨v,h1,h2⟩:=hr.tm t x ht
   exact⟨v,by rw [gak (by simpa using fun h=>htu h.symm)];exact h1,h2⟩
theorem Sk.eqv {x:Ent} (h:Sk x):Eqv (s.put x.o.dst .skip) (x.app s):=by
 obtain⟨h1,h2⟩:=h
 refine⟨fun t=> ?_,fun i=> ?_⟩
 ·rw [bq,h2]
  cases hd:x.o.dst with
  |none=>simp [St.put]
  |some u=>
   simp only [St.put,zb,Option.some.injEq,St.get]
   by_cases h:t=u
   ·subst h;simp [lk]
   ·have h':¬u=t:=fun e=>h e.symm
    simp [h,h']
 ·rw [qw,h1,h2]
  cases x.o.dst<;>simp [St.put,lk]
inductive Anc (all:Array Oper):Nat→Nat→Prop where
 |one {i:Nat} {o:Oper} {ed:Edge} (ho:all[i]? =some o) (he:ed∈o.after) (hb:Region.binds .any ed=true):Anc all ed.on i
 |more {i j:Nat} {o:Oper} {ed:Edge} (ho:all[i]? =some o) (he:ed∈o.after) (hb:Region.binds .any ed=true) (h:Anc all j ed.on):Anc all j i
theorem Anc.inv {all:Array Oper} {j i:Nat} (h:Anc all j i):∃o ed,all[i]? =some o∧ed∈o.after∧Region.binds .any ed=true∧(ed.on=j∨Anc all j ed.on):=by
 cases h with
 |one ho he hb=>exact⟨_,_,ho,he,hb, .inl rfl⟩
 |more ho he hb h=>exact⟨_,_,ho,he,hb, .inr h⟩
def Down (all:Array Oper) (listed:Array Bool):Prop:=∀(i:Nat) o,listed.getD i false=true→all[i]? =some o→∀ed∈o.after,Region.binds .any ed=true→listed.getD ed.on false=true
theorem Anc.listed {all:Array Oper} {listed:Array Bool} (hd:Down all listed) {j i:Nat} (h:Anc all j i):listed.getD i false=true→listed.getD j false=true:=by
 induction h with
 |one ho he hb=>exact fun h=>hd _ _ h ho _ he hb
 |more ho he hb _ ih=>exact fun h=>ih (hd _ _ h ho _ he hb)
def Two (all:Array Oper) (y x:Ent):Prop:=y.i<x.i∧y.r.nx≤x.B∧y.B≤y.r.nx∧(Anc all y.i x.i∨Ind all y x∨(cmB all y.o x.o=true∧y.r.nx=y.B))
theorem Two.sim {y x y' x':Ent} (hy:y'.sh=y.sh) (hx:x'.sh=x.sh) (h:Two all y x):Two all y' x':=by
 obtain⟨a1,a2,a3,a4,a5,a6⟩:=yU hy
 obtain⟨b1,b2,b3,b4,b5,b6⟩:=yU hx
 obtain⟨h1,h2,h3,h4⟩:=h
 refine⟨by omega,by omega,by omega, ?_⟩
 rcases h4 with h|h|h
 ·rw [a1,b1];exact .inl h
 ·refine .inr (.inl ⟨by rw [a2,b2];exact h.a,by rw [a4,b3];exact h.w1,by rw [b4,a3];exact h.w2,by rw [a5,a6,b3];exact h.n1,by rw [a6,b5];exact h.n3,by rw [a5,a6];exact h.n4⟩)
 ·exact .inr (.inr ⟨by rw [a2,b2];exact h.1,by rw [a5,a6];exact h.2⟩)
theorem bbM {R:Ent→Ent→Prop} (hR:∀y x y' x':Ent,y'.sh=y.sh→x'.sh=x.sh→R y x→R y' x'):∀{l l':List Ent},l'.map Ent.sh=l.map Ent.sh→l.Pairwise R→l'.Pairwise R
 |[],l',h,_=>by
  have:l'=[]:=by simpa using h
  subst this;exact .nil
 |x::l,[],h,_=>by simp at h
 |x::l,x'::l',h,hp=>by
  simp only [List.map_cons,List.cons.injEq]at h
  obtain⟨h1,h2⟩:=List.pairwise_cons.1 hp
  refine List.pairwise_cons.2 ⟨fun y' hy'=> ?_,bbM hR h.2 h2⟩
  have:y'.sh∈l.map Ent.sh:=by rw [←h.2];exact List.mem_map.2 ⟨y',hy',rfl⟩
  obtain⟨y,hy,hyy⟩:=List.mem_map.1 this
  exact hR x y x' y' h.1 hyy.symm (h1 y hy)
theorem zaC {l l':List Ent} (h:l'.map Ent.sh=l.map Ent.sh) {y':Ent} (hy:y'∈l'):∃y∈l,y'.sh=y.sh:=by
 have:y'.sh∈l.map Ent.sh:=by rw [←h];exact List.mem_map.2 ⟨y',hy,rfl⟩
 obtain⟨y,hy,hyy⟩:=List.mem_map.1 this
 exact⟨y,hy,hyy.symm⟩
def jdB (l:List Ent) (e:St) (id:Nat):Prop:=(∃x∈l,x.B≤id∧id<x.r.nx)∨e.nx≤id
theorem bab.baz (hr:bab F δ g s a w) {t:Nat} {b:Bool} (h:s.get t= .bool b):a.tmps[t]? =some (.bool b):=by
 unfold St.get at h
 cases hl:lk t s.tm with
 |none=>rw [hl]at h;cases h
 |some d=>
  rw [hl]at h
  obtain⟨v,h1,h2⟩:=hr.tm t d hl
  have e:d= .bool b:=h
  rw [e]at h2
  rw [h1,h2.yl]
theorem bab.jaD (hr:bab F δ g s a w) {t:Nat} (h:s.get t= .skip):a.tmps[t]? =some Go.undef:=by
 unfold St.get at h
 cases hl:lk t s.tm with
 |none=>rw [hl]at h;cases h
 |some d=>
  rw [hl]at h
  obtain⟨v,h1,h2⟩:=hr.tm t d hl
  have e:d= .skip:=h
  rw [e]at h2
  cases h2
  exact h1
theorem vaJ (hT:zbA P T) {x:Ent} (hg:Good P T all x s) (hd:xl n x.o=true) (hr:bab F δ g s a w) (hn:a.tmps.size=n)
 (hF:∀id,x.B≤id→id<x.r.nx→F id) (hF':∀id,F' id→F id∧(id<x.B∨x.r.nx≤id)∧id∉x.T) {K:Act→World→Prop} {Q:Exit→Act→World→Prop}
 (hK:∀g' a' w',bab F' δ g' (x.app s) a' w'→a'.tmps.size=n→Step g s w g' (x.app s) w'→K a' w'):
 if Region.wanted x.o (yielded all a.tmps)then x.o.wp P a w K Q∨(x.o.asks P a w∧LetsOut Q)else K (a.put x.o.dst undef) w:=by
 have hdo:∀t,x.o.dst=some t→t<n:=fun t ht=>by
  unfold xl at hd
  rw [ht]at hd
  simpa using hd
 have hE:Ex P T x s→x.o.wp P a w K Q:=fun⟨h1,h2,h3,h4⟩=>by
  have h5:=gah hT x.o hdo h1 (vbJ hr h2) hn Q
  refine Go.Oper.wp_mono (fun a' w' h6=> ?_) (Oper.ydA h5)
  obtain⟨⟨g',s',rfl,h7,h8,h9⟩,h10⟩:=h6
  obtain⟨h11,h12⟩:=xcD (F':=F') hr h2 hF hF' h7 h9 h10 h4
  exact hK _ _ _ h11 h8 h12
 have hS:Sk x→K (a.put x.o.dst undef) w:=fun h=>by
  have h1:=(hr.skip x.o.dst (fun t ht=>by rw [hn];exact hdo t ht)).eqv h.eqv
  refine hK g _ _ (h1.less fun id hid=>(hF' id hid).1) (by rw [ye,hn]) (Step.eqv fun id=> ?_)
  rw [←h.eqv.2]
  cases x.o.dst<;>rfl
 unfold Good at hg
 cases hgd:x.o.guard with
 |none=>
  rw [hgd]at hg
  rw [if_pos (by simp [Region.wanted,hgd])]
  exact .inl (hE hg)
 |some jw=>
  obtain⟨j,wt⟩:=jw
  rw [hgd]at hg
  simp only at hg
  have hwant:Region.wanted x.o (yielded all a.tmps)=(yielded all a.tmps j==some wt):=by simp [Region.wanted,hgd]
  split at hg
  ·rename_i b hb
   cases ht:jH all j with
   |none=>rw [ht]at hb;cases hb
   |some t=>
    rw [ht]at hb
    have hv:=hr.baz hb
    have hy:yielded all a.tmps j=some b:=by rw [qk,ht];simp [hv]
    rw [hwant,hy]
    by_cases hbw:b=wt
    ·subst hbw
     rw [if_pos (by simp)]
     exact .inl (hE (hg.1 rfl))
    ·rw [if_neg (by simpa using hbw)]
     exact hS (hg.2 (by cases b<;>cases wt<;>simp_all))
  ·rename_i hb
   cases ht:jH all j with
   |none=>rw [ht]at hb;cases hb
   |some t=>
    rw [ht]at hb
    have hv:=hr.jaD hb
    have hy:yielded all a.tmps j=none:=by rw [qk,ht];simp [hv,Go.undef]
    rw [hwant,hy,if_neg (by simp)]
    exact hS hg
  ·cases hg
theorem uai (hT:zbA P T) (hd:all.toList.all (xl n)=true) (hE:∀(i:Nat) o,all[i]? =some o→∀ed∈o.after,Region.binds .any ed=true→ed.on<i) {Q:Exit→Act→World→Prop}:∀(fuel:Nat) (listed:Array Bool) (l:List Ent) (g:G) (s:St) (a:Act) (w:World),
 l.length=fuel→listed.size=all.size→Down all listed→(∀i,i<all.size→(listed.getD i true=false↔∃x∈l,x.i=i))→(∀x∈l,all[x.i]? =some x.o)→l.Pairwise (Two all)→(∀x∈l,x.r.nx≤e.nx∧x.B≤x.r.nx)→
 Tr P T all l s e→bab (jdB l e) δ g s a w→a.tmps.size=n→(∀g' a' w',bab (fun id=>e.nx≤id) δ g' e a' w'→a'.tmps.size=n→Step g s w g' e w'→Q .normal a' w')→
 wpAny P .any all Q fuel listed a w
 |0,listed,l,g,s,a,w,hl,hsz,hdn,hli,ho,hp,hnx,htr,hr,hn,hQ=>by
  have:l=[]:=List.eq_nil_of_length_eq_zero hl
  subst this
  refine⟨?_,hQ g a w ((hr.eqv htr).less fun id hid=> .inr hid) hn (Step.eqv htr.2)⟩
  rw [Region.ready,List.filter_eq_nil_iff]
  intro i hi
  have hi':=List.mem_range.1 hi
  have:listed.getD i true≠false:=fun h=>by
   obtain⟨x,hx,_⟩:=(hli i hi').1 h
   cases hx
  have:listed.getD i true=true:=by simpa using this
  simp [this]
 |fuel+1,listed,l,g,s,a,w,hl,hsz,hdn,hli,ho,hp,hnx,htr,hr,hn,hQ=>by
  have hlt:∀x∈l,x.i<all.size:=fun x hx=>(Array.getElem?_eq_some_iff.1 (ho x hx)).1
  refine⟨fun h0=> ?_,fun i hi=> ?_⟩
  ·
   cases l with
   |nil=>simp at hl
   |cons y l=>
    exfalso
    have hy:=ho y (by simp)
    have hyl:=hlt y (by simp)
    have:y.i∈Region.ready .any all listed:=by
     rw [Region.ready,List.mem_filter]
     refine⟨List.mem_range.2 hyl, ?_⟩
     have h1:listed.getD y.i true=false:=(hli y.i hyl).2 ⟨y,by simp,rfl⟩
     rw [h1,hy]
     simp only [Bool.not_false,Option.map_some,Option.getD_some,Bool.true_and,Array.all_eq_true_iff_forall_mem]
     intro ed hed
     by_cases hb:Region.binds .any ed=true
     ·have h2:=hE y.i y.o hy ed hed hb
      have h3:listed.getD ed.on true≠false:=fun h=>by
       obtain⟨z,hz,hzi⟩:=(hli ed.on (by omega)).1 h
       rcases List.mem_cons.1 hz with rfl|hz
       ·omega
       ·have:=(List.rel_of_pairwise_cons hp hz).1
        omega
      have h4:ed.on<listed.size:=by omega
      have h5:listed.getD ed.on true=true:=by simpa using h3
      have h6:listed.getD ed.on false=true:=by
       simp only [Array.getD,h4,dif_pos]at h5⊢
       exact h5
      simp [hb,h6]
     ·simp [hb]
    rw [h0]at this
    cases this
  ·rw [Region.ready,List.mem_filter]at hi
   obtain⟨hi1,hi2⟩:=hi
   have hi1':=List.mem_range.1 hi1
   simp only [Bool.and_eq_true,Bool.not_eq_true']at hi2
   obtain⟨hi3,hi4⟩:=hi2
   obtain⟨x,hx,rfl⟩:=(hli i hi1').1 hi3
   have hxo:=ho x hx
   rw [hxo]at hi4
   simp only [Option.map_some,Option.getD_some,Array.all_eq_true_iff_forall_mem]at hi4
   obtain⟨pre,post,rfl⟩:=List.append_of_mem hx
   have hpp:=List.pairwise_append.1 hp
   have hind:∀y∈pre,Ind all y x∨(cmB all y.o x.o=true∧y.r.nx=y.B):=fun y hy=>by
    obtain⟨h1,_,_,h2⟩:=hpp.2.2 y hy x (by simp)
    refine h2.resolve_left fun he=> ?_
    have hgo:∀ed∈x.o.after,Region.binds .any ed=true→listed.getD ed.on false=true:=fun ed hed hb=>by
     have:=hi4 ed hed
     rw [hb]at this
     simpa using this
    have h5:listed.getD y.i false=true:=by
     obtain⟨o,ed,ho',he',hb,h⟩:=he.inv
     rw [hxo]at ho';cases ho'
     rcases h with h|h
     ·rw [←h];exact hgo _ he' hb
     ·exact h.listed hdn (hgo _ he' hb)
    have h6:listed.getD y.i true=false:=(hli y.i (hlt y (by simp [hy]))).2 ⟨y,by simp [hy],rfl⟩
    have h7:y.i<listed.size:=by rw [hsz];exact hlt y (by simp [hy])
    simp only [Array.getD,h7,dif_pos]at h5 h6
    rw [h5]at h6
    cases h6
   obtain⟨hgx,pre',hsim,htr'⟩:=Tr.front (fun y hy=>(hind y hy).imp_right (·.1)) htr
   have hn1:∀y∈pre,∀id∈x.T,¬(y.B≤id∧id<y.r.nx):=fun y hy id hid=>by
    rcases hind y hy with h|h
    ·exact h.n1 id hid
    ·omega
   have hsim2:(pre'++post).map Ent.sh=(pre++post).map Ent.sh:=by rw [List.map_append,List.map_append,hsim]
   have hback:∀y'∈pre'++post,∃y∈pre++post,y'.sh=y.sh:=fun y' hy'=>zaC hsim2 hy'
   have hpost:∀y∈post,x.r.nx≤y.B:=fun y hy=>(List.rel_of_pairwise_cons hpp.2.1 hy).2.1
   have hpre:∀y∈pre,y.r.nx≤x.B:=fun y hy=>(hpp.2.2 y hy x (by simp)).2.1
   have hxnx:=hnx x (by simp)
   have hlow:=hgx.facts.2.2
   unfold wpOp
   rw [hxo]
   refine vaJ (F':=jdB (pre'++post) e) hT hgx (List.all_eq_true.1 hd x.o (by simpa using Array.mem_of_getElem? hxo)) hr hn (fun id h1 h2=> .inl ⟨x,by simp,h1,h2⟩) (fun id hid=> ?_) fun g' a' w' hr' hn' hst=> ?_
   ·rcases hid with⟨y',hy',h1,h2⟩|h1
    ·obtain⟨y,hy,hyy⟩:=hback y' hy'
     obtain⟨_,_,_,_,a5,a6⟩:=yU hyy
     rw [a5]at h1
     rw [a6]at h2
     rcases List.mem_append.1 hy with hy|hy
     ·have h3:=hpre y hy
      exact⟨.inl ⟨y,by simp [hy],h1,h2⟩, .inl (by omega),fun hm=>hn1 y hy id hm ⟨h1,h2⟩⟩
     ·have h3:=hpost y hy
      exact⟨.inl ⟨y,by simp [hy],h1,h2⟩, .inr (by omega),fun hm=>by have:=hlow id hm;omega⟩
    ·exact⟨.inr h1, .inr (by omega),fun hm=>by have:=hlow id hm;omega⟩
   ·have hlen':pre'.length=pre.length:=by simpa using congrArg List.length hsim
    refine uai hT hd hE fuel _ (pre'++post) g' _ a' w' (by simp at hl⊢;omega) (by simpa using hsz) ?_ (fun i hi=> ?_) (fun y' hy'=> ?_) ?_ (fun y' hy'=> ?_) htr' hr' hn'
     (fun g'' a'' w'' h1 h2 h3=>hQ g'' a'' w'' h1 h2 (hst.trans h3))
    ·intro i o hi ho' ed hed hb
     have hset:∀k:Nat,listed.getD k false=true→(listed.setIfInBounds x.i true).getD k false=true:=fun k hk=>by
      by_cases hkx:k=x.i
      ·subst hkx
       simp [Array.getD,hsz,hi1']
      ·rw [getD_set_ne false (fun h=>hkx h.symm)];exact hk
     refine hset _ ?_
     by_cases hix:i=x.i
     ·subst hix
      rw [hxo]at ho';cases ho'
      have:=hi4 ed hed
      rw [hb]at this
      simpa using this
     ·rw [getD_set_ne false (fun h=>hix h.symm)]at hi
      exact hdn i o hi ho' ed hed hb
    ·have hne:∀y∈pre++post,y.i≠x.i:=fun y hy=>by
      rcases List.mem_append.1 hy with hy|hy
      ·have:=(hpp.2.2 y hy x (by simp)).1;omega
      ·have:=(List.rel_of_pairwise_cons hpp.2.1 hy).1;omega
     by_cases hix:i=x.i
     ·subst hix
      have h7:x.i<listed.size:=by omega
      constructor
      ·intro h
       simp [Array.getD,h7]at h
      ·rintro⟨y',hy',hyi⟩
       obtain⟨y,hy,hyy⟩:=hback y' hy'
       exact absurd ((yU hyy).1.symm.trans hyi) (hne y hy)
     ·have:(listed.setIfInBounds x.i true).getD i true=listed.getD i true:=by
       have hix':x.i≠i:=fun h=>hix h.symm
       simp only [Array.getD,Array.size_setIfInBounds]
       split
       ·simp only [Array.getInternal_eq_getElem]
        exact Array.getElem_setIfInBounds_ne _ hix'
       ·rfl
      rw [this,hli i hi]
      constructor
      ·rintro⟨y,hy,hyi⟩
       have hy2:y∈pre++post:=by
        simp at hy⊢
        rcases hy with h|h|h
        ·exact .inl h
        ·subst h;exact absurd hyi.symm hix
        ·exact .inr h
       obtain⟨y',hy',hyy⟩:=zaC hsim2.symm hy2
       exact⟨y',hy',(yU hyy).1.symm.trans hyi⟩
      ·rintro⟨y',hy',hyi⟩
       obtain⟨y,hy,hyy⟩:=hback y' hy'
       exact⟨y,by simp at hy⊢;rcases hy with h|h<;>simp [h],(yU hyy).1.symm.trans hyi⟩
    ·obtain⟨y,hy,hyy⟩:=hback y' hy'
     obtain⟨a1,a2,_⟩:=yU hyy
     rw [a1,a2]
     exact ho y (by simp at hy⊢;rcases hy with h|h<;>simp [h])
    ·exact bbM (fun _ _ _ _ h1 h2 h3=>h3.sim h1 h2) hsim2 (hp.sublist (by simp))
    ·obtain⟨y,hy,hyy⟩:=hback y' hy'
     obtain⟨_,_,_,_,a5,a6⟩:=yU hyy
     rw [a5,a6]
     exact hnx y (by simp at hy⊢;rcases hy with h|h<;>simp [h])
end
end Dm
namespace Dm
open Go
section
variable {δ:List Deferred} {P:Program} {T:Tab} {all:Array Oper} {s s' s'' e:St} {n N:Nat}
def mem (n:Nat):List Nat→Bool
 |[]=>false
 |m::l=>if n=m then true else mem n l
def sub:List Nat→List Nat→Bool
 |[],_=>true
 |n::l,m=>if mem n m=true then sub l m else false
def apt:List Nat→List Nat→Bool
 |[],_=>true
 |n::l,m=>if mem n m=true then false else apt l m
def low (B:Nat):List Nat→Bool
 |[]=>true
 |n::l=>if n<B then low B l else false
def inR (T:List Nat) (B nx n:Nat):Bool:=if mem n T=true then true else if B≤n then(if n<nx then true else false)else false
def xcr (T:List Nat) (B nx:Nat):List Nat→Bool
 |[]=>true
 |n::l=>if inR T B nx n=true then xcr T B nx l else false
def gcE (B nx:Nat):List Nat→Bool
 |[]=>true
 |n::l=>if B≤n then(if n<nx then false else gcE B nx l)else gcE B nx l
def ins (n:Nat) (l:List Nat):List Nat:=if mem n l=true then l else n::l
def uni:List Nat→List Nat→List Nat
 |[],m=>m
 |n::l,m=>uni l (ins n m)
theorem mem_iff {n:Nat}:∀{l:List Nat},mem n l=true↔n∈l
 |[]=>by simp [mem]
 |m::l=>by
  rw [mem]
  by_cases h:n=m<;>simp [h,mem_iff]
theorem jbb {m:List Nat}:∀{l:List Nat},sub l m=true↔∀n∈l,n∈m
 |[]=>by simp [sub]
 |n::l=>by
  rw [sub]
  by_cases h:n∈m<;>simp [mem_iff,h,jbb]
theorem bah {m:List Nat}:∀{l:List Nat},apt l m=true↔∀n∈l,n∉m
 |[]=>by simp [apt]
 |n::l=>by
  rw [apt]
  by_cases h:n∈m<;>simp [mem_iff,h,bah]
theorem gbJ {B:Nat}:∀{l:List Nat},low B l=true↔∀n∈l,n<B
 |[]=>by simp [low]
 |n::l=>by
  rw [low]
  by_cases h:n<B<;>simp [h,gbJ]
theorem ka0 {T:List Nat} {B nx n:Nat}:inR T B nx n=true↔n∈T∨B≤n∧n<nx:=by
 unfold inR
 by_cases h:n∈T
 ·simp [mem_iff,h]
 ·by_cases h1:B≤n<;>by_cases h2:n<nx<;>simp [mem_iff,h,h1,h2]
theorem uaz {T:List Nat} {B nx:Nat}:∀{l:List Nat},xcr T B nx l=true↔∀n∈l,n∈T∨B≤n∧n<nx
 |[]=>by simp [xcr]
 |n::l=>by
  rw [xcr]
  by_cases h:inR T B nx n=true
  ·rw [if_pos h,uaz]
   simp [ka0.1 h]
  ·rw [if_neg h]
   have:¬_:=fun h'=>h (ka0.2 h')
   simp [this]
theorem baC {B nx:Nat}:∀{l:List Nat},gcE B nx l=true↔∀n∈l,¬(B≤n∧n<nx)
 |[]=>by simp [gcE]
 |n::l=>by
  rw [gcE]
  by_cases h1:B≤n<;>by_cases h2:n<nx<;>simp [h1,h2,baC]<;>omega
def qbK:List (Nat×D)→List Nat
 |[]=>[]
 |(_,d)::l=>xm d++qbK l
def zfb:Option Ob→List Nat
 |none=>[]
 |some o=>mob o
def cont (os:List (Nat×Ob)):List Nat→List Nat
 |[]=>[]
 |n::l=>zfb (lk n os)++cont os l
def clo (os:List (Nat×Ob)) (ids:List Nat):List Nat:=uni (cont os (uni (cont os ids) ids)) (uni (cont os ids) ids)
def vbb (T:List Nat):List (Nat×D)→Bool
 |[]=>true
 |(_,d)::l=>if sub (xm d) T=true then vbb T l else false
def bcD (T:List Nat):List (Nat×Ob)→Bool
 |[]=>true
 |(_,o)::l=>if sub (mob o) T=true then bcD T l else false
def ycK (T:List Nat) (B nx:Nat):List (Nat×Ob)→Bool
 |[]=>true
 |(m,o)::l=>if inR T B nx m=true then(if xcr T B nx (mob o)=true then ycK T B nx l else false)else false
def rvP (T:List Nat) (B nx:Nat) (tm:List (Nat×D)):Option Nat→Prop
 |none=>True
 |some t=>match lk t tm with
  |some d=>xcr T B nx (xm d)=true
  |none=>False
def gbT (W:List Nat) (os' os:List (Nat×Ob)):List Nat→Prop
 |[]=>True
 |n::l=>(if mem n W=true then True else lk n os'=lk n os)∧gbT W os' os l
def stOp:Op→Bool
 | .store .. =>true
 | .mapUpdate .. =>true
 | .insert .. =>true
 | .mapEntry .. =>true
 | .entryStore .. =>true
 | .next .. =>true
 | .call c=>match c.callee with
  | .builtin .append=>true
  | .builtin .copy=>true
  | .builtin .clear=>true
  |_=>false
 |_=>false
def gone (os:List (Nat×Ob)):List Nat→List Nat
 |[]=>[]
 |n::l=>match lk n os with
  |some _=>gone os l
  |none=>n::gone os l
def wOf (st:Bool) (T:List Nat) (os:List (Nat×Ob)):List Nat:=match st with
 |true=>T
 |false=>gone os T
theorem waz {T:List Nat}:∀{l:List (Nat×D)},vbb T l=true→∀t d,(t,d)∈l→∀id∈xm d,id∈T
 |[],_,_,_,h=>by cases h
 |(m,x)::l,h,t,d,hm=>by
  rw [vbb]at h
  split at h
  ·rename_i hs
   rcases List.mem_cons.1 hm with e|hm
   ·cases e;exact jbb.1 hs
   ·exact waz h t d hm
  ·cases h
theorem kaN {T:List Nat}:∀{l:List (Nat×Ob)},bcD T l=true→∀t d,(t,d)∈l→∀id∈mob d,id∈T
 |[],_,_,_,h=>by cases h
 |(m,x)::l,h,t,d,hm=>by
  rw [bcD]at h
  split at h
  ·rename_i hs
   rcases List.mem_cons.1 hm with e|hm
   ·cases e;exact jbb.1 hs
   ·exact kaN h t d hm
  ·cases h
theorem xaS {T:List Nat} {B nx:Nat}:∀{l:List (Nat×Ob)},ycK T B nx l=true→∀i o,(i,o)∈l→(i∈T∨B≤i∧i<nx)∧∀id∈mob o,id∈T∨B≤id∧id<nx
 |[],_,_,_,h=>by cases h
 |(m,x)::l,h,t,d,hm=>by
  rw [ycK]at h
  split at h
  ·rename_i h1
   split at h
   ·rename_i h2
    rcases List.mem_cons.1 hm with e|hm
    ·cases e;exact⟨ka0.1 h1,uaz.1 h2⟩
    ·exact xaS h t d hm
   ·cases h
  ·cases h
theorem jay {W:List Nat} {os' os:List (Nat×Ob)}:∀{l:List Nat},gbT W os' os l→∀id∈l,id∉W→lk id os'=lk id os
 |[],_,_,h,_=>by cases h
 |m::l,h,id,hm,hw=>by
  obtain⟨h1,h2⟩:=h
  rcases List.mem_cons.1 hm with e|hm
  ·subst e
   rw [if_neg (by simpa [mem_iff]using hw)]at h1
   exact h1
  ·exact jay h2 id hm hw
theorem xde {rd Tt:List Nat} {B:Nat} {d:Option Nat} {r:St} (h1:low B Tt=true) (h2:vbb Tt (uj rd s.tm)=true) (h3:bcD Tt (uj Tt s.os)=true) (h4:B≤r.nx) (h5:ycK Tt B r.nx r.os=true) (h6:rvP Tt B r.nx r.tm d):
 Fit rd Tt B d s r where
 low:=gbJ.1 h1
 vals t x ht hx:=waz h2 t x (yau (by rw [xg,if_pos ht];exact hx))
 obs i o hi ho:=kaN h3 i o (yau (by rw [xg,if_pos hi];exact ho))
 nx:=h4
 ros i o hi:=xaS h5 i o (yau hi)
 rv t ht:=by
  subst ht
  simp only [rvP]at h6
  cases hl:lk t r.tm with
  |none=>rw [hl]at h6;cases h6
  |some y=>
   rw [hl]at h6
   have:r.get t=y:=by simp [St.get,hl]
   rw [this]
   exact uaz.1 h6
def okX (x:Option (Prop×D)) (d:Option Nat) (s:St) (K:St→Prop):Prop:=match x with|some (_,v)=>K (s.put d v)|none=>False
def vcR (T:Tab) (f:D) (args:List D) (d:Option Nat) (s:St) (K:St→Prop):Prop:=match f with
 | .fn (.func g) fi ca=>ovm T g=false∧match look T s.os s.nx g (fi++args++ca)with
  |some (p,r,os',nx')=>p∧K (St.put ⟨s.tm,os',nx'⟩ d r)
  |none=>False
 |_=>False
def yz (P:Program) (T:Tab) (o:Oper) (s:St) (K:St→Prop):Prop:=
 match o.op with
 | .binOp op t x y _=>kb8 P op t (s.ev x) (s.ev y)=none∧faD op (s.ev x) (s.ev y)=none∧okP (bbZ P op t (s.ev x) (s.ev y)) o.dst s K
 | .call c=>match c.callee with
  | .builtin .len=>match c.args.toList,c.argTypes.toList with
   |[x],[t]=>(uk P t).isSome=true∧okX (zcB (s.ev x)) o.dst s K
   |_,_=>False
  | .builtin .append=>match c.args.toList,c.argTypes.toList with
   |[x,y],[t,u]=>qbm P s t u (s.ev x) (s.ev y)=none∧t=u∧okT (xbZ P s t o.dst (s.ev x) (s.ev y)) fun s'=>K (ybA P t (s.ev x) o.dst s')
   |_,_=>False
  | .value f=>vcR T (s.ev f) (c.args.toList.map s.ev) o.dst s K
  |_=>aop P T o s K
 | .next _ _=>False
 |_=>aop P T o s K
section
variable {K:St→Prop} {d:Option Nat}
theorem yy {x:Option D} (h:okD x d s K):∃r,okD x d s (fun z=>z=r)∧K r:=by
 cases x with
 |none=>cases h
 |some v=>exact⟨_,rfl,h⟩
theorem jak {x:Option (Prop×D)} (h:okP x d s K):∃r,okP x d s (fun z=>z=r)∧K r:=by
 cases x with
 |none=>cases h
 |some v=>exact⟨_,⟨h.1,rfl⟩,h.2⟩
theorem gbK {x:Option D} (h:okB x d s K):∃r,okB x d s (fun z=>z=r)∧K r:=by
 unfold okB at*
 cases x with
 |none=>cases h
 |some v=>
  simp only at*
  split at h
  ·rename_i hc;exact⟨_,by simp [hc],h⟩
  ·cases h
theorem kcE {x:Option (Nat×TypeId×List (List C))} (h:okV x d s K):∃r,okV x d s (fun z=>z=r)∧K r:=by
 cases x with
 |none=>cases h
 |some v=>exact⟨_,rfl,h⟩
theorem xa2 {x:Option St} (h:okS x K):∃r,okS x (fun z=>z=r)∧K r:=by
 cases x with
 |none=>cases h
 |some v=>exact⟨_,rfl,h⟩
theorem ybL {x:Option (Prop×St)} (h:okT x K):∃r,okT x (fun z=>z=r)∧K r:=by
 cases x with
 |none=>cases h
 |some v=>exact⟨_,⟨h.1,rfl⟩,h.2⟩
theorem zbL {x:Option (Prop×D×St)} (h:okQ x d K False):∃r,okQ x d (fun z=>z=r) False∧K r:=by
 cases x with
 |none=>cases h
 |some v=>exact⟨_,⟨h.1,rfl⟩,h.2⟩
theorem zcE {x:Option (St×D)} {d:Option Nat} {K:St→Prop} (h:okE x d K):∃r,okE x d (fun z=>z=r)∧K r:=by
 unfold okE at*
 split at h
 ·exact⟨_,rfl,h⟩
 ·cases h
theorem qcE {x:Option (Option D×D)} {ok:Bool} (h:okL x ok d s K):∃r,okL x ok d s (fun z=>z=r)∧K r:=by
 unfold okL at*
 split at h
 ·exact⟨_,rfl,h⟩
 ·exact⟨_,rfl,h⟩
 ·cases h
theorem xds {c x y:D} (h:pk c x y d s K):∃r,pk c x y d s (fun z=>z=r)∧K r:=by
 unfold pk at*
 split at h
 ·rename_i b
  cases b
  ·exact⟨s.put d y,by simp,h.2 rfl⟩
  ·exact⟨s.put d x,by simp,h.1 rfl⟩
 ·cases h
theorem jb8 {x:D} (h:ubp x d s K):∃r,ubp x d s (fun z=>z=r)∧K r:=by
 unfold ubp at*
 split at h
 ·exact⟨_,rfl,h⟩
 ·exact⟨_,rfl,h⟩
 ·exact⟨_,rfl,h⟩
 ·exact⟨_,rfl,h⟩
 ·cases h
theorem ybZ {o:Oper} (h:yz P T o s K):∃r,aop P T o s (fun z=>z=r)∧K r:=by
 unfold yz at h
 unfold aop at*
 cases ho:o.op with
 |binOp op t x y _=>
  rw [ho]at h
  obtain⟨h1,h2,h2'⟩:=h
  obtain⟨r,h3,h4⟩:=jak h2'
  exact⟨r,by simp only [h1,h2,okU,okA];exact h3,h4⟩
 |call c=>
  rw [ho]at h
  simp only at*
  cases hc:c.callee with
  |builtin b=>
   rw [hc]at h
   cases b with
   |len=>
    simp only at h⊢
    split at h
    ·obtain⟨h1,h2⟩:=h
     rename_i x t hx ht
     unfold okX at h2
     split at h2
     ·rename_i p v hl
      refine⟨s.put o.dst v, ?_,h2⟩
      rw [hx,ht]
      exact⟨h1,by rw [hl];exact fun _=>rfl⟩
     ·cases h2
    ·cases h
   |min=>exact yy h
   |max=>exact yy h
   |append=>
    simp only at h⊢
    split at h
    ·obtain⟨h0,h1,h2⟩:=h
     obtain⟨r,h3,h4⟩:=ybL h2
     rename_i x y t u hx ht
     simp only [hx,ht,h0,okM]
     refine⟨_,⟨h1, ?_⟩,h4⟩
     unfold okT at h3⊢
     split at h3
     ·exact⟨h3.1,by rw [h3.2]⟩
     ·cases h3
    ·cases h
   |cap=>
    simp only at h⊢
    split at h
    ·obtain⟨h1,h2⟩:=h
     rename_i x t hx ht
     obtain⟨r,h3,h4⟩:=jak h2
     exact⟨r,⟨h1,h3⟩,h4⟩
    ·cases h
   |clear=>
    simp only at h⊢
    split at h
    ·rename_i x t hx ht
     obtain⟨r,h3,h4⟩:=zbL h
     exact⟨r,h3,h4⟩
    ·cases h
   |copy=>
    simp only at h⊢
    split at h
    ·rename_i x y t u hx ht
     obtain⟨r,h3,h4⟩:=zbL h
     exact⟨r,h3,h4⟩
    ·cases h
   |_=>cases h
  |value f=>
   rw [hc]at h
   simp only [vcR]at h⊢
   split at h
   ·rename_i g fi ca hf
    obtain⟨h0,h⟩:=h
    split at h
    ·rename_i p r os' nx' hl
     refine⟨_, ?_,h.2⟩
     rw [hf]
     simp only [yaI,hl,h0]
     first|exact⟨h.1,rfl⟩|exact⟨h.1,trivial⟩
    ·cases h
   ·cases h
  |_=>rw [hc]at h;simp_all
 |move x=>rw [ho]at h;exact⟨_,rfl,h⟩
 |assign x=>rw [ho]at h;exact⟨_,rfl,h⟩
 |makeFunc f fi ca=>rw [ho]at h;exact⟨_,rfl,h⟩
 |pick c a b=>rw [ho]at h;exact xds h
 |alloc t=>rw [ho]at h;exact gbK h
 |box t x=>rw [ho]at h;exact gbK h
 |build t ps=>rw [ho]at h;exact yy h
 |buildSlice t m ps=>rw [ho]at h;exact kcE h
 |load t x=>rw [ho]at h;exact yy h
 |store t p x=>
  rw [ho]at h
  simp only at h⊢
  obtain⟨r,h1,h2⟩:=xa2 h
  cases hx:stD P s t (s.ev p) (s.ev x)with
  |none=>rw [hx]at h;cases h
  |some s1=>
   rw [hx]at h
   exact⟨_,rfl,h⟩
 |nilCheck x=>rw [ho]at h;exact jb8 h
 |unOp op t x=>rw [ho]at h;exact yy h
 |convert a b x=>rw [ho]at h;exact yy h
 |makeSlice t l c=>rw [ho]at h;exact ybL h
 |slice t x lo hi mx=>
  rw [ho]at h
  simp only [okQ,okF]at h⊢
  split at h
  ·split at h
   ·exact⟨_,⟨h.1,rfl⟩,h.2⟩
   ·cases h
  ·split at h
   ·exact⟨_,⟨h.1,rfl⟩,h.2⟩
   ·exact jak h
 |fieldAddr t x f=>rw [ho]at h;exact yy h
 |field t x f=>rw [ho]at h;exact yy h
 |indexAddr t x i=>rw [ho]at h;exact jak h
 |index t x i=>rw [ho]at h;exact jak h
 |extract x i=>rw [ho]at h;exact yy h
 |makeMap t r=>rw [ho]at h;exact xa2 h
 |lookup t x i ok=>rw [ho]at h;exact qcE h
 |mapUpdate t m k x=>
  rw [ho]at h
  show∃r,(okS (mpU P s t (s.ev m) (s.ev k) (s.ev x)) fun s'=>s'.put o.dst .skip=r)∧K r
  have h':okS (mpU P s t (s.ev m) (s.ev k) (s.ev x)) fun s'=>K (s'.put o.dst .skip):=h
  cases hx:mpU P s t (s.ev m) (s.ev k) (s.ev x)with
  |none=>rw [hx]at h';cases h'
  |some s1=>
   rw [hx]at h'
   exact⟨_,rfl,h'⟩
 |insert t m k x=>
  rw [ho]at h
  show∃r,(okS (mpU P s t (s.ev m) (s.ev k) (s.ev x)) fun s'=>s'.put o.dst .skip=r)∧K r
  have h':okS (mpU P s t (s.ev m) (s.ev k) (s.ev x)) fun s'=>K (s'.put o.dst .skip):=h
  cases hx:mpU P s t (s.ev m) (s.ev k) (s.ev x)with
  |none=>rw [hx]at h';cases h'
  |some s1=>
   rw [hx]at h'
   exact⟨_,rfl,h'⟩
 |mapEntry t m k=>rw [ho]at h;exact zcE h
 |entryStore t m i x=>
  rw [ho]at h
  show∃r,(okS (esU s (s.ev m) (s.ev i) (s.ev x)) fun s'=>s'.put o.dst .skip=r)∧K r
  have h':okS (esU s (s.ev m) (s.ev i) (s.ev x)) fun s'=>K (s'.put o.dst .skip):=h
  cases hx:esU s (s.ev m) (s.ev i) (s.ev x)with
  |none=>rw [hx]at h';cases h'
  |some s1=>
   rw [hx]at h'
   exact⟨_,rfl,h'⟩
 |range t x=>rw [ho]at h;exact xa2 h
 |next x str=>rw [ho]at h;exact h.elim
 |entry x=>rw [ho]at h;exact yy h
 |_=>rw [ho]at h;simp_all
end
end
end Dm
namespace Dm
open Go
section
variable {δ:List Deferred} {P:Program} {T:Tab} {all:Array Oper} {s s' s'' e:St} {n N:Nat} {K:St→Prop}
structure Ft where
 i:Nat
 T:List Nat
 W:List Nat
 B:Nat
 nx:Nat
def bnd:Ground→Bool
 | .textOnly _=>false
 | .gcOnly _=>false
 |_=>true
def zbp (y x:Ft):Bool:=if apt y.W x.T=true then(if apt x.W y.T=true then gcE y.B y.nx x.T else false)else false
def yP (m i:Nat):Bool:=if(m>>>i) % 2=1 then true else false
def jc8 (u:Nat) (x:Ft):List Ft→Prop
 |[]=>True
 |y::l=>(if(u>>>y.i) % 2=1 then True else zbp y x=true)∧jc8 u x l
def uh:List Nat→Nat
 |[]=>0
 |u::_=>u
def ut:List Nat→List Nat
 |[]=>[]
 |_::us=>us
def push (x:Ft) (l:List Ft):List Ft:=match x.T with
 |_::_=>x::l
 |[]=>if x.nx=x.B then l else x::l
def dxW (P:Program) (o:Oper) (u i:Nat) (acc:List Ft) (s:St) (Tt:List Nat) (r:St) (k:List Ft→St→Prop) (W:List Nat):Prop:=
 low s.nx Tt=true∧vbb Tt (uj (opT o) s.tm)=true∧bcD Tt (uj Tt s.os)=true∧s.nx≤r.nx∧ycK Tt s.nx r.nx r.os=true∧rvP Tt s.nx r.nx r.tm o.dst∧gbT W r.os s.os Tt∧
  jc8 u ⟨i,Tt,W,s.nx,r.nx⟩ acc∧k (push ⟨i,Tt,W,s.nx,r.nx⟩ acc) (s.mrg Tt o.dst r)
def wSl (u:Nat) (W:List Nat):List Nat:=if(u>>>100) % 2=1 then []else W
def dxR (P:Program) (o:Oper) (u i:Nat) (acc:List Ft) (s:St) (Tt:List Nat) (k:List Ft→St→Prop) (r:St):Prop:=dxW P o u i acc s Tt r k (wSl u (wOf (stOp o.op) Tt r.os))
def dxL (P:Program) (T:Tab) (o:Oper) (u i:Nat) (acc:List Ft) (s:St) (k:List Ft→St→Prop) (Tt:List Nat):Prop:=
 yz P T o (s.loc (opT o) Tt s.nx) (dxR P o u i acc s Tt k)
def dxE (P:Program) (T:Tab) (o:Oper) (u i:Nat) (acc:List Ft) (s:St) (k:List Ft→St→Prop):Prop:=
 dxL P T o u i acc s k (clo s.os (uni (qbK (uj (opT o) s.tm)) []))
def dx (P:Program) (T:Tab) (all:Array Oper):List Oper→List Nat→Nat→List Ft→(St→Prop)→St→Prop
 |[],_,_,_,K,s=>K s
 |o::rest,us,i,acc,K,s=>match o.guard with
  |none=>dxE P T o (uh us) i acc s fun acc' s'=>dx P T all rest (ut us) (i+1) acc' K s'
  |some (j,w)=>grd (jH all j) (s.gd (jH all j)) w (fun s=>dxE P T o (uh us) i acc s fun acc' s'=>dx P T all rest (ut us) (i+1) acc' K s') (fun s=>dx P T all rest (ut us) (i+1) acc K (s.put o.dst .skip)) s
def Ent.ft (x:Ent):Ft:=⟨x.i,x.T,x.W,x.B,x.r.nx⟩
theorem xaI {u:Nat} {x:Ft}:∀{l:List Ft},jc8 u x l→∀y∈l,zbp y x=true∨yP u y.i=true
 |[],_,_,h=>by cases h
 |z::l,h,y,hy=>by
  obtain⟨h1,h2⟩:=h
  rcases List.mem_cons.1 hy with rfl|hy
  ·split at h1
   ·rename_i hh;exact .inr (by rw [yP,if_pos hh])
   ·exact .inl h1
  ·exact xaI h2 y hy
theorem kbH {y x:Ft} (h1:y.T=[]) (h2:y.W=[]) (h3:y.nx=y.B):zbp y x=true:=by
 have ha:∀l:List Nat,apt l []=true:=fun l=>bah.2 (by simp)
 unfold zbp
 rw [h2,h1,if_pos (by rfl),if_pos (ha _),baC]
 intro n _
 omega
theorem ybp {y x:Ft} (h1:x.T=[]) (h2:x.W=[]):zbp y x=true:=by
 have ha:∀l:List Nat,apt l []=true:=fun l=>bah.2 (by simp)
 unfold zbp
 rw [h2,h1,if_pos (ha _),if_pos (by rfl)]
 rfl
theorem vcH {d:Option Nat} {v:D} (h:Eqv s s'):Eqv (s.put d v) (s'.put d v):=by
 cases d with
 |none=>exact h
 |some t=>exact⟨fun u=>by simp only [St.put,zb,h.1],h.2⟩
theorem wcP {b:Bool} {os:List (Nat×Ob)}:wOf b [] os=[]:=by cases b<;>rfl
theorem xaL {y x:Ft} (h:zbp y x=true):(∀id∈y.W,id∉x.T)∧(∀id∈x.W,id∉y.T)∧∀id∈x.T,¬(y.B≤id∧id<y.nx):=by
 unfold zbp at h
 split at h
 ·rename_i h1
  split at h
  ·rename_i h2;exact⟨bah.1 h1,bah.1 h2,baC.1 h⟩
  ·cases h
 ·cases h
structure Out (P:Program) (T:Tab) (all:Array Oper) (ops:List Oper) (us:List Nat) (i:Nat) (acc:List Ft) (s:St) (l:List Ent) (e:St):Prop where
 tr:Tr P T all l s e
 kbA:∀j o,ops[j]? =some o→∃x∈l,x.i=i+j
 of:∀x∈l,∃j,x.i=i+j∧ops[j]? =some x.o
 nx:s.nx≤e.nx
 lo:∀x∈l,s.nx≤x.B∧x.B≤x.r.nx∧x.r.nx≤e.nx
 two:l.Pairwise fun y x=>y.i<x.i∧y.r.nx≤x.B∧y.B≤y.r.nx∧(zbp y.ft x.ft=true∨yP (us.getD (x.i - i) 0) y.i=true)
 acc:∀y∈acc,∀x∈l,zbp y x.ft=true∨yP (us.getD (x.i - i) 0) y.i=true
theorem ucH (s:St) (d:Option Nat):Eqv (s.put d .skip) (s.mrg [] d ((⟨[],[],s.nx⟩:St).put d .skip)):=
 Sk.eqv (x:=⟨0,⟨d, .move (.tmp 0),0, "", #[],none⟩,[],[],s.nx,(⟨[],[],s.nx⟩:St).put d .skip⟩) ⟨rfl,rfl⟩
theorem vct {o:Oper} {u i:Nat} {acc:List Ft} {k:List Ft→St→Prop} (h:dxE P T o u i acc s k):
 ∃x:Ent,x.i=i∧x.o=o∧x.B=s.nx∧Ex P T x s∧s.nx≤x.r.nx∧(∀y∈acc,zbp y x.ft=true∨yP u y.i=true)∧(x.T=[]→x.W=[])∧k (push x.ft acc) (x.app s):=by
 unfold dxE dxL at h
 generalize clo s.os (uni (qbK (uj (opT o) s.tm)) [])=Tt at h
 obtain⟨r,h1,h2⟩:=ybZ h
 unfold dxR at h2
 have hW:Tt=[]→wSl u (wOf (stOp o.op) Tt r.os)=[]:=fun h=>by subst h;rw [wcP];unfold wSl;split<;>rfl
 generalize wSl u (wOf (stOp o.op) Tt r.os)=W at h2 hW
 obtain⟨h3,h4,h5,h6,h7,h8,h9,h10,h11⟩:=h2
 refine⟨⟨i,o,Tt,W,s.nx,r⟩,rfl,rfl,rfl,⟨h1,xde h3 h4 h5 h6 h7 h8,jay h9,fun t ht=> ?_⟩,h6,xaI h10,hW,h11⟩
 have ht':o.dst=some t:=ht
 rw [ht']at h8
 simp only [rvP]at h8
 cases hl:lk t r.tm with
 |none=>rw [hl]at h8;cases h8
 |some d=>rfl
theorem zca {x y:Ft} {l:List Ft} (h:y∈l):y∈push x l:=by
 unfold push
 split
 ·exact List.mem_cons_of_mem _ h
 ·split
  ·exact h
  ·exact List.mem_cons_of_mem _ h
theorem wbM {x:Ft} {l:List Ft}:x∈push x l∨(x.T=[]∧x.nx=x.B):=by
 unfold push
 split
 ·exact .inl (by simp)
 ·rename_i h
  split
  ·rename_i h';exact .inr ⟨h,h'⟩
  ·exact .inl (by simp)
theorem gbW {us:List Nat} {k:Nat}:(ut us).getD k 0=us.getD (k+1) 0:=by cases us<;>rfl
theorem kcM {us:List Nat}:uh us=us.getD 0 0:=by cases us<;>rfl
theorem zbh {o:Oper} {rest:List Oper} {us:List Nat} {i:Nat} {acc acc':List Ft} {x:Ent} {s1:St} {l:List Ent} (h1:x.i=i) (h2:x.o=o) (hg:Good P T all x s) (hB:x.B=s.nx) (hnx:s.nx≤x.r.nx)
 (hacc:∀y∈acc,zbp y x.ft=true∨yP (uh us) y.i=true) (ho:Out P T all rest (ut us) (i+1) acc' s1 l e) (he:Eqv s1 (x.app s)) (hn1:s1.nx=x.r.nx) (hsub:∀y∈acc,y∈acc')
 (hself:x.ft∈acc'∨(x.T=[]∧x.W=[]∧x.r.nx=x.B)):Out P T all (o::rest) us i acc s (x::l) e where
 tr:=⟨hg,ho.tr.eqv he⟩
 kbA j o' hj:=by
  cases j with
  |zero=>exact⟨x,by simp,by omega⟩
  |succ j=>
   obtain⟨y,hy,hyi⟩:=ho.kbA j o' (by simpa using hj)
   exact⟨y,by simp [hy],by omega⟩
 of y hy:=by
  rcases List.mem_cons.1 hy with rfl|hy
  ·exact⟨0,by omega,by simp [h2]⟩
  ·obtain⟨j,hj1,hj2⟩:=ho.of y hy
   exact⟨j+1,by omega,by simpa using hj2⟩
 nx:=by have:=ho.nx;omega
 lo y hy:=by
  have h3:=ho.nx
  rcases List.mem_cons.1 hy with rfl|hy
  ·exact⟨by omega,by omega,by omega⟩
  ·have:=ho.lo y hy
   omega
 two:=by
  have hus:∀y∈l,(ut us).getD (y.i - (i+1)) 0=us.getD (y.i - i) 0:=fun y hy=>by
   obtain⟨j,hj1,_⟩:=ho.of y hy
   rw [gbW,show y.i - (i+1)+1=y.i - i from by omega]
  refine List.pairwise_cons.2 ⟨fun y hy=> ?_,ho.two.imp_of_mem fun{z y} _ hy h=>⟨h.1,h.2.1,h.2.2.1,by rw [←hus y hy];exact h.2.2.2⟩⟩
  obtain⟨j,hj1,_⟩:=ho.of y hy
  have h3:=ho.lo y hy
  refine⟨by omega,by omega,by omega, ?_⟩
  rcases hself with h4|⟨h4,h5,h6⟩
  ·rw [←hus y hy];exact ho.acc _ h4 y hy
  ·exact .inl (kbH h4 h5 h6)
 acc y hy z hz:=by
  rcases List.mem_cons.1 hz with rfl|hz
  ·rw [h1,Nat.sub_self,←kcM];exact hacc y hy
  ·obtain⟨j,hj1,_⟩:=ho.of z hz
   have:=ho.acc y (hsub y hy) z hz
   rwa [gbW,show z.i - (i+1)+1=z.i - i from by omega]at this
theorem ubd:∀(ops:List Oper) (us:List Nat) (i:Nat) (acc:List Ft) (s:St),dx P T all ops us i acc K s→∃l e,K e∧Out P T all ops us i acc s l e
 |[],us,i,acc,s,h=>⟨[],s,h,⟨⟨fun _=>rfl,fun _=>rfl⟩,fun j o h=>by simp at h,fun x h=>(by cases h),Nat.le_refl _,fun x h=>(by cases h), .nil,fun y _ x h=>(by cases h)⟩⟩
 |o::rest,us,i,acc,s,h=>by
  have hexec:∀s1:St,s1.nx=s.nx→Eqv s1 s→dxE P T o (uh us) i acc s1 (fun acc' s'=>dx P T all rest (ut us) (i+1) acc' K s')→(∀x:Ent,x.o=o→Ex P T x s→Good P T all x s)→
   ∃l e,K e∧Out P T all (o::rest) us i acc s l e:=fun s1 hn1 he h hgood=>by
   obtain⟨x,h1,h2,h3,h4,h5,h6,h7,h8⟩:=vct h
   obtain⟨l,e,h9,h10⟩:=ubd rest (ut us) (i+1) _ _ h8
   have hx:Ex P T x s:=h4.of (fun t _=>he.1 t) (fun i _=>he.2 i)
   refine⟨x::l,e,h9,zbh h1 h2 (hgood x h2 hx) (by omega) (by omega) h6 h10 he.app rfl (fun y hy=>zca hy) ?_⟩
   rcases wbM (x:=x.ft) (l:=acc)with h|⟨h,h'⟩
   ·exact .inl h
   ·exact .inr ⟨h,h7 h,h'⟩
  have hskip:∀s1:St,s1.nx=s.nx→Eqv s1 s→dx P T all rest (ut us) (i+1) acc K (s1.put o.dst .skip)→(∀x:Ent,x.o=o→Sk x→Good P T all x s)→∃l e,K e∧Out P T all (o::rest) us i acc s l e:=fun s1 hn1 he h hgood=>by
   obtain⟨l,e,h9,h10⟩:=ubd rest (ut us) (i+1) _ _ h
   have hput:∀s:St,(s.put o.dst .skip).nx=s.nx:=fun s=>by cases o.dst<;>rfl
   exact⟨⟨i,o,[],[],s.nx,(⟨[],[],s.nx⟩:St).put o.dst .skip⟩::l,e,h9,zbh rfl rfl (hgood _ rfl ⟨rfl,rfl⟩) rfl (by simp [hput]) (fun y hy=> .inl (ybp rfl rfl)) h10 ((vcH he).trans (ucH s o.dst)) (by simp [hput,hn1]) (fun y hy=>hy) (.inr ⟨rfl,rfl,by simp [hput]⟩)⟩
  rw [dx]at h
  split at h
  ·rename_i hg
   exact hexec s rfl ⟨fun _=>rfl,fun _=>rfl⟩ h fun x hx hE=>by unfold Good;rw [hx,hg];exact hE
  ·rename_i j w hg
   unfold grd at h
   generalize hv:s.gd (jH all j)=v at h
   split at h
   ·rename_i b
    have hrep:∀w',b=w'→Eqv (s.rep (jH all j) (.bool w')) s:=fun w' hw=>by
     subst hw
     cases ht:jH all j with
     |none=>exact⟨fun _=>rfl,fun _=>rfl⟩
     |some t=>
      refine⟨fun u=> ?_,fun _=>rfl⟩
      rw [ht]at hv
      simp only [St.rep,zak]
      split
      ·rename_i hc
       obtain⟨y,hy⟩:=Option.isSome_iff_exists.1 hc.2
       have:s.get t=y:=by simp [St.get,hy]
       rw [hc.1,hy,←this]
       exact congrArg _ hv.symm
      ·rfl
    have hrnx:∀d,(s.rep (jH all j) d).nx=s.nx:=fun d=>by cases jH all j<;>rfl
    by_cases hb:b=w
    ·refine hexec _ (hrnx _) (hrep w hb) (h.1 hb) fun x hx hE=> ?_
     unfold Good
     rw [hx,hg]
     simp only [hv]
     exact⟨fun _=>hE,fun h=>by rw [hb]at h;cases w<;>cases h⟩
    ·have hb':b= !w:=by cases b<;>cases w<;>simp_all
     refine hskip _ (hrnx _) (hrep _ hb') (h.2 hb') fun x hx hS=> ?_
     unfold Good
     rw [hx,hg]
     simp only [hv]
     exact⟨fun h=>absurd h hb,fun _=>hS⟩
   ·refine hskip s rfl ⟨fun _=>rfl,fun _=>rfl⟩ h fun x hx hS=> ?_
    unfold Good
    rw [hx,hg]
    simp only [hv]
    exact hS
   ·cases h
def ucR (As:List Nat):List Edge→Nat
 |[]=>0
 |e::l=>match bnd e.ground with
  |true=>((1<<<e.on)|||As.getD e.on 0)|||ucR As l
  |false=>ucR As l
def xcn (all:Array Oper):Nat→List (Nat×Oper)→List Nat→List Oper→List Nat→Bool
 |_,_,_,[],_=>true
 |_,_,_,_::_,[]=>false
 |i,pre,As,o::rest,u::us=>Nat.beq u (ucR As o.after.toList)&&(o.after.toList.all fun ed=> !bnd ed.ground||Nat.blt ed.on i)&&(pre.all fun p=>yP u p.1||p.2.apart all o)&&xcn all (i+1) ((i,o)::pre) (As++[u]) rest us
theorem bbB {a b i:Nat} (h:yP (a|||b) i=true):yP a i=true∨yP b i=true:=by
 have e:∀m,yP m i=m.testBit i:=fun m=>by
  rw [Nat.testBit_eq_decide_div_mod_eq,yP,Nat.shiftRight_eq_div_pow]
  by_cases h:m / 2^i % 2=1<;>simp [h]
 rw [e,Nat.testBit_or,Bool.or_eq_true]at h
 rw [e,e]
 exact h
theorem zb0 {a i:Nat} (h:yP (1<<<a) i=true):a=i:=by
 unfold yP at h
 split at h
 ·rename_i h1
  rw [Nat.one_shiftLeft,Nat.shiftRight_eq_div_pow,←decide_eq_true_eq (p:=_=1),←Nat.testBit_eq_decide_div_mod_eq,Nat.testBit_two_pow]at h1
  simpa using h1
 ·cases h
theorem zS {i:Nat}:yP 0 i=false:=by simp [yP]
theorem baI {ed:Edge}:Region.binds .any ed=bnd ed.ground:=by
 obtain⟨on,gr⟩:=ed
 cases gr<;>rfl
theorem uah {o:Oper} {i:Nat} (ho:all[i]? =some o) {As:List Nat} (hA:∀j p,yP (As.getD j 0) p=true→Anc all p j):∀{l:List Edge},(∀ed∈l,ed∈o.after)→∀p,yP (ucR As l) p=true→Anc all p i
 |[],_,p,h=>by rw [ucR,zS]at h;cases h
 |e::l,hl,p,h=>by
  rw [ucR]at h
  split at h
  ·rename_i hb
   have hb':Region.binds .any e=true:=by rw [baI];exact hb
   rcases bbB h with h|h
   ·rcases bbB h with h|h
    ·have:=zb0 h
     subst this
     exact .one ho (hl e (by simp)) hb'
    ·exact .more ho (hl e (by simp)) hb' (hA _ _ h)
   ·exact uah ho hA (fun ed hed=>hl ed (by simp [hed])) p h
  ·exact uah ho hA (fun ed hed=>hl ed (by simp [hed])) p h
theorem wak:∀{ops:List Oper} {i:Nat} {pre:List (Nat×Oper)} {As us:List Nat},xcn all i pre As ops us=true→As.length=i→(∀j p,yP (As.getD j 0) p=true→Anc all p j)→(∀j:Nat,ops[j]? =all[i+j]?)→
 (∀(j:Nat) (o:Oper),ops[j]? =some o→∀ed∈o.after,Region.binds .any ed=true→ed.on<i+j)∧(∀p∈pre,∀(j:Nat) (o:Oper),ops[j]? =some o→yP (us.getD j 0) p.1=true∨p.2.apart all o=true)∧
 (∀(j k:Nat) (o o':Oper),j<k→ops[j]? =some o→ops[k]? =some o'→yP (us.getD k 0) (i+j)=true∨o.apart all o'=true)∧∀(j:Nat) (o:Oper),ops[j]? =some o→∀p,yP (us.getD j 0) p=true→Anc all p (i+j)
 |[],_,_,_,_,_,_,_,_=>⟨fun j o h=>by simp at h,fun p _ j o h=>by simp at h,fun j k o o' _ h=>by simp at h,fun j o h=>by simp at h⟩
 |o::rest,i,pre,As,[],h,_,_,_=>by simp [xcn]at h
 |o::rest,i,pre,As,u::us,h,hl,hA,hops=>by
  simp only [xcn,Bool.and_eq_true]at h
  obtain⟨⟨⟨h0,h1⟩,h2⟩,h3⟩:=h
  have ho:all[i]? =some o:=by rw [←Nat.add_zero i,←hops 0];rfl
  have hu:∀p,yP u p=true→Anc all p i:=fun p hp=>uah ho hA (l:=o.after.toList) (fun ed hed=>by simpa using hed) p (by rw [←Nat.eq_of_beq_eq_true h0];exact hp)
  have hA':∀j p,yP ((As++[u]).getD j 0) p=true→Anc all p j:=fun j p hp=>by
   rw [List.getD_eq_getElem?_getD,List.getElem?_append]at hp
   split at hp
   ·exact hA j p (by rw [List.getD_eq_getElem?_getD];exact hp)
   ·rename_i hj
    by_cases hji:j=i
    ·subst hji
     rw [←hl,Nat.sub_self]at hp
     rw [←hl]
     exact hl▸hu p (by simpa using hp)
    ·rw [List.getElem?_eq_none (by simp;omega)]at hp
     simp [zS]at hp
  obtain⟨h4,h5,h6,h7⟩:=wak h3 (by simp [hl]) hA' (fun j=>by have:=hops (j+1);simpa [Nat.add_assoc,Nat.add_comm 1 j]using this)
  refine⟨fun j o' hj ed hed hb=> ?_,fun p hp j o' hj=> ?_,fun j k o1 o2 hjk hj hk=> ?_,fun j o' hj p hp=> ?_⟩
  ·cases j with
   |zero=>
    obtain rfl:o=o':=by simpa using hj
    have h7:=List.all_eq_true.1 h1 ed (by simpa using hed)
    rw [←baI,hb]at h7
    simp only [Bool.not_true,Bool.false_or,Nat.blt_eq]at h7
    omega
   |succ j=>
    have:=h4 j o' (by simpa using hj) ed hed hb
    omega
  ·cases j with
   |zero=>
    obtain rfl:o=o':=by simpa using hj
    have:=List.all_eq_true.1 h2 p hp
    simpa using this
   |succ j=>exact h5 p (by simp [hp]) j o' (by simpa using hj)
  ·cases k with
   |zero=>omega
   |succ k=>
    cases j with
    |zero=>
     obtain rfl:o=o1:=by simpa using hj
     exact h5 (i,o) (by simp) k o2 (by simpa using hk)
    |succ j=>
     have:=h6 j k o1 o2 (by omega) (by simpa using hj) (by simpa using hk)
     rwa [show i+1+j=i+(j+1)from by omega]at this
  ·cases j with
   |zero=>exact hu p (by simpa using hp)
   |succ j=>
    have:=h7 j o' (by simpa using hj) p (by simpa using hp)
    rwa [show i+1+j=i+(j+1)from by omega]at this
def beO (all:Array Oper) (us us':List Nat):Bool:=(List.range all.size).all fun k=>(List.range k).all fun j=> !yP (us'.getD k 0) j||(yP (us.getD k 0) j||match all[j]?,all[k]? with
 |some y,some x=>cmB all y x
 |_,_=>false)
theorem jbM {us us':List Nat} (h:beO all us us'=true) {j k:Nat} {y x:Oper} (hjk:j<k) (hy:all[j]? =some y) (hx:all[k]? =some x) (hb:yP (us'.getD k 0) j=true):yP (us.getD k 0) j=true∨cmB all y x=true:=by
 have hk:k<all.size:=(Array.getElem?_eq_some_iff.1 hx).1
 have h1:=List.all_eq_true.1 (List.all_eq_true.1 h k (List.mem_range.2 hk)) j (List.mem_range.2 hjk)
 rw [hb,hy,hx]at h1
 simpa using h1
theorem xb.veQ (us us':List Nat) (hT:za P T) {i:Nat} {ops:Array Oper} {Q:Exit→St→Prop} (hm:P.follows .mixedOrders=true) (hB:xcn ops 0 [] [] ops.toList us=true) (hC:beO ops us us'=true) (hd:ops.toList.all (xl n)=true)
 (h:dx P T ops ops.toList us' 0 [] (Q .normal) s):xb P n N i ops Q s:=by
 intro δ g a w hr hn
 obtain⟨l,e,hK,ho⟩:=ubd _ _ _ _ _ h
 obtain⟨hp1,_,hp3,hp4⟩:=wak hB rfl (fun j p h=>by simp [zS]at h) (fun j=>by simp)
 have hof:∀x∈l,ops[x.i]? =some x.o:=fun x hx=>by
  obtain⟨j,h1,h2⟩:=ho.of x hx
  have:x.i=j:=by omega
  rw [this]
  simpa using h2
 have hCC:Ext w {w with drawn:=w.drawn+1}:=⟨Nat.le_refl _,fun _ _=>rfl,rfl,rfl,rfl,Nat.le_succ _⟩
 obtain⟨h6,h7⟩:=hr.o.grow hCC (I:=g.I) (fun b hb=>hb) (fun b _ hb=>hb) (hr.o.cel.same fun b hb=>hCC.2.1 b (hr.o.imm b hb).1)
 have hr':Rel δ (g.imm g.I) s a {w with drawn:=w.drawn+1}:=hr.of h6 h7.tm rfl
 have hlen:l.length=ops.size:=by
  have hnd:(l.map (·.i)).Pairwise (· < ·):=(List.pairwise_map).2 (ho.two.imp fun h=>h.1)
  have h1:l.map (·.i)=List.range ops.size:=by
   refine List.Perm.eq_of_pairwise (le:=(· < ·)) (fun a b _ _ h h'=>by omega) hnd List.pairwise_lt_range ?_
   refine(List.perm_ext_iff_of_nodup (hnd.imp fun h=>Nat.ne_of_lt h) List.nodup_range).2 fun k=> ?_
   rw [List.mem_map,List.mem_range]
   constructor
   ·rintro⟨x,hx,rfl⟩
    exact(Array.getElem?_eq_some_iff.1 (hof x hx)).1
   ·intro hk
    obtain⟨x,hx,hxi⟩:=ho.kbA k ops[k] (by simp [hk])
    exact⟨x,hx,by omega⟩
  have h2:=congrArg List.length h1
  simpa using h2
 refine wp_region_any hm (uai (e:=e) hT.toS hd (fun i o hi ed hed hb=> ?_) ops.size _ l _ s a _ hlen (by simp) (fun i o hi=> ?_) (fun i hi=> ?_) hof ?_ (fun x hx=>⟨(ho.lo x hx).2.2,(ho.lo x hx).2.1⟩) ho.tr (hr'.toP.less fun id hid=> ?_) hn fun g' a' w' h1 h2 h3=> ?_)
 ·have:=hp1 i o (by simpa using hi) ed hed hb
  omega
 ·by_cases hsz:i<ops.size<;>simp [Array.getD,hsz]at hi
 ·constructor
  ·intro _
   obtain⟨x,hx,hxi⟩:=ho.kbA i ops[i] (by simp [hi])
   exact⟨x,hx,by omega⟩
  ·intro _
   simp [Array.getD,hi]
 ·refine ho.two.imp_of_mem fun{y x} hy hx h=>⟨h.1,h.2.1,h.2.2.1, ?_⟩
  rw [Nat.sub_zero]at h
  have h9:=hp3 y.i x.i y.o x.o h.1 (by simpa using hof y hy) (by simpa using hof x hx)
  rw [Nat.zero_add]at h9
  by_cases hed:yP (us.getD x.i 0) y.i=true
  ·left
   have:=hp4 x.i x.o (by simpa using hof x hx) y.i hed
   rwa [Nat.zero_add]at this
  ·right
   rcases h.2.2.2 with h8|h8
   ·left
    have h8:=xaL h8
    exact⟨h9.resolve_left hed,h8.1,h8.2.1,h8.2.2,h.2.1,h.2.2.1⟩
   ·right
    have h10:=(jbM hC h.1 (hof y hy) (hof x hx) h8).resolve_left hed
    obtain⟨s',hg⟩:=ho.tr.good y hy
    exact⟨h10,wbJ rfl h10 hg⟩
 ·rcases hid with⟨x,hx,h1,h2⟩|h1
  ·have:=ho.lo x hx;omega
  ·have:=ho.nx;omega
 ·refine⟨g',e,hK,h1.toR fun id hid=>hid,h2, ?_⟩
  have h10:Step g s w (g.imm g.I) s {w with drawn:=w.drawn+1}:=h7.tm
  exact(h10.trans h3).toN
theorem xb.run (us:List Nat) (hT:za P T) {i:Nat} {ops:Array Oper} {Q:Exit→St→Prop} (hm:P.follows .mixedOrders=true) (hB:xcn ops 0 [] [] ops.toList us=true) (hd:ops.toList.all (xl n)=true)
 (h:dx P T ops ops.toList us 0 [] (Q .normal) s):xb P n N i ops Q s:=by
 refine xb.veQ us us hT hm hB ?_ hd h
 unfold beO
 rw [List.all_eq_true]
 intro k _
 rw [List.all_eq_true]
 intro j _
 cases yP (us.getD k 0) j<;>simp
end
end Dm
namespace Dm
open Go
section
variable {P:Program} {T:Tab} {all:Array Oper} {rest:List Oper} {s s' r:St} {K:St→Prop} {d:Option Nat} {ty:TypeId} {pos:String} {af:Array Edge} {gd:Option (Nat×Bool)} {i i':Nat} {acc acc':List Ft} {Tt W:List Nat}
attribute [go_sem] mem sub apt low inR xcr gcE ins uni wj mob qbK zfb cont clo vbb bcD ycK rvP gbT gone wOf wSl zbp jc8 uh ut
@[go_sem] theorem xdP {a b:Nat}:xm (.ref a b)=[a]:=by rw [xm]
@[go_sem] theorem udl {a b c e f:Nat}:xm (.eref a b c e f)=[a]:=by rw [xm]
@[go_sem] theorem jdP {a b:Nat}:xm (.vec a b)=[a]:=by rw [xm]
@[go_sem] theorem xdm {a b c e f:Nat}:xm (.view a b c e f)=[a]:=by rw [xm]
@[go_sem] theorem veI {a:Nat}:xm (.mp a)=[a]:=by rw [xm]
@[go_sem] theorem bdl:xm .nilm=[]:=by simp [xm]
@[go_sem] theorem gcY {v:IntKind} {l:List (Nat×Int)}:wj (l.map fun x=>D.int v x.2)=[]:=by
 induction l with
 |nil=>rfl
 |cons x l ih=>rw [List.map_cons,wj,ih];simp [xm]
@[go_sem] theorem keI {f:Fn} {l m:List D}:xm (.fn f l m)=wj l++wj m:=by rw [xm]
@[go_sem] theorem wdO {l:List D}:xm (.agg l)=wj l:=by rw [xm]
@[go_sem] theorem qdP {l:List D}:xm (.tup l)=wj l:=by rw [xm]
@[go_sem] theorem bfa {x:C}:xm (.c x)=[]:=by simp [xm]
@[go_sem] theorem bcY:xm .undef=[]:=by simp [xm]
@[go_sem] theorem ydm:xm .skip=[]:=by simp [xm]
@[go_sem] theorem weI {l:List C}:xm (.rp l)=[]:=by simp [xm]
@[go_sem] theorem zdm:xm .nilp=[]:=by simp [xm]
@[go_sem] theorem gdl:xm .nilf=[]:=by simp [xm]
@[go_sem] theorem ydP:xm .nil=[]:=by simp [xm]
@[go_sem] theorem udO {l:List (List C)}:xm (.csl l)=[]:=by simp [xm]
def cns {α:Type} (k:Nat) (x:Option α) (r:List (Nat×α)):List (Nat×α):=match x with
 |some x=>(k,x)::r
 |none=>r
@[go_sem] theorem yds {α:Type} {l:List (Nat×α)}:uj [] l=[]:=rfl
@[go_sem] theorem xc2 {α:Type} {k:Nat} {ks:List Nat} {l:List (Nat×α)}:uj (k::ks) l=cns k (lk k l) (uj ks l):=rfl
@[go_sem] theorem zdG {α:Type} {k:Nat} {x:α} {r:List (Nat×α)}:cns k (some x) r=(k,x)::r:=rfl
@[go_sem] theorem bdF {α:Type} {k:Nat} {r:List (Nat×α)}:cns k none r=r:=rfl
@[go_sem] theorem ue8 {rd:List Nat} {B:Nat} {tm:List (Nat×D)} {os:List (Nat×Ob)} {nx:Nat}:St.loc rd Tt B ⟨tm,os,nx⟩=⟨uj rd tm,uj Tt os,B⟩:=rfl
def wo {α:Type} (T:List Nat):List (Nat×α)→List (Nat×α)
 |[]=>[]
 |(m,x)::l=>if mem m T=true then wo T l else(m,x)::wo T l
theorem ycQ {α:Type} {T:List Nat}:∀{l:List (Nat×α)},(l.filter fun p=> !T.contains p.1)=wo T l
 |[]=>rfl
 |(m,x)::l=>by
  rw [wo,List.filter_cons,ycQ]
  by_cases h:m∈T<;>simp [h,mem_iff]
attribute [go_sem] wo
@[go_sem] theorem xfb {t:Nat} {tm tm':List (Nat×D)} {os os':List (Nat×Ob)} {nx nx':Nat}:St.mrg ⟨tm,os,nx⟩ Tt (some t) ⟨tm',os',nx'⟩=⟨(t,(lk t tm').getD .undef)::tm,os'++wo Tt os,nx'⟩:=by
 rw [←ycQ];rfl
@[go_sem] theorem qfb {tm tm':List (Nat×D)} {os os':List (Nat×Ob)} {nx nx':Nat}:St.mrg ⟨tm,os,nx⟩ Tt none ⟨tm',os',nx'⟩=⟨tm,os'++wo Tt os,nx'⟩:=by
 rw [←ycQ];rfl
def tO:List Operand→List Nat
 |[]=>[]
 | .tmp t::l=>t::tO l
 | .const _::l=>tO l
 | .global _::l=>tO l
 | .func _::l=>tO l
attribute [go_sem] tO
theorem xbV:∀l:List Operand,(l.filterMap fun| .tmp t=>some t|_=>none)=tO l
 |[]=>rfl
 | .tmp t::l=>congrArg (t:: ·) (xbV l)
 | .const _::l=>xbV l
 | .global _::l=>xbV l
 | .func _::l=>xbV l
theorem zg {o:Oper}:opT o=tO o.op.operands.toList:=xbV _
def opo:Option Operand→List Operand
 |some x=>[x]
 |none=>[]
attribute [go_sem] opo
@[go_sem] theorem ye3 {x:Operand}:opT ⟨d, .move x,ty,pos,af,gd⟩=tO [x]:=zg
@[go_sem] theorem vdB {x:Operand}:opT ⟨d, .assign x,ty,pos,af,gd⟩=tO [x]:=zg
@[go_sem] theorem xe3 {c x y:Operand}:opT ⟨d, .pick c x y,ty,pos,af,gd⟩=tO [c,x,y]:=zg
@[go_sem] theorem bd7 {t:TypeId}:opT ⟨d, .alloc t,ty,pos,af,gd⟩=[]:=zg
@[go_sem] theorem qfi {t:TypeId} {x:Operand}:opT ⟨d, .box t x,ty,pos,af,gd⟩=tO [x]:=zg
@[go_sem] theorem yd8 {t:TypeId} {ps:List (Nat×Operand)}:opT ⟨d, .build t ps.toArray,ty,pos,af,gd⟩=tO (ps.map (·.2)):=by rw [zg];simp [Op.operands]
@[go_sem] theorem wci {t:TypeId} {m:Nat} {ps:List (Nat×Operand)}:opT ⟨d, .buildSlice t m ps.toArray,ty,pos,af,gd⟩=tO (ps.map (·.2)):=by rw [zg];simp [Op.operands]
@[go_sem] theorem ze3 {t:TypeId} {x:Operand}:opT ⟨d, .load t x,ty,pos,af,gd⟩=tO [x]:=zg
@[go_sem] theorem wd8 {t:TypeId} {p x:Operand}:opT ⟨d, .store t p x,ty,pos,af,gd⟩=tO [p,x]:=zg
@[go_sem] theorem xcR {x:Operand}:opT ⟨d, .nilCheck x,ty,pos,af,gd⟩=tO [x]:=zg
@[go_sem] theorem zd8 {op:BinOp} {t t':TypeId} {x y:Operand}:opT ⟨d, .binOp op t x y t',ty,pos,af,gd⟩=tO [x,y]:=zg
@[go_sem] theorem qe3 {op:UnOp} {t:TypeId} {x:Operand}:opT ⟨d, .unOp op t x,ty,pos,af,gd⟩=tO [x]:=zg
@[go_sem] theorem xc7 {t u:TypeId} {x:Operand}:opT ⟨d, .convert t u x,ty,pos,af,gd⟩=tO [x]:=zg
@[go_sem] theorem gcQ {f:Fn} {fi ca:List Operand}:opT ⟨d, .makeFunc f fi.toArray ca.toArray,ty,pos,af,gd⟩=tO (fi++ca):=by rw [zg];simp [Op.operands]
@[go_sem] theorem xcq {t:TypeId} {l c:Operand}:opT ⟨d, .makeSlice t l c,ty,pos,af,gd⟩=tO [l,c]:=zg
@[go_sem] theorem vd8 {t:TypeId} {x:Operand} {lo hi mx:Option Operand}:opT ⟨d, .slice t x lo hi mx,ty,pos,af,gd⟩=tO (x::(opo lo++(opo hi++opo mx))):=by
 rw [zg];cases lo<;>cases hi<;>cases mx<;>rfl
@[go_sem] theorem zcq {t:TypeId} {x:Operand} {f:Nat}:opT ⟨d, .fieldAddr t x f,ty,pos,af,gd⟩=tO [x]:=zg
@[go_sem] theorem qd8 {t:TypeId} {x:Operand} {f:Nat}:opT ⟨d, .field t x f,ty,pos,af,gd⟩=tO [x]:=zg
@[go_sem] theorem ycq {t:TypeId} {x j:Operand}:opT ⟨d, .indexAddr t x j,ty,pos,af,gd⟩=tO [x,j]:=zg
@[go_sem] theorem jd8 {t:TypeId} {x j:Operand}:opT ⟨d, .index t x j,ty,pos,af,gd⟩=tO [x,j]:=zg
@[go_sem] theorem bcQ {t:TypeId}:opT ⟨d, .makeMap t none,ty,pos,af,gd⟩=tO []:=zg
@[go_sem] theorem zcR {t:TypeId} {r:Operand}:opT ⟨d, .makeMap t (some r),ty,pos,af,gd⟩=tO [r]:=zg
@[go_sem] theorem udB {t:TypeId} {x i:Operand} {ok:Bool}:opT ⟨d, .lookup t x i ok,ty,pos,af,gd⟩=tO [x,i]:=zg
@[go_sem] theorem qcq {t:TypeId} {m k x:Operand}:opT ⟨d, .mapUpdate t m k x,ty,pos,af,gd⟩=tO [m,k,x]:=zg
@[go_sem] theorem wdB {t:TypeId} {m k x:Operand}:opT ⟨d, .insert t m k x,ty,pos,af,gd⟩=tO [m,k,x]:=zg
@[go_sem] theorem ycR {t:TypeId} {m k:Operand}:opT ⟨d, .mapEntry t m k,ty,pos,af,gd⟩=tO [m,k]:=zg
@[go_sem] theorem uci {t:TypeId} {m i x:Operand}:opT ⟨d, .entryStore t m i x,ty,pos,af,gd⟩=tO [m,i,x]:=zg
@[go_sem] theorem kd8 {t:TypeId} {x:Operand}:opT ⟨d, .range t x,ty,pos,af,gd⟩=tO [x]:=zg
@[go_sem] theorem xd8 {x:Operand}:opT ⟨d, .entry x,ty,pos,af,gd⟩=tO [x]:=zg
@[go_sem] theorem qc7 {x:Operand} {j:Nat}:opT ⟨d, .extract x j,ty,pos,af,gd⟩=tO [x]:=zg
@[go_sem] theorem yc7 {b:Builtin} {xs:List Operand} {ts:Array TypeId}:opT ⟨d, .call ⟨.builtin b,xs.toArray,ts⟩,ty,pos,af,gd⟩=tO xs:=by rw [zg];simp [Op.operands,Call.operands]
@[go_sem] theorem be2 {f:Operand} {xs:List Operand} {ts:Array TypeId}:opT ⟨d, .call ⟨.value f,xs.toArray,ts⟩,ty,pos,af,gd⟩=tO (f::xs):=by rw [zg];simp [Op.operands,Call.operands]
@[go_sem] theorem jeR {x:Operand}:stOp (.move x)=false:=rfl
@[go_sem] theorem kdu {x:Operand}:stOp (.assign x)=false:=rfl
@[go_sem] theorem keR {c x y:Operand}:stOp (.pick c x y)=false:=rfl
@[go_sem] theorem qdZ {t:TypeId}:stOp (.alloc t)=false:=rfl
@[go_sem] theorem ufe {t:TypeId} {x:Operand}:stOp (.box t x)=false:=rfl
@[go_sem] theorem kdZ {t:TypeId} {ps:Array (Nat×Operand)}:stOp (.build t ps)=false:=rfl
@[go_sem] theorem bcf {t:TypeId} {m:Nat} {ps:Array (Nat×Operand)}:stOp (.buildSlice t m ps)=false:=rfl
@[go_sem] theorem qeR {t:TypeId} {x:Operand}:stOp (.load t x)=false:=rfl
@[go_sem] theorem zd0 {t:TypeId} {p x:Operand}:stOp (.store t p x)=true:=rfl
@[go_sem] theorem jcL {x:Operand}:stOp (.nilCheck x)=false:=rfl
@[go_sem] theorem jdZ {op:BinOp} {t t':TypeId} {x y:Operand}:stOp (.binOp op t x y t')=false:=rfl
@[go_sem] theorem veR {op:UnOp} {t:TypeId} {x:Operand}:stOp (.unOp op t x)=false:=rfl
@[go_sem] theorem kc5 {t u:TypeId} {x:Operand}:stOp (.convert t u x)=false:=rfl
@[go_sem] theorem xcL {f:Fn} {fi ca:Array Operand}:stOp (.makeFunc f fi ca)=false:=rfl
@[go_sem] theorem zco {t:TypeId} {l c:Operand}:stOp (.makeSlice t l c)=false:=rfl
@[go_sem] theorem bdZ {t:TypeId} {x:Operand} {lo hi mx:Option Operand}:stOp (.slice t x lo hi mx)=false:=rfl
@[go_sem] theorem gcn {t:TypeId} {x:Operand} {f:Nat}:stOp (.fieldAddr t x f)=false:=rfl
@[go_sem] theorem wdZ {t:TypeId} {x:Operand} {f:Nat}:stOp (.field t x f)=false:=rfl
@[go_sem] theorem bcn {t:TypeId} {x j:Operand}:stOp (.indexAddr t x j)=false:=rfl
@[go_sem] theorem udZ {t:TypeId} {x j:Operand}:stOp (.index t x j)=false:=rfl
@[go_sem] theorem wc5 {t:TypeId} {r:Option Operand}:stOp (.makeMap t r)=false:=rfl
@[go_sem] theorem wdu {t:TypeId} {x i:Operand} {ok:Bool}:stOp (.lookup t x i ok)=false:=rfl
@[go_sem] theorem yco {t:TypeId} {m k x:Operand}:stOp (.mapUpdate t m k x)=true:=rfl
@[go_sem] theorem vdu {t:TypeId} {m k x:Operand}:stOp (.insert t m k x)=true:=rfl
@[go_sem] theorem qcL {t:TypeId} {m k:Operand}:stOp (.mapEntry t m k)=true:=rfl
@[go_sem] theorem zcg {t:TypeId} {m i x:Operand}:stOp (.entryStore t m i x)=true:=rfl
@[go_sem] theorem gdZ {t:TypeId} {x:Operand}:stOp (.range t x)=false:=rfl
@[go_sem] theorem vdZ {x:Operand}:stOp (.entry x)=false:=rfl
@[go_sem] theorem vc5 {x:Operand} {j:Nat}:stOp (.extract x j)=false:=rfl
@[go_sem] theorem bfe {xs ts}:stOp (.call ⟨.builtin .len,xs,ts⟩)=false:=rfl
@[go_sem] theorem yff {xs ts}:stOp (.call ⟨.builtin .min,xs,ts⟩)=false:=rfl
@[go_sem] theorem zff {xs ts}:stOp (.call ⟨.builtin .max,xs,ts⟩)=false:=rfl
@[go_sem] theorem jdu {xs ts}:stOp (.call ⟨.builtin .append,xs,ts⟩)=true:=rfl
@[go_sem] theorem xeR {xs ts}:stOp (.call ⟨.builtin .copy,xs,ts⟩)=true:=rfl
@[go_sem] theorem gfe {xs ts}:stOp (.call ⟨.builtin .cap,xs,ts⟩)=false:=rfl
@[go_sem] theorem yeR {f:Operand} {xs ts}:stOp (.call ⟨.value f,xs,ts⟩)=false:=rfl
@[congr] theorem bcR {o:Oper} (h:s=s'):yz P T o s K=yz P T o s' K:=by rw [h]
@[congr] theorem zds {x x':Option (Prop×D)} (h:x=x') (h':s=s'):okX x d s K=okX x' d s' K:=by rw [h,h']
@[congr] theorem wcR {f f':D} {args args':List D} (h:f=f') (h1:args=args') (h':s=s'):vcR T f args d s K=vcR T f' args' d s' K:=by rw [h,h1,h']
@[go_sem] theorem vdW {p:Prop} {v:D}:okX (some (p,v)) d s K=K (s.put d v):=rfl
@[go_sem] theorem ye4 {x:Operand}:yz P T ⟨d, .move x,ty,pos,af,gd⟩ s K=aop P T ⟨d, .move x,ty,pos,af,gd⟩ s K:=rfl
@[go_sem] theorem ydC {x:Operand}:yz P T ⟨d, .assign x,ty,pos,af,gd⟩ s K=aop P T ⟨d, .assign x,ty,pos,af,gd⟩ s K:=rfl
@[go_sem] theorem xe4 {c x y:Operand}:yz P T ⟨d, .pick c x y,ty,pos,af,gd⟩ s K=aop P T ⟨d, .pick c x y,ty,pos,af,gd⟩ s K:=rfl
@[go_sem] theorem zd9 {t:TypeId}:yz P T ⟨d, .alloc t,ty,pos,af,gd⟩ s K=aop P T ⟨d, .alloc t,ty,pos,af,gd⟩ s K:=rfl
@[go_sem] theorem wfi {t:TypeId} {x:Operand}:yz P T ⟨d, .box t x,ty,pos,af,gd⟩ s K=aop P T ⟨d, .box t x,ty,pos,af,gd⟩ s K:=rfl
@[go_sem] theorem xd9 {t:TypeId} {ps:Array (Nat×Operand)}:yz P T ⟨d, .build t ps,ty,pos,af,gd⟩ s K=aop P T ⟨d, .build t ps,ty,pos,af,gd⟩ s K:=rfl
@[go_sem] theorem gci {t:TypeId} {m:Nat} {ps:Array (Nat×Operand)}:yz P T ⟨d, .buildSlice t m ps,ty,pos,af,gd⟩ s K=aop P T ⟨d, .buildSlice t m ps,ty,pos,af,gd⟩ s K:=rfl
@[go_sem] theorem ze4 {t:TypeId} {x:Operand}:yz P T ⟨d, .load t x,ty,pos,af,gd⟩ s K=aop P T ⟨d, .load t x,ty,pos,af,gd⟩ s K:=rfl
@[go_sem] theorem ud9 {t:TypeId} {p x:Operand}:yz P T ⟨d, .store t p x,ty,pos,af,gd⟩ s K=aop P T ⟨d, .store t p x,ty,pos,af,gd⟩ s K:=rfl
@[go_sem] theorem kcR {x:Operand}:yz P T ⟨d, .nilCheck x,ty,pos,af,gd⟩ s K=aop P T ⟨d, .nilCheck x,ty,pos,af,gd⟩ s K:=rfl
@[go_sem] theorem yd9 {op:BinOp} {t t':TypeId} {x y:Operand}:yz P T ⟨d, .binOp op t x y t',ty,pos,af,gd⟩ s K=(kb8 P op t (s.ev x) (s.ev y)=none∧faD op (s.ev x) (s.ev y)=none∧okP (bbZ P op t (s.ev x) (s.ev y)) d s K):=rfl
@[go_sem] theorem qe4 {op:UnOp} {t:TypeId} {x:Operand}:yz P T ⟨d, .unOp op t x,ty,pos,af,gd⟩ s K=aop P T ⟨d, .unOp op t x,ty,pos,af,gd⟩ s K:=rfl
@[go_sem] theorem jc7 {t u:TypeId} {x:Operand}:yz P T ⟨d, .convert t u x,ty,pos,af,gd⟩ s K=aop P T ⟨d, .convert t u x,ty,pos,af,gd⟩ s K:=rfl
@[go_sem] theorem qcR {f:Fn} {fi ca:Array Operand}:yz P T ⟨d, .makeFunc f fi ca,ty,pos,af,gd⟩ s K=aop P T ⟨d, .makeFunc f fi ca,ty,pos,af,gd⟩ s K:=rfl
@[go_sem] theorem vcq {t:TypeId} {l c:Operand}:yz P T ⟨d, .makeSlice t l c,ty,pos,af,gd⟩ s K=aop P T ⟨d, .makeSlice t l c,ty,pos,af,gd⟩ s K:=rfl
@[go_sem] theorem wd9 {t:TypeId} {x:Operand} {lo hi mx:Option Operand}:yz P T ⟨d, .slice t x lo hi mx,ty,pos,af,gd⟩ s K=aop P T ⟨d, .slice t x lo hi mx,ty,pos,af,gd⟩ s K:=rfl
@[go_sem] theorem jcq {t:TypeId} {x:Operand} {f:Nat}:yz P T ⟨d, .fieldAddr t x f,ty,pos,af,gd⟩ s K=aop P T ⟨d, .fieldAddr t x f,ty,pos,af,gd⟩ s K:=rfl
@[go_sem] theorem jd9 {t:TypeId} {x:Operand} {f:Nat}:yz P T ⟨d, .field t x f,ty,pos,af,gd⟩ s K=aop P T ⟨d, .field t x f,ty,pos,af,gd⟩ s K:=rfl
@[go_sem] theorem kcq {t:TypeId} {x j:Operand}:yz P T ⟨d, .indexAddr t x j,ty,pos,af,gd⟩ s K=aop P T ⟨d, .indexAddr t x j,ty,pos,af,gd⟩ s K:=rfl
@[go_sem] theorem kd9 {t:TypeId} {x j:Operand}:yz P T ⟨d, .index t x j,ty,pos,af,gd⟩ s K=aop P T ⟨d, .index t x j,ty,pos,af,gd⟩ s K:=rfl
@[go_sem] theorem vc7 {t:TypeId} {r:Option Operand}:yz P T ⟨d, .makeMap t r,ty,pos,af,gd⟩ s K=aop P T ⟨d, .makeMap t r,ty,pos,af,gd⟩ s K:=rfl
@[go_sem] theorem qdC {t:TypeId} {x i:Operand} {ok:Bool}:yz P T ⟨d, .lookup t x i ok,ty,pos,af,gd⟩ s K=aop P T ⟨d, .lookup t x i ok,ty,pos,af,gd⟩ s K:=rfl
@[go_sem] theorem wcq {t:TypeId} {m k x:Operand}:yz P T ⟨d, .mapUpdate t m k x,ty,pos,af,gd⟩ s K=aop P T ⟨d, .mapUpdate t m k x,ty,pos,af,gd⟩ s K:=rfl
@[go_sem] theorem xdC {t:TypeId} {m k x:Operand}:yz P T ⟨d, .insert t m k x,ty,pos,af,gd⟩ s K=aop P T ⟨d, .insert t m k x,ty,pos,af,gd⟩ s K:=rfl
@[go_sem] theorem jcR {t:TypeId} {m k:Operand}:yz P T ⟨d, .mapEntry t m k,ty,pos,af,gd⟩ s K=aop P T ⟨d, .mapEntry t m k,ty,pos,af,gd⟩ s K:=rfl
@[go_sem] theorem bci {t:TypeId} {m i x:Operand}:yz P T ⟨d, .entryStore t m i x,ty,pos,af,gd⟩ s K=aop P T ⟨d, .entryStore t m i x,ty,pos,af,gd⟩ s K:=rfl
@[go_sem] theorem vd9 {t:TypeId} {x:Operand}:yz P T ⟨d, .range t x,ty,pos,af,gd⟩ s K=aop P T ⟨d, .range t x,ty,pos,af,gd⟩ s K:=rfl
@[go_sem] theorem qd9 {x:Operand}:yz P T ⟨d, .entry x,ty,pos,af,gd⟩ s K=aop P T ⟨d, .entry x,ty,pos,af,gd⟩ s K:=rfl
@[go_sem] theorem kc7 {x:Operand} {j:Nat}:yz P T ⟨d, .extract x j,ty,pos,af,gd⟩ s K=aop P T ⟨d, .extract x j,ty,pos,af,gd⟩ s K:=rfl
@[go_sem] theorem gfi {x:Operand} {t:TypeId}:yz P T ⟨d, .call ⟨.builtin .len, #[x], #[t]⟩,ty,pos,af,gd⟩ s K=((uk P t).isSome=true∧okX (zcB (s.ev x)) d s K):=rfl
@[go_sem] theorem zfj {xs:Array Operand} {ts:Array TypeId}:yz P T ⟨d, .call ⟨.builtin .min,xs,ts⟩,ty,pos,af,gd⟩ s K=aop P T ⟨d, .call ⟨.builtin .min,xs,ts⟩,ty,pos,af,gd⟩ s K:=rfl
@[go_sem] theorem bfi {xs:Array Operand} {ts:Array TypeId}:yz P T ⟨d, .call ⟨.builtin .max,xs,ts⟩,ty,pos,af,gd⟩ s K=aop P T ⟨d, .call ⟨.builtin .max,xs,ts⟩,ty,pos,af,gd⟩ s K:=rfl
@[go_sem] theorem zdC {x y:Operand} {t u:TypeId}:yz P T ⟨d, .call ⟨.builtin .append, #[x,y], #[t,u]⟩,ty,pos,af,gd⟩ s K=(qbm P s t u (s.ev x) (s.ev y)=none∧t=u∧okT (xbZ P s t d (s.ev x) (s.ev y)) fun s'=>K (ybA P t (s.ev x) d s')):=rfl
@[go_sem] theorem be3 {xs:Array Operand} {ts:Array TypeId}:yz P T ⟨d, .call ⟨.builtin .copy,xs,ts⟩,ty,pos,af,gd⟩ s K=aop P T ⟨d, .call ⟨.builtin .copy,xs,ts⟩,ty,pos,af,gd⟩ s K:=rfl
@[go_sem] theorem ufi {xs:Array Operand} {ts:Array TypeId}:yz P T ⟨d, .call ⟨.builtin .cap,xs,ts⟩,ty,pos,af,gd⟩ s K=aop P T ⟨d, .call ⟨.builtin .cap,xs,ts⟩,ty,pos,af,gd⟩ s K:=rfl
@[go_sem] theorem ge3 {f:Operand} {xs:List Operand} {ts:Array TypeId}:yz P T ⟨d, .call ⟨.value f,xs.toArray,ts⟩,ty,pos,af,gd⟩ s K=vcR T (s.ev f) (xs.map s.ev) d s K:=rfl
def xcX (x:Option (Prop×D×List (Nat×Ob)×Nat)) (tm:List (Nat×D)) (d:Option Nat) (K:St→Prop):Prop:=match x with
 |some (p,r,os',nx')=>p∧K (St.put ⟨tm,os',nx'⟩ d r)
 |none=>False
@[congr] theorem xdA {x x':Option (Prop×D×List (Nat×Ob)×Nat)} {tm tm':List (Nat×D)} (h:x=x') (h':tm=tm'):xcX x tm d K=xcX x' tm' d K:=by rw [h,h']
@[go_sem] theorem xen {f:FuncId} {fi ca args:List D} {tm:List (Nat×D)} {os:List (Nat×Ob)} {nx:Nat}:vcR T (.fn (.func f) fi ca) args d ⟨tm,os,nx⟩ K=(ovm T f=false∧xcX (look T os nx f (fi++args++ca)) tm d K):=rfl
@[go_sem] theorem wd4 {p:Prop} {v:D} {tm:List (Nat×D)} {os:List (Nat×Ob)} {nx:Nat}:xcX (some (p,v,os,nx)) tm d K=(p∧K (St.put ⟨tm,os,nx⟩ d v)):=rfl
@[go_sem] theorem kfe {j n:Nat} {T W:List Nat} {B nx:Nat}:push ⟨j,n::T,W,B,nx⟩ acc=⟨j,n::T,W,B,nx⟩::acc:=rfl
@[go_sem] theorem vfe {j:Nat} {W:List Nat} {B nx:Nat}:push ⟨j,[],W,B,nx⟩ acc=if nx=B then acc else⟨j,[],W,B,nx⟩::acc:=rfl
def kdx (P:Program) (T:Tab) (all:Array Oper) (rest:List Oper) (us:List Nat) (i:Nat) (K:St→Prop):List Ft→St→Prop:=fun acc s=>dx P T all rest us i acc K s
def jdN (P:Program) (T:Tab) (o:Oper) (u i:Nat) (acc:List Ft) (k:List Ft→St→Prop):St→Prop:=fun s=>dxE P T o u i acc s k
def vdN (P:Program) (T:Tab) (all:Array Oper) (d:Option Nat) (rest:List Oper) (us:List Nat) (i:Nat) (acc:List Ft) (K:St→Prop):St→Prop:=fun s=>dx P T all rest us i acc K (s.put d .skip)
variable {us us':List Nat} {u u':Nat}
@[congr] theorem qdI {l:List Oper} (hu:us=us') (hi:i=i') (ha:acc=acc') (h:s=s'):dx P T all l us i acc K s=dx P T all l us' i' acc' K s':=by rw [hu,hi,ha,h]
@[congr] theorem bdf {l:List Oper} (hu:us=us') (hi:i=i') (ha:acc=acc') (h:s=s'):kdx P T all l us i K acc s=kdx P T all l us' i' K acc' s':=by rw [hu,hi,ha,h]
@[congr] theorem bcX {o:Oper} {k:List Ft→St→Prop} (hu:u=u') (hi:i=i') (ha:acc=acc') (h:s=s'):jdN P T o u i acc k s=jdN P T o u' i' acc' k s':=by rw [hu,hi,ha,h]
@[congr] theorem zcY {l:List Oper} (hu:us=us') (hi:i=i') (ha:acc=acc') (h:s=s'):vdN P T all d l us i acc K s=vdN P T all d l us' i' acc' K s':=by rw [hu,hi,ha,h]
@[congr] theorem udc {o:Oper} {k:List Ft→St→Prop} (hu:u=u') (hi:i=i') (ha:acc=acc') (h:s=s'):dxE P T o u i acc s k=dxE P T o u' i' acc' s' k:=by rw [hu,hi,ha,h]
@[congr] theorem gdc {o:Oper} {k:List Ft→St→Prop} {Tt Tt':List Nat} (hu:u=u') (hi:i=i') (ha:acc=acc') (h:s=s') (ht:Tt=Tt'):dxL P T o u i acc s k Tt=dxL P T o u' i' acc' s' k Tt':=by rw [hu,hi,ha,h,ht]
@[congr] theorem bdc {o:Oper} {k:List Ft→St→Prop} {r r':St} (h:r=r'):dxR P o u i acc s Tt k r=dxR P o u i acc s Tt k r':=by rw [h]
@[congr] theorem zdd {o:Oper} {k:List Ft→St→Prop} {W W':List Nat} {r r':St} (hr:r=r') (h:W=W'):dxW P o u i acc s Tt r k W=dxW P o u i acc s Tt r' k W':=by rw [hr,h]
@[go_sem] theorem xe2:dx P T all [] us i acc K s=K s:=rfl
@[go_sem] theorem jd7 {op:Op}:dx P T all (⟨d,op,ty,pos,af,none⟩::rest) us i acc K s=dxE P T ⟨d,op,ty,pos,af,none⟩ (uh us) i acc s (kdx P T all rest (ut us) (i+1) K):=rfl
@[go_sem] theorem qdB {op:Op} {j:Nat} {w:Bool}:dx P T all (⟨d,op,ty,pos,af,some (j,w)⟩::rest) us i acc K s=
 grd (jH all j) (s.gd (jH all j)) w (jdN P T ⟨d,op,ty,pos,af,some (j,w)⟩ (uh us) i acc (kdx P T all rest (ut us) (i+1) K)) (vdN P T all d rest (ut us) (i+1) acc K) s:=rfl
@[go_sem] theorem xd7 {o:Oper} {l r:List Oper}:dx P T all (List.append (o::l) r) us i acc K s=dx P T all (o::List.append l r) us i acc K s:=rfl
@[go_sem] theorem qd7 {r:List Oper}:dx P T all (List.append [] r) us i acc K s=dx P T all r us i acc K s:=rfl
@[go_sem] theorem yd7 {l r q:List Oper}:dx P T all (List.append (List.append l r) q) us i acc K s=dx P T all (List.append l (List.append r q)) us i acc K s:=by
 rw [List.append_eq,List.append_eq,List.append_eq,List.append_eq,List.append_assoc]
@[go_sem] theorem jez {l:List Oper}:kdx P T all l us i K acc s=dx P T all l us i acc K s:=rfl
@[go_sem] theorem kdN {o:Oper} {k:List Ft→St→Prop}:jdN P T o u i acc k s=dxE P T o u i acc s k:=rfl
@[go_sem] theorem wdN:vdN P T all d rest us i acc K s=dx P T all rest us i acc K (s.put d .skip):=rfl
@[go_sem] theorem xe6 {o:Oper} {k:List Ft→St→Prop} {tm:List (Nat×D)} {os:List (Nat×Ob)} {nx:Nat}:dxE P T o u i acc ⟨tm,os,nx⟩ k=dxL P T o u i acc ⟨tm,os,nx⟩ k (clo os (uni (qbK (uj (opT o) tm)) [])):=rfl
@[go_sem] theorem qe6 {o:Oper} {k:List Ft→St→Prop} {tm:List (Nat×D)} {os:List (Nat×Ob)} {nx:Nat}:dxL P T o u i acc ⟨tm,os,nx⟩ k Tt=yz P T o (St.loc (opT o) Tt nx ⟨tm,os,nx⟩) (dxR P o u i acc ⟨tm,os,nx⟩ Tt k):=rfl
@[go_sem] theorem je6 {op:Op} {k:List Ft→St→Prop} {tm:List (Nat×D)} {os:List (Nat×Ob)} {nx:Nat}:dxR P ⟨d,op,ty,pos,af,gd⟩ u i acc s Tt k ⟨tm,os,nx⟩=dxW P ⟨d,op,ty,pos,af,gd⟩ u i acc s Tt ⟨tm,os,nx⟩ k (wSl u (wOf (stOp op) Tt os)):=rfl
@[go_sem] theorem ke6 {op:Op} {k:List Ft→St→Prop} {tm tm':List (Nat×D)} {os os':List (Nat×Ob)} {nx nx':Nat}:dxW P ⟨d,op,ty,pos,af,gd⟩ u i acc ⟨tm,os,nx⟩ Tt ⟨tm',os',nx'⟩ k W=
 (low nx Tt=true∧vbb Tt (uj (opT ⟨d,op,ty,pos,af,gd⟩) tm)=true∧bcD Tt (uj Tt os)=true∧nx≤nx'∧ycK Tt nx nx' os'=true∧rvP Tt nx nx' tm' d∧gbT W os' os Tt∧
 jc8 u ⟨i,Tt,W,nx,nx'⟩ acc∧k (push ⟨i,Tt,W,nx,nx'⟩ acc) (St.mrg ⟨tm,os,nx⟩ Tt d ⟨tm',os',nx'⟩)):=rfl
end
end Dm
namespace Dm
open Go
attribute [go_sem] Bool.false_and Bool.and_false Bool.true_and Bool.and_true Bool.or_false Bool.false_or Bool.true_or Bool.or_true Bool.not_true Bool.not_false
section
variable {P:Program} {T:Tab} {n N:Nat} {lv:Nat→Option (List Nat)} {s s':St} {Q:Exit→St→Prop}
def ng (Q:Exit→St→Prop):Exit→St→Prop
 | .goto _,_=>False
 |e,s=>Q e s
theorem SWp.scope {c:Code} (h:SWp P n N c (ng Q) s):SWp P n N (.scope c) Q s:=by
 intro δ g a w hr hn
 refine wp_scope_straight (wp_mono (h δ g a w hr hn) fun e a' w' ⟨g',s',h1,h2⟩=> ?_)
 cases e with
 |goto l=>exact h1.elim
 |_=>exact⟨g',s',h1,h2⟩
@[congr] theorem vdU {e:Exit} (h':s=s'):ng Q e s=ng Q e s':=by rw [h']
@[go_sem] theorem zfB:ng Q .normal s=Q .normal s:=rfl
@[go_sem] theorem yfB:ng Q .ret s=Q .ret s:=rfl
@[go_sem] theorem bfA {i:Nat}:ng Q (.exit i) s=Q (.exit i) s:=rfl
@[go_sem] theorem yeO {p:Prop} [Decidable p] {v:D} {d:Option Nat} {K:St→Prop}:okD (if p then some v else none) d s K=(p∧K (s.put d v)):=by
 by_cases h:p<;>simp [h,okD]
@[go_sem] theorem qeO {p:Prop} [Decidable p] {K:St→Prop}:okS (if p then some s else none) K=(p∧K s):=by
 by_cases h:p<;>simp [h,okS]
end
end Dm
namespace Dm
open Go
section
variable {P:Program} {g g':G} {w w':World}
def bb8 (id n c sz:Nat):D→D
 | .vec i m=>if i=id∧m=n then .view id c sz 0 n else .vec i m
 |d=>d
def gcK (Q:D→List (Nat×Ob)→Nat→Prop) (d:D) (os:List (Nat×Ob)) (nx:Nat):Prop:=match d with
 | .view id c sz lo n=>match lk id os with
  |some (.vec hd sz' e els)=>lo=0∧c=els.length∧sz=sz'∧Q (.vec nx n) ((nx, .vec hd sz' e (els.take n))::rmv os [id]) (nx+1)
  |_=>False
 |d=>Q d os nx
attribute [go_sem] bb8 gcK false_and and_false Int.zero_add Int.natCast_nonneg Nat.zero_add
theorem qbL {id sz:Nat} {hd:Bool} {e:TypeId} {els:List (List C)} {os:List (Nat×Ob)} {nx:Nat} (hr:qj g ⟨[],os,nx⟩ w) (ho:lk id os=some (.vec hd sz e els)):
 ∃c g',els.length≤c∧c≤9223372036854775807∧qj g' ⟨[],upd id (.vec hd sz e (fit c sz els)) os,nx⟩ w∧Step g ⟨[],os,nx⟩ w g' ⟨[],upd id (.vec hd sz e (fit c sz els)) os,nx⟩ w∧
  ∀v d,ua g w v d→ua g' w v (bb8 id els.length c sz d):=by
 obtain⟨a0,cap,h1,h2,h3,h4,h5⟩:=hr.ok id _ ho
 have hle:g.Le (g.vec id (a0,cap,cap)):=⟨fun id b hb=>hb,fun j x l c hj=>by
  by_cases h:j=id
  ·subst h
   rw [h1]at hj;cases hj
   exact⟨a0,cap,cap,by simp [G.vec],h2,fun _=>⟨rfl,rfl⟩⟩
  ·exact⟨x,l,c,by simp [G.vec,h,hj],Nat.le_refl _,fun _=>⟨rfl,rfl⟩⟩,fun b hb=>hb⟩
 obtain⟨h6,h7⟩:=hr.replace ho (.vec hd sz e (fit cap sz els)) [] hle (fun b hb=>hb) (fun i hi=>rfl) (fun i hi=>by simp [G.vec,hi]) (w':=w) (Nat.le_refl _) (fun _ _ _=>rfl)
  (by
   refine⟨a0,cap,by rw [jf];simp [G.vec],by rw [jf];exact Nat.le_refl _,h3,vL h4, ?_⟩
   rcases h5 with h5|⟨b,off,cells,vs,rfl,h8,h9,h10,h11⟩
   ·exact .inl h5
   ·obtain⟨vs2,h12⟩:=xbL (I:=g.I) (w:=w) (c:=cap) (els:=els) h9 h10.2 (fun i j x y _ hx hy=>⟨_,(h11 i j x y hx hy).1,(h11 i j x y hx hy).2⟩)
    exact .inr ⟨b,off,cells,vs2,rfl,h8,h9,h10,h12⟩)
  (fun b hb=> .inl (by
   simp only [G.blk,G.vec,if_true]at hb
   simp only [G.blk,h1]
   cases a0<;>exact hb))
 refine⟨cap,_,h2,h3,h6,h7,fun v d hv=> ?_⟩
 have hm:=hv.mono (fun _ _=>rfl) hle
 unfold bb8
 split
 ·rename_i i m
  split
  ·rename_i hc
   obtain⟨rfl,rfl⟩:=hc
   cases hv with
   |vec a' cap' _ _ a1 len cap1 hk hn hm' ha hvv=>
    rw [h1]at hk;cases hk
    obtain⟨rfl,rfl⟩:=hvv rfl
    refine .view a' cap' i cap' sz 0 els.length a' cap' cap' (by simp [G.vec]) (Nat.le_refl _) (Nat.zero_le _) h2 h3 fun _=>⟨rfl,rfl,fun h=>h,fun b o hb=>⟨fun _=>by rw [Nat.zero_mul];exact hb,o,hb⟩⟩
  ·exact hm
 ·exact hm
theorem jk.opn {f:FuncId} {ds:List D} {os:List (Nat×Ob)} {nx:Nat} {Q:D→List (Nat×Ob)→Nat→Prop} (id:Nat) {hd:Bool} {sz:Nat} {e:TypeId} {els:List (List C)} (ho:lk id os=some (.vec hd sz e els)) (hl:els.length≤9223372036854775807)
 (h:∀c,els.length≤c→c≤9223372036854775807→jk P f (ds.map (bb8 id els.length c sz)) (upd id (.vec hd sz e (fit c sz els)) os) nx Q):jk P f ds os nx Q:=by
 refine⟨(h _ (Nat.le_refl _) hl).1,fun g w vs hr hsz hv=> ?_⟩
 obtain⟨c,g',h1,h2,h3,h4,h5⟩:=qbL hr ho
 refine((h c h1 h2).2 g' w vs h3 (by rw [List.length_map];exact hsz) (fun i v d hvv hd=> ?_)).mono fun e w' ⟨v,d,g2,os',nx',he,hq,hro,hvr,hst⟩=>⟨v,d,g2,os',nx',he,hq,hro,hvr,h4.trans hst⟩
 rw [List.getElem?_map,Option.map_eq_some_iff]at hd
 obtain⟨d0,hd0,rfl⟩:=hd
 exact h5 v d0 (hv i v d0 hvv hd0)
theorem vcf {id c sz n:Nat} {hd:Bool} {e:TypeId} {els:List (List C)} {os:List (Nat×Ob)} {nx:Nat} (ho:qj g ⟨[],os,nx⟩ w) (hlk:lk id os=some (.vec hd sz e els)) (hc:c=els.length) {v:Value} (hv:ua g w v (.view id c sz 0 n)):
 ∃g',qj g' ⟨[],(nx, .vec hd sz e (els.take n))::rmv os [id],nx+1⟩ w∧ua g' w v (.vec nx n)∧Step g ⟨[],os,nx⟩ w g' ⟨[],(nx, .vec hd sz e (els.take n))::rmv os [id],nx+1⟩ w:=by
 obtain⟨a1,cap1,h1,h2,h3,h4,h5⟩:=ho.ok id _ hlk
 cases hv with
 |view a' cap' _ _ _ _ _ a0 len cap hk hle hl hh hm hvv=>
 rw [hk]at h1;cases h1
 obtain⟨rfl,rfl,h6,h7⟩:=hvv hc
 subst hc
 have haa:a'=a1:=by
  rcases h5 with⟨rfl,_⟩|⟨b,off,_,_,rfl,_⟩
  ·exact h6 rfl
  ·have:=(h7 b off rfl).1 (.inr rfl)
   rw [this,Nat.zero_mul,Nat.add_zero]
 subst haa
 have hfr:=ho.fresh nx (Nat.le_refl _)
 have hdl:(els.take n).length=n:=by rw [List.length_take];omega
 have hne:∀i o,lk i os=some o→i≠nx:=fun i o ho' hi=>by
  subst hi
  have:=ho.ok _ o ho'
  cases o with
  |box cs=>obtain⟨b,_,_,h,_⟩:=this;rw [hfr.1]at h;cases h
  |map _ _=>obtain⟨b,_,h,_⟩:=this;rw [hfr.1]at h;cases h
  |it _ _=>obtain⟨b,h,_⟩:=this;rw [hfr.1]at h;cases h
  |vec _ _ _ _=>obtain⟨b,_,h,_⟩:=this;rw [hfr.2]at h;cases h
 have hidne:=hne id _ hlk
 have hκ:∀i,i≠nx→(g.vec nx (a',n,els.length)).κ i=g.κ i:=fun i hi=>if_neg hi
 have hκ0:(g.vec nx (a',n,els.length)).κ nx=some (a',n,els.length):=if_pos rfl
 have hgle:g.Le (g.vec nx (a',n,els.length)):=⟨fun _ _ h=>h,fun i x y z h=>⟨x,y,z,by
  have:i≠nx:=fun hi=>by rw [hi,hfr.2]at h;cases h
  rw [hκ i this];exact h,Nat.le_refl _,fun _=>⟨rfl,rfl⟩⟩,fun _ h=>h⟩
 have hin:∀i o,lk i ((nx,Ob.vec hd sz e (els.take n))::rmv os [id])=some o→(i=nx∧o= .vec hd sz e (els.take n))∨(i≠nx∧i≠id∧lk i os=some o):=fun i o h=>by
  simp only [zb,xau]at h
  split at h
  ·rename_i hi;cases h;exact .inl ⟨hi,rfl⟩
  ·rename_i hi
   split at h
   ·cases h
   ·rename_i hi2;exact .inr ⟨hi,by simpa using hi2,h⟩
 have hblk:∀i o,i≠nx→(g.vec nx (a',n,els.length)).blk i o=g.blk i o:=fun i o hi=>by
  cases o with
  |box cs=>rfl
  |map _ _=>rfl
  |it _ _=>rfl
  |vec _ _ _ _=>simp only [G.blk,hκ i hi]
 have hblk0:∀b,(g.vec nx (a',n,els.length)).blk nx (.vec hd sz e (els.take n))=some b→g.blk id (.vec hd sz e els)=some b:=fun b hb=>by
  simp only [G.blk,hκ0]at hb
  simp only [G.blk,hk]
  cases a'<;>exact hb
 have hown:∀b,Own (g.vec nx (a',n,els.length)) ⟨[],(nx, .vec hd sz e (els.take n))::rmv os [id],nx+1⟩ b→Own g ⟨[],os,nx⟩ b:=fun b ⟨i,o,h6,h7⟩=>by
  rcases hin i o h6 with⟨rfl,rfl⟩|⟨h8,_,h9⟩
  ·exact⟨id,_,hlk,hblk0 b h7⟩
  ·rw [hblk i o h8]at h7;exact⟨i,o,h9,h7⟩
 have hst:Step g ⟨[],os,nx⟩ w (g.vec nx (a',n,els.length)) ⟨[],(nx, .vec hd sz e (els.take n))::rmv os [id],nx+1⟩ w:=
  ⟨hgle,Nat.le_refl _,fun _ _ _=>rfl,fun b _ hno h=>hno (hown b h),fun _ _ _ h=>h, .refl w⟩
 refine⟨g.vec nx (a',n,els.length),⟨fun i o hi=> ?_,fun i o i' o' b h6 h7 h8 h9=> ?_,fun i hi=> ?_,fun b hb=>⟨(ho.imm b hb).1,fun h=>(ho.imm b hb).2 (hown b h)⟩,ho.cel⟩, ?_,hst⟩
 ·rcases hin i o hi with⟨rfl,rfl⟩|⟨h8,_,h9⟩
  ·refine⟨_,_,hκ0.trans (by rw [hdl]),by rw [hdl];omega,by omega,fun x hx=>h4 x (List.mem_of_mem_take hx), ?_⟩
   rcases h5 with⟨rfl,hc⟩|⟨b,off,cells,vs,rfl,h10,h11,h12,h13⟩
   ·exact .inl ⟨rfl,hc⟩
   ·refine .inr ⟨b,off,cells,vs,rfl,h10,h11,h12,fun i j x y hx hy=> ?_⟩
    rw [List.getElem?_take]at hx
    split at hx
    ·exact h13 i j x y hx hy
    ·cases hx
  ·exact(ho.ok i o h9).mono (fun _ _=>rfl) hgle (fun _ _=>rfl) (hκ i h8)
 ·rcases hin i o h6 with⟨rfl,rfl⟩|⟨h10,h11,h12⟩<;>rcases hin i' o' h7 with⟨rfl,rfl⟩|⟨h13,h14,h15⟩
  ·rfl
  ·rw [hblk i' o' h13]at h9
   exact absurd (ho.apart id _ i' o' b hlk h15 (hblk0 b h8) h9) (fun h=>h14 h.symm)
  ·rw [hblk i o h10]at h8
   exact absurd (ho.apart i o id _ b h12 hlk h8 (hblk0 b h9)) h11
  ·rw [hblk i o h10]at h8
   rw [hblk i' o' h13]at h9
   exact ho.apart i o i' o' b h12 h15 h8 h9
 ·have hi':nx+1≤i:=hi
  rw [hκ i (by omega)]
  exact ho.fresh i (Nat.le_of_succ_le hi')
 ·refine .vec a' _ nx n a' n els.length hκ0 (Nat.le_refl _) (by omega) ?_ fun _=>⟨rfl,rfl⟩
  rcases h5 with⟨_,hc⟩|⟨b,off,_,_,rfl,_⟩
  ·exact .inl (by omega)
  ·exact .inr ⟨b,off,rfl⟩
theorem jk.sld {f:FuncId} {ds:List D} {os:List (Nat×Ob)} {nx:Nat} {Q:D→List (Nat×Ob)→Nat→Prop} (h:jk P f ds os nx (gcK Q)):jk P f ds os nx Q:=by
 refine⟨h.1,fun g w vs hr hsz hv=>(h.2 g w vs hr hsz hv).mono fun e w' ⟨v,d,g2,os',nx',he,hq,hro,hvr,hst⟩=> ?_⟩
 unfold gcK at hq
 split at hq
 ·split at hq
  ·rename_i hlk
   obtain⟨rfl,h1,rfl,h2⟩:=hq
   obtain⟨g3,h3,h4,h5⟩:=vcf hro hlk h1 hvr
   exact⟨v,_,g3,_,_,he,h2,h3,h4,hst.trans h5⟩
  ·cases hq
 ·exact⟨v,d,g2,os',nx',he,hq,hro,hvr,hst⟩
end
end Dm
namespace Dm
open Go
theorem bac {c sz n:Nat} {E:List (List C)} (h:n≤E.length) (h':n≤c):(fit c sz E).take n=E.take n:=by
 rw [fit,List.take_take,Nat.min_eq_left h',List.take_append_of_le_length h]
theorem gL {E X:List (List C)} {i:Nat} (h:i+X.length≤E.length):(lay E i X).length=E.length:=yJ _ _ _ h
theorem baB {E X:List (List C)} {i p:Nat} (h:i+X.length≤E.length):(lay E i X)[p]? =if i≤p∧p<i+X.length then X[p - i]? else E[p]? :=qam h
theorem wbH {E:List (List C)} {x:List C} {i k:Nat} (h:i≤E.length):(E.take i++x::E.drop i)[k]? =if k<i then E[k]? else if k=i then some x else E[k - 1]? :=by
 have h1:(E.take i).length=i:=by rw [List.length_take];omega
 by_cases hk:k<i
 ·rw [if_pos hk,List.getElem?_append_left (by omega),List.getElem?_take_of_lt hk]
 ·rw [if_neg hk,List.getElem?_append_right (by omega),h1]
  by_cases hk2:k=i
  ·rw [if_pos hk2,hk2,Nat.sub_self];rfl
  ·rw [if_neg hk2,show k - i=(k - i - 1)+1 by omega,List.getElem?_cons_succ,List.getElem?_drop]
   congr 1
   omega
theorem bcz {sz c i n:Nat} {E A:List (List C)} {x:List C} (hn:n=E.length) (hi:i<n) (h2:n+1≤c) (hA:(lay A i [x]).length=c) (hA0:∀k,k<i→A[k]? =E[k]?) (hAl:A.length=c):
 (fit c sz (lay (fit c sz (lay A i [x])) (i+1) (E.drop i))).take (n+1)=E.take i++x::E.drop i:=by
 subst hn
 have hd:(E.drop i).length=E.length - i:=List.length_drop
 rw [xaj hA,xaj (by rw [gL (by omega)];exact hA)]
 apply List.ext_getElem?
 intro k
 rw [wbH (by omega),List.getElem?_take]
 by_cases hk:k<E.length+1
 ·rw [if_pos hk,baB (by omega),baB (by simp only [List.length_singleton];omega),hd]
  simp only [List.length_singleton]
  by_cases h3:k<i
  ·rw [if_neg (by omega),if_neg (by omega),if_pos h3,hA0 k h3]
  ·rw [if_neg h3]
   by_cases h4:k=i
   ·rw [if_neg (by omega),if_pos (by omega),if_pos h4,h4,Nat.sub_self];rfl
   ·rw [if_pos (by omega),if_neg h4,List.getElem?_drop]
    congr 1
    omega
 ·rw [if_neg hk,if_neg (by omega),if_neg (by omega),List.getElem?_eq_none (by omega)]
theorem zcA {sz c c1 i:Nat} {E:List (List C)} {x z:List C} (hi:i<E.length) (hc:E.length≤c) (h2:E.length+1≤c1):
 (fit c1 sz (lay (fit c1 sz (lay (fit c1 sz ((fit c sz E).take i++List.replicate (E.length+1 - i) z)) i ([x].take (E.length+1 - i)))) (i+1) ((((fit c sz E).take E.length).drop i).take (E.length+1 - (i+1))))).take (E.length+1)=E.take i++x::E.drop i:=by
 rw [bac (c:=c) (sz:=sz) (E:=E) (n:=E.length) (Nat.le_refl _) hc,List.take_length,List.take_of_length_le (l:=E.drop i) (by rw [List.length_drop];omega),List.take_of_length_le (l:=[x]) (by simp only [List.length_singleton];omega),bac (c:=c) (sz:=sz) (E:=E) (n:=i) (by omega) (by omega)]
 refine bcz rfl hi h2 ?_ (fun k hk=> ?_) (jf _ _ _)
 ·rw [gL (by rw [jf];simp only [List.length_singleton];omega),jf]
 ·rw [baA,if_pos (by omega),if_pos (by simp only [List.length_append,List.length_take,List.length_replicate];omega),List.getElem?_append_left (by rw [List.length_take];omega),List.getElem?_take_of_lt hk]
theorem ycA {sz c i:Nat} {E:List (List C)} {x:List C} (hi:i<E.length) (hc:E.length+1≤c):
 (fit c sz (lay (fit c sz (lay (fit c sz E) (i+1) ((((fit c sz E).take (E.length+1)).drop i).take (E.length+1 - (i+1))))) i ([x].take (E.length+1 - i)))).take (E.length+1)=E.take i++x::E.drop i:=by
 have e1:(((fit c sz E).take (E.length+1)).drop i).take (E.length+1 - (i+1))=E.drop i:=by
  apply List.ext_getElem?
  intro k
  rw [List.getElem?_take,List.getElem?_drop,List.getElem?_drop,List.getElem?_take,baA]
  by_cases h:k<E.length+1 - (i+1)
  ·rw [if_pos h,if_pos (by omega),if_pos (by omega),if_pos (by omega)]
  ·rw [if_neg h,List.getElem?_eq_none (by omega)]
 have hd:(E.drop i).length=E.length - i:=List.length_drop
 have hl:(lay (fit c sz E) (i+1) (E.drop i)).length=c:=by rw [gL (by rw [jf,hd];omega),jf]
 rw [e1,List.take_of_length_le (l:=[x]) (by simp only [List.length_singleton];omega),xaj hl,xaj (by rw [gL (by rw [hl];simp only [List.length_singleton];omega),hl])]
 apply List.ext_getElem?
 intro k
 rw [wbH (by omega),List.getElem?_take]
 by_cases hk:k<E.length+1
 ·rw [if_pos hk,baB (by rw [hl];simp only [List.length_singleton];omega),baB (by rw [jf,hd];omega),hd]
  simp only [List.length_singleton]
  by_cases h3:k<i
  ·rw [if_neg (by omega),if_neg (by omega),if_pos h3,baA,if_pos (by omega),if_pos (by omega)]
  ·rw [if_neg h3]
   by_cases h4:k=i
   ·rw [if_pos (by omega),if_pos h4,h4,Nat.sub_self];rfl
   ·rw [if_neg (by omega),if_pos (by omega),if_neg h4,List.getElem?_drop]
    congr 1
    omega
 ·rw [if_neg hk,if_neg (by omega),if_neg (by omega),List.getElem?_eq_none (by omega)]
end Dm
namespace Dm
open Go Ieee
def jbI:Int:=2^2200
def b9:Int:= -2^2300
theorem yad:0<jbI:=by unfold jbI;exact Int.pow_pos (by decide)
theorem kbI:b9< -jbI:=by
 unfold b9 jbI
 have:(2:Int)^2200<2^2300:=Int.pow_lt_pow_of_lt (by decide) (by decide)
 omega
def zat:Datum→Int
 | .number s m i=>signed s m (i+1074).toNat
 | .infinity s=>if s=true then -jbI else jbI
 | .nan _ _=>b9
def Dbl:Datum→Prop
 | .number _ m i=> -1074≤i∧i≤1000∧m<2^53
 |_=>True
theorem gT (n:Nat):Dbl (FloatKind.f64.format.read n):=by
 unfold Format.read
 have e1:FloatKind.f64.format.signWeight=2^63:=rfl
 have e2:FloatKind.f64.format.binade=4503599627370496:=rfl
 have e3:FloatKind.f64.format.infRung=9218868437227405312:=rfl
 have e4:FloatKind.f64.format.leastPlace= -1074:=rfl
 simp only [e1,e2,e3,e4]
 split
 ·exact⟨by omega,by omega,by omega⟩
 ·split
  ·exact⟨by omega,by omega,by omega⟩
  ·split<;>trivial
theorem xJ (s:Bool) (m k:Nat):signed s m k=(if s=true then -(m:Int)else m)*2^k:=by
 unfold signed
 rw [Nat.shiftLeft_eq]
 cases s<;>simp [Int.neg_mul]
theorem qcH {a b:Nat} (h:a≤b):(2:Int)^a≤2^b:=by
 have:=Nat.pow_le_pow_right (n:=2) (by decide) h
 have h5:((2^a:Nat):Int)≤((2^b:Nat):Int):=Int.ofNat_le.2 this
 rwa [Int.natCast_pow,Int.natCast_pow]at h5
theorem bbT {s:Bool} {m k:Nat} (hm:m<2^53) (hk:k≤2100): -jbI<signed s m k∧signed s m k<jbI:=by
 have h1:(m:Int)*2^k<jbI:=by
  have h3:((m:Int))<2^53:=by
   have:((m:Nat):Int)<((2^53:Nat):Int):=Int.ofNat_lt.2 hm
   simpa using this
  have h4:(2:Int)^k≤2^2100:=qcH hk
  have h0:(0:Int)<2^k:=Int.pow_pos (by decide)
  have q1:=Int.mul_lt_mul_of_pos_right h3 h0
  have q2:(2:Int)^53*2^k≤2^53*2^2100:=Int.mul_le_mul_of_nonneg_left h4 (by decide)
  have q3:(2:Int)^53*2^2100=2^(53+2100):=(Int.pow_add ..).symm
  rw [q3]at q2
  exact Int.lt_of_lt_of_le q1 (Int.le_trans q2 (Int.le_of_lt (Int.pow_lt_pow_of_lt (by decide) (by decide))))
 have h0:(0:Int)≤(m:Int)*2^k:=Int.mul_nonneg (Int.natCast_nonneg _) (Int.le_of_lt (Int.pow_pos (by decide)))
 have hp:=yad
 rw [xJ]
 cases s
 ·simp only [Bool.false_eq_true,if_false];omega
 ·simp only [if_true,Int.neg_mul];omega
theorem vaA {d:Datum} (h:Dbl d):(∀s m i,d= .number s m i→ -jbI<zat d∧zat d<jbI):=by
 rintro s m i rfl
 exact bbT h.2.2 (by have:=h.1;have:=h.2.1;omega)
def gaC (a b:Int):Ordering:=if a<b then .lt else if b<a then .gt else .eq
theorem waZ (a b:Int):compare a b=gaC a b:=by
 unfold gaC
 show compareOfLessAndEq a b=_
 unfold compareOfLessAndEq
 split
 ·rfl
 ·split
  ·rw [if_neg (by omega)]
  ·rw [if_pos (by omega)]
theorem zb9 {a b c:Int} (hc:0<c):gaC (a*c) (b*c)=gaC a b:=by
 unfold gaC
 simp only [Int.mul_lt_mul_right hc]
theorem jbL {d e:Datum} (hd:Dbl d) (he:Dbl e) (h1:d.isNaN=false) (h2:e.isNaN=false):d.order e=some (gaC (zat d) (zat e)):=by
 have hp:=yad
 cases d with
 |nan s t=>cases h1
 |infinity s=>cases e with
  |nan s t=>cases h2
  |infinity t=>
   cases s<;>cases t
   ·simp [Datum.order,zat,gaC]
   ·simp only [Datum.order,zat,gaC,Bool.false_eq_true,if_false,if_true];rw [if_neg (by omega),if_pos (by omega)];rfl
   ·simp only [Datum.order,zat,gaC,Bool.false_eq_true,if_false,if_true];rw [if_pos (by omega)];rfl
   ·simp [Datum.order,zat,gaC]
  |number t n j=>
   have:=vaA he t n j rfl
   cases s
   ·simp only [Datum.order,Bool.false_eq_true,if_false,Option.some.injEq]
    unfold gaC
    rw [if_neg (by simp only [zat,Bool.false_eq_true,if_false]at*;omega),if_pos (by simp only [zat,Bool.false_eq_true,if_false]at*;omega)]
   ·simp only [Datum.order,if_true,Option.some.injEq]
    unfold gaC
    rw [if_pos (by simp only [zat,if_true]at*;omega)]
 |number s m i=>cases e with
  |nan s t=>cases h2
  |infinity t=>
   have:=vaA hd s m i rfl
   cases t
   ·simp only [Datum.order,Bool.false_eq_true,if_false,Option.some.injEq]
    unfold gaC
    rw [if_pos (by simp only [zat,Bool.false_eq_true,if_false]at*;omega)]
   ·simp only [Datum.order,if_true,Option.some.injEq]
    unfold gaC
    rw [if_neg (by simp only [zat,if_true]at*;omega),if_pos (by simp only [zat,if_true]at*;omega)]
  |number t n j=>
   simp only [Datum.order,zat,Option.some.injEq,waZ]
   have hb: -1074≤min i j:=by have:=hd.1;have:=he.1;omega
   have e1:(i+1074).toNat=(i - min i j).toNat+(min i j+1074).toNat:=by omega
   have e2:(j+1074).toNat=(j - min i j).toNat+(min i j+1074).toNat:=by omega
   rw [xJ,xJ,xJ,xJ,e1,e2,Int.pow_add,Int.pow_add,←Int.mul_assoc,←Int.mul_assoc,zb9 (Int.pow_pos (by decide))]
def kj:Option Nat→Int
 |some n=>zat (FloatKind.f64.format.read n)
 |none=>b9
theorem kbd {d:Datum} (h:Dbl d):zat d=b9↔d.isNaN=true:=by
 have:=kbI
 have hp:=yad
 cases d with
 |nan s t=>exact⟨fun _=>rfl,fun _=>rfl⟩
 |infinity s=>
  refine⟨fun h=> ?_,fun h=>by cases h⟩
  cases s<;>simp only [zat,Bool.false_eq_true,if_false,if_true]at h<;>omega
 |number s m i=>
  have:=vaA h s m i rfl
  exact⟨fun h=>by omega,fun h=>by cases h⟩
theorem kct {d:Datum} (h:Dbl d):b9≤zat d:=by
 have:=kbI
 have hp:=yad
 cases d with
 |nan s t=>exact Int.le_refl _
 |infinity s=>cases s<;>simp only [zat,Bool.false_eq_true,if_false,if_true]<;>omega
 |number s m i=>have:=vaA h s m i rfl;omega
theorem uH (x:Option Nat):b9≤kj x:=by
 cases x with
 |none=>exact Int.le_refl _
 |some n=>exact kct (gT n)
def udK (x:Option Nat):Bool:=vaH x x != some .eq
theorem kbL {d e:Datum} (h:d.isNaN=true∨e.isNaN=true):d.order e=none:=by
 rcases h with h|h
 ·obtain⟨s,t,rfl⟩:=yp h;rfl
 ·obtain⟨s,t,rfl⟩:=yp h;cases d<;>rfl
theorem zad (x y:Option Nat):vaH x y=if kj x=b9∨kj y=b9 then none else some (gaC (kj x) (kj y)):=by
 cases x with
 |none=>simp [vaH,kj]
 |some a=>cases y with
  |none=>simp [vaH,kj]
  |some b=>
   simp only [vaH,kj,Format.order,kbd (gT a),kbd (gT b)]
   split
   ·rename_i h;exact kbL h
   ·rename_i h
    simp only [not_or,Bool.not_eq_true]at h
    exact jbL (gT a) (gT b) h.1 h.2
theorem yaB (x:Option Nat):udK x=decide (kj x=b9):=by
 unfold udK
 rw [zad]
 by_cases h:kj x=b9
 ·simp [h]
 ·simp [h,gaC]
theorem xbF (x y:Option Nat):(vaH x y==some .lt)=(decide (kj x≠b9)&&decide (kj x<kj y)):=by
 rw [zad]
 have h1:=uH x
 have h2:=uH y
 by_cases hx:kj x=b9
 ·simp [hx]
 ·by_cases hy:kj y=b9
  ·have:¬kj x<b9:=by omega
   simp [hx,hy,this]
  ·simp only [hx,hy,or_self,if_false,ne_eq,not_false_eq_true,decide_true,Bool.true_and,gaC]
   by_cases h:kj x<kj y
   ·simp [h]
   ·by_cases h':kj y<kj x<;>simp [h,h']
theorem gcx (x y:Option Nat):(vaH x y==some .gt)=(decide (kj y≠b9)&&decide (kj y<kj x)):=by
 rw [zad]
 have h1:=uH x
 have h2:=uH y
 by_cases hx:kj x=b9
 ·have:¬kj y<b9:=by omega
  simp [hx,this]
 ·by_cases hy:kj y=b9
  ·simp [hy]
  ·simp only [hx,hy,or_self,if_false,ne_eq,not_false_eq_true,decide_true,Bool.true_and,gaC]
   by_cases h:kj x<kj y
   ·have:¬kj y<kj x:=by omega
    simp [h,this]
   ·by_cases h':kj y<kj x<;>simp [h,h']
theorem zb4 (x y:Option Nat):(vaH x y==some .eq)=(decide (kj y≠b9)&&decide (kj x=kj y)):=by
 rw [zad]
 by_cases hx:kj x=b9
 ·by_cases hy:kj y=b9
  ·simp [hy]
  ·have:¬b9=kj y:=fun e=>hy e.symm
   simp [hx,this]
 ·by_cases hy:kj y=b9
  ·simp [hy]
  ·simp only [hx,hy,or_self,if_false,ne_eq,not_false_eq_true,decide_true,Bool.true_and,gaC]
   by_cases h:kj x<kj y
   ·have:¬kj x=kj y:=by omega
    simp [h,this]
   ·by_cases h':kj y<kj x
    ·have:¬kj x=kj y:=by omega
     simp [h,h',this]
    ·have:kj x=kj y:=by omega
     simp [h,h',this]
end Dm
namespace Dm
open Go Go.IntWalk
abbrev fg (t:Nat):Nat×(List D→Option (Prop×D×Fr)):=(1000000000+t,fun _=>none)
abbrev ovk (f:Nat):Nat×(List D→Option (Prop×D×Fr)):=(2000000000+f,fun _=>none)
theorem zew {P:Program} (t:Nat):∀rs p r fr,(fun _=>none:List D→Option (Prop×D×Fr)) rs=some (p,r,fr)→p→gaH P (1000000000+t) rs r fr:=fun rs p r fr h=>by cases h
theorem veO {P:Program} (t:Nat):∀rs p r fr,(fun _=>none:List D→Option (Prop×D×Fr)) rs=some (p,r,fr)→p→gaH P (2000000000+t) rs r fr:=fun rs p r fr h=>by cases h
theorem za.append {P:Program} {T T':Tab} (h:za P T) (h':za P T'):za P (T++T'):=by
 intro f sp rs p r fr hl hs hp
 rw [bbf]at hl
 cases hk:lk f T with
 |none=>rw [hk]at hl;exact h' f sp rs p r fr hl hs hp
 |some x=>rw [hk]at hl;exact h f sp rs p r fr (by rw [hk];exact hl) hs hp
@[go_sem] theorem jff (x:Int):0≤IntKind.u64.wrap x:=by
 simp only [IntKind.wrap,IntKind.signed,IntKind.bits]
 exact Int.emod_nonneg _ (by decide)
theorem qcM (x:Int):IntKind.u64.wrap (IntKind.i64.wrap x)=IntKind.u64.wrap x:=by
 simp only [IntKind.wrap,IntKind.signed,IntKind.bits,IntKind.min]
 simp
 omega
theorem gcm {i j n:Nat} (h:i≤j) (hj:j≤n) (hn:(n:Int)≤9223372036854775807):IntKind.i64.wrap ((IntKind.u64.wrap (IntKind.i64.wrap (i+j))).fdiv (2^min 1 64))=(((i+j) / 2:Nat):Int):=by
 rw [qcM,u64_in _ (by omega),show(2^min 1 64:Int)=2 from rfl,Int.fdiv_eq_ediv_of_nonneg _ (by decide),i64_in _ (by omega)]
 omega
attribute [go_sem] Int.natCast_nonneg Int.toNat_natCast
def qo (l:List Nat):List (List C):=l.map fun k:Nat=>[.int .u64 (k:Int)]
def u8s (l:List UInt8):List (List C):=l.map fun k:UInt8=>[.int .u8 (k.toNat:Int)]
def vaK (l:List Int):List (List C):=l.map fun k=>[.int .i64 k]
def wk (l:List (List C)):List Nat:=l.map fun|[.int _ k]=>k.toNat|_=>0
def vf (l:List (List C)):List UInt8:=l.map fun|[.int _ k]=>UInt8.ofNat k.toNat|_=>0
def w8 (n:Int):UInt8:=UInt8.ofNat (n % 256).toNat
theorem qaH (n:Int):IntKind.u8.wrap n=((w8 n).toNat:Int):=by
 have h:IntKind.u8.wrap n=n % 256:=by simp [IntKind.wrap,IntKind.signed,IntKind.bits]
 rw [h,w8,UInt8.toNat_ofNat']
 omega
def gbD (l:List (List C)):List Int:=l.map fun|[.int _ k]=>k|_=>0
@[simp,go_sem] theorem jcM (l:List Nat):(qo l).length=l.length:=by simp [qo]
@[simp,go_sem] theorem xc6 (l:List UInt8):(u8s l).length=l.length:=by simp [u8s]
@[simp,go_sem] theorem wcz (l:List Int):(vaK l).length=l.length:=by simp [vaK]
@[go_sem] theorem yd2 (l:List Nat) (i:Nat):(qo l).getD i [.int .u64 0]=[.int .u64 (l.getD i default:Nat)]:=by
 simp only [qo,List.getD_eq_getElem?_getD,List.getElem?_map]
 cases l[i]? <;>rfl
@[go_sem] theorem geW (l:List UInt8) (i:Nat):(u8s l).getD i [.int .u8 0]=[.int .u8 ((l.getD i default).toNat:Int)]:=by
 simp only [u8s,List.getD_eq_getElem?_getD,List.getElem?_map]
 cases l[i]? <;>rfl
@[go_sem] theorem gdL (l:List Int) (i:Nat):(vaK l).getD i [.int .i64 0]=[.int .i64 (l.getD i default)]:=by
 simp only [vaK,List.getD_eq_getElem?_getD,List.getElem?_map]
 cases l[i]? <;>rfl
@[go_sem] theorem xdw (l:List Nat):bf 1 (qo l)=True:=by simp [bf,qo]
@[go_sem] theorem gd2 (l:List UInt8):bf 1 (u8s l)=True:=by simp [bf,u8s]
@[go_sem] theorem vdf (l:List Int):bf 1 (vaK l)=True:=by simp [bf,vaK]
@[go_sem] theorem bcS (l:List Nat):wk (qo l)=l:=by
 simp only [wk,qo,List.map_map]
 exact List.map_id'' (fun e=>by simp) l
@[go_sem] theorem jr (l:List UInt8):vf (u8s l)=l:=by
 simp only [vf,u8s,List.map_map]
 exact List.map_id'' (fun e=>by simp) l
@[go_sem] theorem gcS (l:List Int):gbD (vaK l)=l:=by
 simp only [gbD,vaK,List.map_map]
 exact List.map_id'' (fun e=>by simp) l
@[go_sem] theorem zd2 (a b:List Nat):qo a++qo b=qo (a++b):=by simp [qo]
@[go_sem] theorem ueW (a b:List UInt8):u8s a++u8s b=u8s (a++b):=by simp [u8s]
@[go_sem] theorem zdw (l:List Nat) (k:Nat):(qo l).drop k=qo (l.drop k):=by simp [qo]
@[go_sem] theorem kd2 (l:List UInt8) (k:Nat):(u8s l).drop k=u8s (l.drop k):=by simp [u8s]
@[go_sem] theorem ydw (l:List Nat) (k:Nat):(qo l).take k=qo (l.take k):=by simp [qo]
@[go_sem] theorem ud2 (l:List UInt8) (k:Nat):(u8s l).take k=u8s (l.take k):=by simp [u8s]
@[go_sem] theorem xd2 (z:Int) (h:0≤z):[[C.int .u64 z]]=qo [z.toNat]:=by simp [qo,Int.toNat_of_nonneg h]
@[go_sem] theorem bdv (z:Int) (l:List Nat) (h:0≤z):[C.int .u64 z]::qo l=qo (z.toNat::l):=by simp [qo,Int.toNat_of_nonneg h]
@[go_sem] theorem qd2 (l:List Nat) (i:Nat) (z:Int) (h:0≤z):(qo l).set i [C.int .u64 z]=qo (l.set i z.toNat):=by simp [qo,List.map_set,Int.toNat_of_nonneg h]
@[go_sem] theorem bdL (z:Int):[[C.int .i64 z]]=vaK [z]:=rfl
@[go_sem] theorem kdf (z:Int) (l:List Int):[C.int .i64 z]::vaK l=vaK (z::l):=rfl
@[go_sem] theorem zdM (l:List Int) (i:Nat) (z:Int):(vaK l).set i [C.int .i64 z]=vaK (l.set i z):=by simp [vaK,List.map_set]
@[go_sem] theorem beW (n:Int):[[C.int .u8 (IntKind.u8.wrap n)]]=u8s [w8 n]:=by rw [qaH];rfl
@[go_sem] theorem jd2 (n:Int) (l:List UInt8):[C.int .u8 (IntKind.u8.wrap n)]::u8s l=u8s (w8 n::l):=by rw [qaH];rfl
@[go_sem] theorem zeX (l:List UInt8) (i:Nat) (n:Int):(u8s l).set i [C.int .u8 (IntKind.u8.wrap n)]=u8s (l.set i (w8 n)):=by rw [qaH];simp [u8s,List.map_set]
@[go_sem] theorem vd2 (b:UInt8):[[C.int .u8 (b.toNat:Int)]]=u8s [b]:=rfl
@[go_sem] theorem qdw (b:UInt8) (l:List UInt8):[C.int .u8 (b.toNat:Int)]::u8s l=u8s (b::l):=rfl
@[go_sem] theorem wd2 (l:List UInt8) (i:Nat) (b:UInt8):(u8s l).set i [C.int .u8 (b.toNat:Int)]=u8s (l.set i b):=by simp [u8s,List.map_set]
def jaH (l:List UInt8):ByteArray:=⟨l.toArray⟩
@[go_sem] theorem wb8:∀l:List UInt8,vb8 (u8s l)=some l
 |[]=>rfl
 |b::l=>by
  have h:=wb8 l
  show vb8 ([.int .u8 (b.toNat:Int)]::u8s l)=_
  unfold vb8
  rw [h]
  simp
@[go_sem] theorem udU:vb8 []=some []:=rfl
@[go_sem] theorem qeq (l:List UInt8):(⟨l.toArray⟩:ByteArray)=jaH l:=rfl
theorem vbc {a b:List UInt8}:jaH a=jaH b↔a=b:=by
 constructor
 ·intro h
  have:=congrArg ByteArray.data h
  simpa [jaH]using this
 ·rintro rfl;rfl
@[go_sem] theorem jdF (a b:List UInt8):(jaH a==jaH b)=decide (a=b):=by
 have h:=beq_toListBytes (jaH a) (jaH b)
 rw [ByteArray.toList_eq,ByteArray.toList_eq]at h
 refine h.trans ?_
 rw [Bool.eq_iff_iff,beq_iff_eq,decide_eq_true_iff]
 simp [jaH]
def gac (l:List (Option Nat)):List (List C):=l.map fun k=>[.flt .f64 k]
def wdc (l:List (List C)):List (Option Nat):=l.map fun|[.flt _ k]=>k|_=>none
@[simp,go_sem] theorem xcu (l:List (Option Nat)):(gac l).length=l.length:=by simp [gac]
@[go_sem] theorem udJ (l:List (Option Nat)) (i:Nat):(gac l).getD i [.flt .f64 (some 0)]=[.flt .f64 (l.getD i (some 0))]:=by
 simp only [gac,List.getD_eq_getElem?_getD,List.getElem?_map]
 cases l[i]? <;>rfl
@[go_sem] theorem wdd (l:List (Option Nat)):bf 1 (gac l)=True:=by simp [bf,gac]
@[go_sem] theorem ucS (l:List (Option Nat)):wdc (gac l)=l:=by
 simp only [wdc,gac,List.map_map]
 exact List.map_id'' (fun e=>by simp) l
@[go_sem] theorem wdJ (a b:List (Option Nat)):gac a++gac b=gac (a++b):=by simp [gac]
@[go_sem] theorem kdd (l:List (Option Nat)) (k:Nat):(gac l).drop k=gac (l.drop k):=by simp [gac]
@[go_sem] theorem vdd (l:List (Option Nat)) (k:Nat):(gac l).take k=gac (l.take k):=by simp [gac]
@[go_sem] theorem gdJ (z:Option Nat):[[C.flt .f64 z]]=gac [z]:=rfl
@[go_sem] theorem jdd (z:Option Nat) (l:List (Option Nat)):[C.flt .f64 z]::gac l=gac (z::l):=rfl
@[go_sem] theorem bdJ (l:List (Option Nat)) (i:Nat) (z:Option Nat):(gac l).set i [C.flt .f64 z]=gac (l.set i z):=by simp [gac,List.map_set]
@[go_sem] theorem qfr:flo .f64 0=some 0:=by decide
@[go_sem] theorem jfr:flo .f64 4607182418800017408=some 4607182418800017408:=by decide
@[go_sem] theorem vdK:flo .f64 9221120237041090561=none:=by decide
def we5 (l:List (List C×List C)):List (Nat×Int):=l.map fun|([.int _ k],[.int _ v])=>(k.toNat,v)|_=>(0,0)
@[go_sem] theorem udH {k v:IntKind} (l:List (Nat×Int)):we5 (kvF k v l)=l:=by
 simp only [we5,kvF,List.map_map]
 exact List.map_id'' (fun e=>by simp) l
def vai (x y:Int):Int:=if x<y then -1 else if y<x then 1 else 0
theorem yw {x y:Int}:vai x y<0↔x<y:=by
 unfold vai
 split
 ·simp;assumption
 ·split<;>simp<;>omega
theorem xck {x y:Int}:vai x y=0↔x=y:=by
 unfold vai
 split
 ·simp;omega
 ·split<;>simp<;>omega
theorem wG {α:Type} [DecidableEq α] [Inhabited α] {a b:List α} {i:Nat} (h1:i<a.length) (h2:i<b.length) (h:a.take i=b.take i):
 a.take (i+1)=b.take (i+1)↔a.getD i default=b.getD i default:=by
 have e1:a.take (i+1)=a.take i++[a[i]]:=by simp
 have e2:b.take (i+1)=b.take i++[b[i]]:=by simp
 rw [e1,e2,h,List.append_cancel_left_eq]
 simp [List.getD,List.getElem?_eq_getElem h1,List.getElem?_eq_getElem h2]
theorem xe {α:Type} [Inhabited α] {l:List α} {i:Nat} (h:i<l.length):l.getD i default=l[i]:=by
 rw [List.getD_eq_getElem?_getD,List.getElem?_eq_getElem h];rfl
theorem take_succ {α:Type} [Inhabited α] {l:List α} {i:Nat} (h:i<l.length):l.take (i+1)=l.take i++[l.getD i default]:=by
 rw [xe h];simp
theorem va {α:Type} [Inhabited α] {l:List α} {x:α}:x∈l↔∃i,i<l.length∧l.getD i default=x:=by
 constructor
 ·intro h
  obtain⟨i,hi,rfl⟩:=List.getElem_of_mem h
  exact⟨i,hi,xe hi⟩
 ·rintro⟨i,hi,rfl⟩
  rw [xe hi]
  exact List.getElem_mem hi
theorem zdq {m:List (Nat×Int)} (h:(m.map (·.1)).Nodup) {x y:Nat×Int} (hx:x∈m) (hy:y∈m) (he:x.1=y.1):x=y:=by
 induction m with
 |nil=>cases hx
 |cons z m ih=>
  simp only [List.map_cons,List.nodup_cons,List.mem_map]at h
  rcases List.mem_cons.1 hx with rfl|hx'<;>rcases List.mem_cons.1 hy with rfl|hy'
  ·rfl
  ·exact absurd ⟨y,hy',he.symm⟩ h.1
  ·exact absurd ⟨x,hx',he⟩ h.1
  ·exact ih h.2 hx' hy'
theorem ydq {m sn:List (Nat×Int)} (h:(m.map (·.1)).Nodup) (hs:∀x∈sn,x∈m) {x:Nat×Int} (hx:x∈m) (hn:x∉sn):x.1∉sn.map (·.1):=fun hm=>by
 obtain⟨y,hy,he⟩:=List.mem_map.1 hm
 exact hn (zdq h hx (hs y hy) he.symm▸hy)
theorem kaC {a:Nat} {b:Int}:∀{l:List (Nat×Int)},a∉l.map (·.1)→qaN a b l=l++[(a,b)]
 |[],_=>rfl
 |(x,y)::l,h=>by
  simp only [List.map_cons,List.mem_cons,not_or]at h
  rw [qaN,if_neg (fun e=>h.1 e.symm),kaC h.2];rfl
theorem jaN {a:Nat} {b:Int}:∀{l:List (Nat×Int)},(qaN a b l).map (·.1)=if a∈l.map (·.1)then l.map (·.1)else l.map (·.1)++[a]
 |[]=>by simp [qaN]
 |(x,y)::l=>by
  rw [qaN]
  by_cases h:x=a
  ·subst h;simp
  ·rw [if_neg h,List.map_cons,jaN,List.map_cons]
   have h':¬a=x:=fun e=>h e.symm
   by_cases h2:a∈l.map (·.1)
   ·simp [h2]
   ·simp [h2,h']
theorem jaC {a:Nat} {b:Int} {l:List (Nat×Int)} (h:(l.map (·.1)).Nodup):((qaN a b l).map (·.1)).Nodup:=by
 rw [jaN]
 split
 ·exact h
 ·rename_i hn
  rw [List.nodup_append]
  exact⟨h,by simp,fun x hx y hy=>by simp at hy;subst hy;rintro rfl;exact hn hx⟩
theorem uw {a k:Nat} {b:Int}:∀{l:List (Nat×Int)},nlk k (qaN a b l)=if k=a then some b else nlk k l
 |[]=>by
  by_cases h:a=k
  ·subst h;simp [qaN,nlk]
  ·have:¬k=a:=fun e=>h e.symm
   simp [qaN,nlk,h,this]
 |(x,y)::l=>by
  rw [qaN]
  by_cases h:x=a
  ·subst h
   by_cases h2:x=k
   ·subst h2;simp [nlk]
   ·have:¬k=x:=fun e=>h2 e.symm
    simp [nlk,h2,this]
  ·rw [if_neg h,nlk,nlk,uw]
   by_cases h2:x=k
   ·subst h2;simp [h]
   ·simp [h2]
theorem yM {k:Nat} {b:Int}:∀{l:List (Nat×Int)},(l.map (·.1)).Nodup→(nlk k l=some b↔(k,b)∈l)
 |[],_=>by simp [nlk]
 |(x,y)::l,h=>by
  simp only [List.map_cons,List.nodup_cons]at h
  rw [nlk]
  by_cases h2:x=k
  ·subst h2
   rw [if_pos rfl]
   simp only [Option.some.injEq,List.mem_cons,Prod.mk.injEq,true_and]
   refine⟨fun e=> .inl e.symm,fun e=> ?_⟩
   rcases e with e|e
   ·exact e.symm
   ·exact absurd (List.mem_map.2 ⟨_,e,rfl⟩) h.1
  ·rw [if_neg h2,yM h.2,List.mem_cons]
   refine⟨.inr,fun e=> ?_⟩
   rcases e with e|e
   ·simp only [Prod.mk.injEq]at e;exact absurd e.1.symm h2
   ·exact e
theorem qaC {k:Nat}:∀{l:List (Nat×Int)},(nlk k l=none↔k∉l.map (·.1))
 |[]=>by simp [nlk]
 |(x,y)::l=>by
  rw [nlk]
  by_cases h2:x=k
  ·subst h2;simp
  ·have:¬k=x:=fun e=>h2 e.symm
   rw [if_neg h2,qaC];simp [this]
theorem gbp {l:List (Nat×Int)} (h:(l.map (·.1)).Nodup):l.Nodup:=by
 induction l with
 |nil=>exact List.nodup_nil
 |cons x l ih=>
  simp only [List.map_cons,List.nodup_cons]at h
  exact List.nodup_cons.2 ⟨fun hm=>h.1 (List.mem_map.2 ⟨x,hm,rfl⟩),ih h.2⟩
theorem bcm {sn:List (Nat×Int)} {x:Nat×Int} (h:sn.Nodup) (hx:x∉sn):(sn++[x]).Nodup:=by
 rw [List.nodup_append]
 exact⟨h,by simp,fun a ha b hb=>by simp at hb;subst hb;rintro rfl;exact hx ha⟩
theorem ub6 {k v:IntKind} {a b:List (Nat×Int)} (h:a.Perm b):(kvF k v a).Perm (kvF k v b):=h.map _
end Dm
namespace Dm
namespace Srt
structure Tot {κ:Type} (lt:κ→κ→Prop):Prop where
 irr:∀a,¬lt a a
 tr:∀{a b c},lt a b→lt b c→lt a c
 tot:∀a b,lt a b∨a=b∨lt b a
theorem zH:Tot (fun a b:Nat=>a<b):=⟨fun a=>by omega,fun h h'=>by omega,fun a b=>by omega⟩
section
variable {α κ:Type} [Inhabited α] [DecidableEq κ] (key:α→κ) (lt:κ→κ→Prop) [DecidableRel lt]
def Up (l:List α):Prop:=l.Pairwise fun a b=>lt (key a) (key b)
def pos (l:List α) (k:κ):Nat:=l.findIdx fun x=>decide (¬lt (key x) k)
def thr (l:List α) (k:κ):Bool:=decide (pos key lt l k<l.length∧key (l.getD (pos key lt l k) default)=k)
def ins (l:List α) (i:Nat) (x:α):List α:=l.take i++x::l.drop i
def fnd (l:List α) (k:κ):Option α:=l.find? fun x=>decide (key x=k)
def put (l:List α) (x:α):List α:=if thr key lt l (key x)=true then l.set (pos key lt l (key x)) x else ins l (pos key lt l (key x)) x
def Chn (l:List α):Prop:=∀j,j<l.length→0<j→lt (key (l.getD (j - 1) default)) (key (l.getD j default))
instance (l:List α):Decidable (Chn key lt l):=by unfold Chn;infer_instance
variable {key lt} {l:List α} {k:κ} {x:α} {i:Nat} (T:Tot lt)
theorem ycn:pos key lt l k≤l.length:=List.findIdx_le_length
theorem kds (h:i<pos key lt l k):lt (key (l.getD i default)) k:=by
 have h2:i<l.length:=Nat.lt_of_lt_of_le h ycn
 have:=List.not_of_lt_findIdx h
 rw [xe h2]
 simpa using this
theorem pos_eq (hi:i≤l.length) (h1:∀j,j<i→lt (key (l.getD j default)) k) (h2:i<l.length→¬lt (key (l.getD i default)) k):pos key lt l k=i:=by
 unfold pos
 rcases Nat.lt_or_ge i l.length with h|h
 ·rw [List.findIdx_eq h]
  have h3:=h2 h
  rw [xe h]at h3
  refine⟨by simpa using h3,fun j hj=> ?_⟩
  have:=h1 j hj
  rw [xe (Nat.lt_trans hj h)]at this
  simpa using this
 ·have:i=l.length:=by omega
  subst this
  refine Nat.le_antisymm List.findIdx_le_length (Nat.le_of_not_lt fun hlt=> ?_)
  have h3:=List.findIdx_getElem (w:=hlt)
  have h4:=h1 _ hlt
  rw [xe hlt]at h4
  simp only [decide_eq_true_eq]at h3
  exact h3 h4
theorem jB:Up key lt l↔∀a b,a<b→b<l.length→lt (key (l.getD a default)) (key (l.getD b default)):=by
 unfold Up
 rw [List.pairwise_iff_getElem]
 refine⟨fun h a b hab hb=> ?_,fun h a b ha hb hab=> ?_⟩
 ·rw [xe hb,xe (by omega)];exact h a b (by omega) hb hab
 ·have:=h a b hab hb
  rwa [xe hb,xe ha]at this
theorem wc9 (h:pos key lt l k<l.length):¬lt (key (l.getD (pos key lt l k) default)) k:=by
 have h3:=List.findIdx_getElem (w:=h)
 rw [xe h]
 exact of_decide_eq_true h3
include T
theorem kai:Chn key lt l↔Up key lt l:=by
 rw [jB]
 refine⟨fun h a b hab=> ?_,fun h j hj h0=>h (j - 1) j (by omega) hj⟩
 induction b with
 |zero=>omega
 |succ b ih=>
  intro hb
  have h1:=h (b+1) hb (by omega)
  rw [Nat.add_sub_cancel]at h1
  by_cases hab':a=b
  ·rw [hab'];exact h1
  ·exact T.tr (ih (by omega) (by omega)) h1
theorem jds (hu:Up key lt l) (h:pos key lt l k≤i) (hi:i<l.length):¬lt (key (l.getD i default)) k:=by
 have h1:=wc9 (key:=key) (lt:=lt) (l:=l) (k:=k) (by omega)
 by_cases he:pos key lt l k=i
 ·rw [←he];exact h1
 ·intro h2
  exact h1 (T.tr (jB.1 hu _ _ (by omega) hi) h2)
theorem baG (hu:Up key lt l):thr key lt l k=true↔∃x∈l,key x=k:=by
 simp only [thr,decide_eq_true_eq]
 refine⟨fun⟨h1,h2⟩=>⟨_,va.2 ⟨_,h1,rfl⟩,h2⟩,fun⟨x,hx,he⟩=> ?_⟩
 obtain⟨i,hi,rfl⟩:=va.1 hx
 have h1:pos key lt l k=i:=by
  refine pos_eq (by omega) (fun j hj=> ?_) fun _=> ?_
  ·rw [←he];exact jB.1 hu j i hj hi
  ·rw [he];exact T.irr _
 rw [h1];exact⟨hi,he⟩
theorem kco (hu:Up key lt l) {a b:α} (ha:a∈l) (hb:b∈l) (h:key a=key b):a=b:=by
 obtain⟨i,hi,rfl⟩:=va.1 ha
 obtain⟨j,hj,rfl⟩:=va.1 hb
 rcases Nat.lt_trichotomy i j with h1|h1|h1
 ·have:=jB.1 hu i j h1 hj;rw [h]at this;exact absurd this (T.irr _)
 ·rw [h1]
 ·have:=jB.1 hu j i h1 hi;rw [h]at this;exact absurd this (T.irr _)
theorem qaB (hu:Up key lt l):fnd key l k=some x↔x∈l∧key x=k:=by
 refine⟨fun h=>⟨List.mem_of_find?_eq_some h,by simpa using List.find?_some h⟩,fun⟨h1,h2⟩=> ?_⟩
 cases hf:fnd key l k with
 |none=>rw [fnd,List.find?_eq_none]at hf;exact absurd h2 (by simpa using hf x h1)
 |some y=>
  have h3:=List.mem_of_find?_eq_some hf
  have h4:key y=k:=by simpa using List.find?_some hf
  rw [kco T hu h3 h1 (h4.trans h2.symm)]
omit T in
theorem xaB:fnd key l k=none↔∀x∈l,key x≠k:=by
 rw [fnd,List.find?_eq_none];simp
theorem xa0 (hu:Up key lt l):fnd key l k=if thr key lt l k=true then some (l.getD (pos key lt l k) default)else none:=by
 split
 ·rename_i h
  have h':=h
  simp only [thr,decide_eq_true_eq]at h'
  exact(qaB T hu).2 ⟨va.2 ⟨_,h'.1,rfl⟩,h'.2⟩
 ·rename_i h
  rw [xaB]
  exact fun x hx he=>h ((baG T hu).2 ⟨x,hx,he⟩)
theorem ext {a b:List α} (ha:Up key lt a) (hb:Up key lt b) (h:∀x,x∈a↔x∈b):a=b:=by
 induction a generalizing b with
 |nil=>
  cases b with
  |nil=>rfl
  |cons y b=>exact absurd ((h y).2 (by simp)) (by simp)
 |cons x a ih=>
  cases b with
  |nil=>exact absurd ((h x).1 (by simp)) (by simp)
  |cons y b=>
   simp only [Up,List.pairwise_cons]at ha hb
   have hxy:x=y:=by
    rcases List.mem_cons.1 ((h x).1 (by simp))with h1|h1
    ·exact h1
    ·rcases List.mem_cons.1 ((h y).2 (by simp))with h2|h2
     ·exact h2.symm
     ·exact absurd (T.tr (ha.1 y h2) (hb.1 x h1)) (T.irr _)
   subst hxy
   congr 1
   refine ih ha.2 hb.2 fun z=> ?_
   have hz:=h z
   simp only [List.mem_cons]at hz
   refine⟨fun h1=> ?_,fun h1=> ?_⟩
   ·rcases hz.1 (.inr h1)with h2|h2
    ·subst h2;exact absurd (ha.1 z h1) (T.irr _)
    ·exact h2
   ·rcases hz.2 (.inr h1)with h2|h2
    ·subst h2;exact absurd (hb.1 z h1) (T.irr _)
    ·exact h2
omit T in
theorem bbe:List.Perm (ins l i x) (x::l):=by
 have:=List.perm_middle (a:=x) (l₁:=l.take i) (l₂:=l.drop i)
 rwa [List.take_append_drop]at this
theorem gdf (hu:Up key lt l) (ht:¬thr key lt l (key x)=true):Up key lt (ins l (pos key lt l (key x)) x):=by
 have hn:∀e∈l,¬key e=key x:=fun e he h=>ht ((baG T hu).2 ⟨e,he,h⟩)
 have hlo:∀e∈l.take (pos key lt l (key x)),lt (key e) (key x):=fun e he=>by
  obtain⟨i,hi,rfl⟩:=List.getElem_of_mem he
  rw [List.length_take]at hi
  have:=kds (key:=key) (lt:=lt) (l:=l) (k:=key x) (i:=i) (by omega)
  rw [xe (by omega)]at this
  simpa using this
 have hhi:∀e∈l.drop (pos key lt l (key x)),lt (key x) (key e):=fun e he=>by
  obtain⟨i,hi,rfl⟩:=List.getElem_of_mem he
  rw [List.length_drop]at hi
  have h3:=jds T hu (k:=key x) (i:=pos key lt l (key x)+i) (by omega) (by omega)
  have h4:=hn _ (List.mem_of_mem_drop he)
  rw [xe (by omega)]at h3
  simp only [List.getElem_drop]at h4⊢
  rcases T.tot (key l[pos key lt l (key x)+i]) (key x)with h|h|h
  ·exact absurd h h3
  ·exact absurd h h4
  ·exact h
 unfold Up at*
 rw [←List.take_append_drop (pos key lt l (key x)) l,List.pairwise_append]at hu
 rw [ins,List.pairwise_append]
 refine⟨hu.1,List.pairwise_cons.2 ⟨hhi,hu.2.1⟩,fun a ha b hb=> ?_⟩
 rcases List.mem_cons.1 hb with rfl|hb
 ·exact hlo a ha
 ·exact hu.2.2 a ha b hb
omit T in
theorem jad {p:Nat} (hp:p<l.length) (q:Nat):(l.set p x).getD q default=if q=p then x else l.getD q default:=by
 rw [List.getD_eq_getElem?_getD,List.getElem?_set]
 by_cases h:p=q
 ·subst h;simp [hp]
 ·have:¬q=p:=fun e=>h e.symm
  simp [h,this]
omit T in
theorem zdu {p:Nat} (hu:Up key lt l) (hp:p<l.length) (hk:key x=key (l.getD p default)):Up key lt (l.set p x):=by
 rw [jB]at*
 intro a b hab hb
 rw [List.length_set]at hb
 have:∀q,key ((l.set p x).getD q default)=key (l.getD q default):=fun q=>by
  rw [jad hp]
  split
  ·rename_i h;rw [h,hk]
  ·rfl
 rw [this,this]
 exact hu a b hab hb
theorem uds (hu:Up key lt l):Up key lt (put key lt l x):=by
 unfold put
 split
 ·rename_i h
  simp only [thr,decide_eq_true_eq]at h
  exact zdu hu h.1 h.2.symm
 ·rename_i h;exact gdf T hu h
theorem xbK (hu:Up key lt l) {y:α}:y∈put key lt l x↔y=x∨(y∈l∧key y≠key x):=by
 unfold put
 split
 ·rename_i h
  simp only [thr,decide_eq_true_eq]at h
  obtain⟨h1,h2⟩:=h
  refine⟨fun hy=> ?_,fun hy=> ?_⟩
  ·obtain⟨i,hi,rfl⟩:=va.1 hy
   rw [List.length_set]at hi
   rw [jad h1]
   split
   ·exact .inl rfl
   ·rename_i hne
    refine .inr ⟨va.2 ⟨i,hi,rfl⟩,fun he=> ?_⟩
    have:=kco T hu (va.2 ⟨i,hi,rfl⟩) (va.2 ⟨_,h1,rfl⟩) (he.trans h2.symm)
    rcases Nat.lt_trichotomy i (pos key lt l (key x))with h|h|h
    ·have h3:=jB.1 hu _ _ h h1;rw [this]at h3;exact T.irr _ h3
    ·exact hne h
    ·have h3:=jB.1 hu _ _ h hi;rw [this]at h3;exact T.irr _ h3
  ·rcases hy with rfl|⟨hy,hne⟩
   ·exact va.2 ⟨pos key lt l (key y),by rw [List.length_set];exact h1,by rw [jad h1,if_pos rfl]⟩
   ·obtain⟨i,hi,rfl⟩:=va.1 hy
    refine va.2 ⟨i,by rw [List.length_set];exact hi, ?_⟩
    rw [jad h1,if_neg]
    rintro rfl
    exact hne h2
 ·rename_i h
  rw [bbe.mem_iff,List.mem_cons]
  refine⟨fun hy=>hy.imp id fun hy=>⟨hy,fun he=>h ((baG T hu).2 ⟨y,hy,he⟩)⟩,fun hy=>hy.imp id fun hy=>hy.1⟩
omit T in
theorem va0:(ins l i x).length=l.length+1:=bbe.length_eq
theorem yav (hu:Up key lt l):l.filter (fun e=>decide (lt (key e) (key x)))++x::l.filter (fun e=>decide (lt (key x) (key e)))=put key lt l x:=by
 refine ext T (key:=key) (lt:=lt) ?_ (uds T hu) fun y=> ?_
 ·unfold Up at*
  rw [List.pairwise_append]
  refine⟨hu.filter _,List.pairwise_cons.2 ⟨fun b hb=>by simpa using(List.mem_filter.1 hb).2,hu.filter _⟩,fun a ha b hb=> ?_⟩
  have h1:lt (key a) (key x):=by simpa using(List.mem_filter.1 ha).2
  rcases List.mem_cons.1 hb with rfl|hb
  ·exact h1
  ·exact T.tr h1 (by simpa using(List.mem_filter.1 hb).2)
 ·rw [xbK T hu]
  simp only [List.mem_append,List.mem_cons,List.mem_filter,decide_eq_true_eq]
  refine⟨fun h=> ?_,fun h=> ?_⟩
  ·rcases h with⟨h1,h2⟩|h1|⟨h1,h2⟩
   ·exact .inr ⟨h1,fun e=>T.irr _ (e▸h2)⟩
   ·exact .inl h1
   ·exact .inr ⟨h1,fun e=>T.irr _ (e▸h2)⟩
  ·rcases h with h1|⟨h1,h2⟩
   ·exact .inr (.inl h1)
   ·rcases T.tot (key y) (key x)with h|h|h
    ·exact .inl ⟨h1,h⟩
    ·exact absurd h h2
    ·exact .inr (.inr ⟨h1,h⟩)
end
end Srt
end Dm
namespace Dm
open Go
@[go_sem] theorem uen:w9 Go.Proofs.Tryz.prog 22=none:=by kernel_rfl
@[go_sem] theorem ben:w9 Go.Proofs.Tryz.prog 24=none:=by kernel_rfl
@[go_sem] theorem zeo:w9 Go.Proofs.Tryz.prog 27=none:=by kernel_rfl
@[go_sem] theorem yeo:w9 Go.Proofs.Tryz.prog 32=none:=by kernel_rfl
@[go_sem] theorem xeo:w9 Go.Proofs.Tryz.prog 33=none:=by kernel_rfl
@[go_sem] theorem qeo:w9 Go.Proofs.Tryz.prog 34=none:=by kernel_rfl
@[go_sem] theorem jeo:w9 Go.Proofs.Tryz.prog 35=none:=by kernel_rfl
@[go_sem] theorem keo:w9 Go.Proofs.Tryz.prog 36=none:=by kernel_rfl
@[go_sem] theorem veo:w9 Go.Proofs.Tryz.prog 41=none:=by kernel_rfl
@[go_sem] theorem weo:w9 Go.Proofs.Tryz.prog 44=none:=by kernel_rfl
@[go_sem] theorem ueo:w9 Go.Proofs.Tryz.prog 45=none:=by kernel_rfl
@[go_sem] theorem geo:w9 Go.Proofs.Tryz.prog 46=none:=by kernel_rfl
@[go_sem] theorem beo:w9 Go.Proofs.Tryz.prog 49=none:=by kernel_rfl
@[go_sem] theorem zep:w9 Go.Proofs.Tryz.prog 84=none:=by kernel_rfl
@[go_sem] theorem zdD:w9 Go.Proofs.Tryz.prog 104=some (3,101,1):=by kernel_rfl
@[go_sem] theorem ydD:w9 Go.Proofs.Tryz.prog 134=some (5,50,1):=by kernel_rfl
@[go_sem] theorem xdD:w9 Go.Proofs.Tryz.prog 164=none:=by kernel_rfl
@[go_sem] theorem qdD:w9 Go.Proofs.Tryz.prog 248=none:=by kernel_rfl
@[go_sem] theorem jdD:w9 Go.Proofs.Tryz.prog 288=some (11,3,1):=by kernel_rfl
@[go_sem] theorem kdD:w9 Go.Proofs.Tryz.prog 296=none:=by kernel_rfl
@[go_sem] theorem qcS:bcr Go.Proofs.Tryz.prog 81 9=true:=by kernel_rfl
@[go_sem] theorem jdE:qx Go.Proofs.Tryz.prog 26=some [D.c (C.int IntKind.u64 0),D.nil,D.c (C.int IntKind.i64 0)]:=by kernel_rfl
@[go_sem] theorem kdE:qx Go.Proofs.Tryz.prog 29=some [D.c (C.int IntKind.u64 0),D.c (C.int IntKind.i64 0),D.c (C.int IntKind.u64 0),D.c (C.int IntKind.u64 0),D.nil,D.c (C.int IntKind.i64 0),D.c (C.int IntKind.u64 0),D.c (C.int IntKind.u64 0),D.c (C.int IntKind.u64 0),D.nil,D.nil]:=by kernel_rfl
@[go_sem] theorem vdE:qx Go.Proofs.Tryz.prog 38=some [D.c (C.int IntKind.u64 0),D.nil]:=by kernel_rfl
@[go_sem] theorem wdE:qx Go.Proofs.Tryz.prog 40=some [D.nil,D.nil,D.nil,D.nil,D.c (C.int IntKind.u64 0),D.nil,D.c (C.int IntKind.u64 0),D.c (C.int IntKind.u64 0)]:=by kernel_rfl
@[go_sem] theorem udE:qx Go.Proofs.Tryz.prog 43=some [D.nil]:=by kernel_rfl
@[go_sem] theorem gdE:qx Go.Proofs.Tryz.prog 48=some [D.nil,D.nil,D.nil,D.nil,D.c (C.int IntKind.u64 0),D.nil,D.c (C.int IntKind.u64 0),D.c (C.int IntKind.u64 0),D.nil,D.nil,D.nil,D.nil]:=by kernel_rfl
@[go_sem] theorem bdE:qx Go.Proofs.Tryz.prog 59=some [D.c (C.int IntKind.i64 0),D.c (C.int IntKind.u64 0),D.c (C.int IntKind.u64 0)]:=by kernel_rfl
@[go_sem] theorem zdF:qx Go.Proofs.Tryz.prog 64=some [D.c (C.int IntKind.u64 0),D.c (C.int IntKind.i64 0),D.c (C.int IntKind.u64 0),D.c (C.int IntKind.u64 0)]:=by kernel_rfl
@[go_sem] theorem ydF:qx Go.Proofs.Tryz.prog 70=some [D.c (C.int IntKind.u64 0),D.c (C.int IntKind.u64 0),D.c (C.bool false)]:=by kernel_rfl
@[go_sem] theorem xdF:qx Go.Proofs.Tryz.prog 83=some [D.c (C.int IntKind.u64 0),D.c (C.int IntKind.i64 0),D.nil]:=by kernel_rfl
@[go_sem] theorem xda:qx Go.Proofs.Tryz.prog 101=some [D.nilf]:=by kernel_rfl
@[go_sem] theorem qda:qx Go.Proofs.Tryz.prog 104=some [D.nilf,D.nilf,D.nilf]:=by kernel_rfl
@[go_sem] theorem jda:qx Go.Proofs.Tryz.prog 134=some [D.c (C.int IntKind.i64 0),D.c (C.int IntKind.i64 0),D.c (C.int IntKind.i64 0),D.c (C.int IntKind.i64 0),D.c (C.int IntKind.i64 0)]:=by kernel_rfl
@[go_sem] theorem kda:qx Go.Proofs.Tryz.prog 141=some [D.nil,D.nil,D.nil,D.nil,D.c (C.int IntKind.u64 0),D.nil,D.c (C.int IntKind.u64 0),D.c (C.int IntKind.u64 0),D.c (C.int IntKind.i64 0)]:=by kernel_rfl
@[go_sem] theorem vda:qx Go.Proofs.Tryz.prog 160=some [D.c (C.int IntKind.u64 0),D.c (C.int IntKind.u64 0),D.c (C.int IntKind.u64 0)]:=by kernel_rfl
@[go_sem] theorem wda:qx Go.Proofs.Tryz.prog 198=some [D.c (C.int IntKind.u64 0),D.c (C.int IntKind.u64 0)]:=by kernel_rfl
@[go_sem] theorem uda:qx Go.Proofs.Tryz.prog 239=some [D.c (C.int IntKind.u64 0),D.c (C.int IntKind.i64 0),D.c (C.str {data:={toList:=[]}})]:=by kernel_rfl
@[go_sem] theorem gda:qx Go.Proofs.Tryz.prog 247=some [D.c (C.int IntKind.i64 0),D.c (C.bool false),D.c (C.bool false)]:=by kernel_rfl
@[go_sem] theorem bda:qx Go.Proofs.Tryz.prog 272=some [D.c (C.int IntKind.u64 0),D.c (C.int IntKind.u64 0),D.c (C.int IntKind.u64 0)]:=by kernel_rfl
@[go_sem] theorem ve6:uk Go.Proofs.Tryz.prog 3=none:=by kernel_rfl
@[go_sem] theorem we6:uk Go.Proofs.Tryz.prog 5=none:=by kernel_rfl
@[go_sem] theorem ue6:uk Go.Proofs.Tryz.prog 9=none:=by kernel_rfl
@[go_sem] theorem kes:uk Go.Proofs.Tryz.prog 22=some (23,1,8):=by kernel_rfl
@[go_sem] theorem ves:uk Go.Proofs.Tryz.prog 23=none:=by kernel_rfl
@[go_sem] theorem wes:uk Go.Proofs.Tryz.prog 24=some (59,3,24):=by kernel_rfl
@[go_sem] theorem ues:uk Go.Proofs.Tryz.prog 27=some (250,2,16):=by kernel_rfl
@[go_sem] theorem ges:uk Go.Proofs.Tryz.prog 32=some (86,7,72):=by kernel_rfl
@[go_sem] theorem bes:uk Go.Proofs.Tryz.prog 33=some (153,2,16):=by kernel_rfl
@[go_sem] theorem zet:uk Go.Proofs.Tryz.prog 34=some (189,4,32):=by kernel_rfl
@[go_sem] theorem yet:uk Go.Proofs.Tryz.prog 35=some (192,5,40):=by kernel_rfl
@[go_sem] theorem xet:uk Go.Proofs.Tryz.prog 36=some (195,4,32):=by kernel_rfl
@[go_sem] theorem qet:uk Go.Proofs.Tryz.prog 41=some (83,3,40):=by kernel_rfl
@[go_sem] theorem wct:uk Go.Proofs.Tryz.prog 44=some (70,3,24):=by kernel_rfl
@[go_sem] theorem jet:uk Go.Proofs.Tryz.prog 45=some (158,4,64):=by kernel_rfl
@[go_sem] theorem ket:uk Go.Proofs.Tryz.prog 46=some (160,3,24):=by kernel_rfl
@[go_sem] theorem vet:uk Go.Proofs.Tryz.prog 49=some (26,3,40):=by kernel_rfl
@[go_sem] theorem wet:uk Go.Proofs.Tryz.prog 81=some (5,1,1):=by kernel_rfl
@[go_sem] theorem uet:uk Go.Proofs.Tryz.prog 84=some (198,2,16):=by kernel_rfl
@[go_sem] theorem jdI:uk Go.Proofs.Tryz.prog 104=none:=by kernel_rfl
@[go_sem] theorem kdI:uk Go.Proofs.Tryz.prog 134=none:=by kernel_rfl
@[go_sem] theorem vdI:uk Go.Proofs.Tryz.prog 164=some (81,1,24):=by kernel_rfl
@[go_sem] theorem wdI:uk Go.Proofs.Tryz.prog 179=none:=by kernel_rfl
@[go_sem] theorem udI:uk Go.Proofs.Tryz.prog 248=some (247,3,16):=by kernel_rfl
@[go_sem] theorem gdI:uk Go.Proofs.Tryz.prog 288=none:=by kernel_rfl
@[go_sem] theorem bdI:uk Go.Proofs.Tryz.prog 296=some (3,1,8):=by kernel_rfl
@[go_sem] theorem uct:zbE Go.Proofs.Tryz.prog 59=some [(0,0),(1,0),(2,0)]:=by kernel_rfl
@[go_sem] theorem gct:zbE Go.Proofs.Tryz.prog 64=some [(0,0),(1,0),(2,0),(3,0)]:=by kernel_rfl
@[go_sem] theorem bct:zbE Go.Proofs.Tryz.prog 70=some [(0,0),(1,0),(2,1)]:=by kernel_rfl
@[go_sem] theorem zb2:zbE Go.Proofs.Tryz.prog 160=some [(0,0),(1,0),(2,0)]:=by kernel_rfl
@[go_sem] theorem yb2:zbE Go.Proofs.Tryz.prog 189=some [(0,0),(1,0),(2,0),(3,0)]:=by kernel_rfl
@[go_sem] theorem xb2:zbE Go.Proofs.Tryz.prog 192=some [(0,0),(1,0),(2,0),(3,0),(4,0)]:=by kernel_rfl
@[go_sem] theorem qb2:zbE Go.Proofs.Tryz.prog 195=some [(0,0),(1,0),(2,0),(3,0)]:=by kernel_rfl
@[go_sem] theorem jb2:zbE Go.Proofs.Tryz.prog 198=some [(0,0),(1,0)]:=by kernel_rfl
@[go_sem] theorem kb2:zbE Go.Proofs.Tryz.prog 250=some [(0,0),(1,0)]:=by kernel_rfl
@[go_sem] theorem xcT:yc Go.Proofs.Tryz.prog 26 0=some 0:=by kernel_rfl
@[go_sem] theorem qcT:yc Go.Proofs.Tryz.prog 26 1=some 1:=by kernel_rfl
@[go_sem] theorem jcT:yc Go.Proofs.Tryz.prog 26 2=some 2:=by kernel_rfl
@[go_sem] theorem kcT:yc Go.Proofs.Tryz.prog 29 0=some 0:=by kernel_rfl
@[go_sem] theorem vcT:yc Go.Proofs.Tryz.prog 29 1=some 1:=by kernel_rfl
@[go_sem] theorem wcT:yc Go.Proofs.Tryz.prog 29 2=some 2:=by kernel_rfl
@[go_sem] theorem ucT:yc Go.Proofs.Tryz.prog 29 3=some 3:=by kernel_rfl
@[go_sem] theorem gcT:yc Go.Proofs.Tryz.prog 29 4=some 6:=by kernel_rfl
@[go_sem] theorem bcT:yc Go.Proofs.Tryz.prog 29 5=some 7:=by kernel_rfl
@[go_sem] theorem zcU:yc Go.Proofs.Tryz.prog 29 6=some 8:=by kernel_rfl
@[go_sem] theorem ycU:yc Go.Proofs.Tryz.prog 29 7=some 9:=by kernel_rfl
@[go_sem] theorem xcU:yc Go.Proofs.Tryz.prog 29 8=some 10:=by kernel_rfl
@[go_sem] theorem qcU:yc Go.Proofs.Tryz.prog 38 0=some 0:=by kernel_rfl
@[go_sem] theorem jcU:yc Go.Proofs.Tryz.prog 38 1=some 1:=by kernel_rfl
@[go_sem] theorem kcU:yc Go.Proofs.Tryz.prog 40 0=some 0:=by kernel_rfl
@[go_sem] theorem vcU:yc Go.Proofs.Tryz.prog 40 1=some 1:=by kernel_rfl
@[go_sem] theorem wcU:yc Go.Proofs.Tryz.prog 40 2=some 2:=by kernel_rfl
@[go_sem] theorem ucU:yc Go.Proofs.Tryz.prog 40 3=some 3:=by kernel_rfl
@[go_sem] theorem gcU:yc Go.Proofs.Tryz.prog 40 4=some 4:=by kernel_rfl
@[go_sem] theorem bcU:yc Go.Proofs.Tryz.prog 40 5=some 6:=by kernel_rfl
@[go_sem] theorem zcV:yc Go.Proofs.Tryz.prog 40 6=some 7:=by kernel_rfl
@[go_sem] theorem ycV:yc Go.Proofs.Tryz.prog 43 0=some 0:=by kernel_rfl
@[go_sem] theorem xcV:yc Go.Proofs.Tryz.prog 48 0=some 0:=by kernel_rfl
@[go_sem] theorem qcV:yc Go.Proofs.Tryz.prog 48 1=some 8:=by kernel_rfl
@[go_sem] theorem jcV:yc Go.Proofs.Tryz.prog 48 2=some 9:=by kernel_rfl
@[go_sem] theorem kcV:yc Go.Proofs.Tryz.prog 48 3=some 10:=by kernel_rfl
@[go_sem] theorem vcV:yc Go.Proofs.Tryz.prog 48 4=some 11:=by kernel_rfl
@[go_sem] theorem wcV:yc Go.Proofs.Tryz.prog 59 0=some 0:=by kernel_rfl
@[go_sem] theorem ucV:yc Go.Proofs.Tryz.prog 59 1=some 1:=by kernel_rfl
@[go_sem] theorem gcV:yc Go.Proofs.Tryz.prog 59 2=some 2:=by kernel_rfl
@[go_sem] theorem bcV:yc Go.Proofs.Tryz.prog 64 0=some 0:=by kernel_rfl
@[go_sem] theorem zcW:yc Go.Proofs.Tryz.prog 64 1=some 1:=by kernel_rfl
@[go_sem] theorem ycW:yc Go.Proofs.Tryz.prog 64 2=some 2:=by kernel_rfl
@[go_sem] theorem xcW:yc Go.Proofs.Tryz.prog 64 3=some 3:=by kernel_rfl
@[go_sem] theorem qcW:yc Go.Proofs.Tryz.prog 70 0=some 0:=by kernel_rfl
@[go_sem] theorem jcW:yc Go.Proofs.Tryz.prog 70 1=some 1:=by kernel_rfl
@[go_sem] theorem kcW:yc Go.Proofs.Tryz.prog 70 2=some 2:=by kernel_rfl
@[go_sem] theorem vcW:yc Go.Proofs.Tryz.prog 83 0=some 0:=by kernel_rfl
@[go_sem] theorem wcW:yc Go.Proofs.Tryz.prog 83 1=some 1:=by kernel_rfl
@[go_sem] theorem ucW:yc Go.Proofs.Tryz.prog 83 2=some 2:=by kernel_rfl
@[go_sem] theorem gcW:yc Go.Proofs.Tryz.prog 86 0=some 0:=by kernel_rfl
@[go_sem] theorem bcW:yc Go.Proofs.Tryz.prog 86 1=some 1:=by kernel_rfl
@[go_sem] theorem zcX:yc Go.Proofs.Tryz.prog 86 2=some 2:=by kernel_rfl
@[go_sem] theorem ycX:yc Go.Proofs.Tryz.prog 86 3=some 3:=by kernel_rfl
@[go_sem] theorem qcX:yc Go.Proofs.Tryz.prog 86 4=some 4:=by kernel_rfl
@[go_sem] theorem jcX:yc Go.Proofs.Tryz.prog 86 5=some 5:=by kernel_rfl
@[go_sem] theorem kcX:yc Go.Proofs.Tryz.prog 86 6=some 6:=by kernel_rfl
@[go_sem] theorem zcv:yc Go.Proofs.Tryz.prog 101 0=some 0:=by kernel_rfl
@[go_sem] theorem ycv:yc Go.Proofs.Tryz.prog 141 0=some 0:=by kernel_rfl
@[go_sem] theorem xcv:yc Go.Proofs.Tryz.prog 141 1=some 8:=by kernel_rfl
@[go_sem] theorem qcv:yc Go.Proofs.Tryz.prog 153 0=some 0:=by kernel_rfl
@[go_sem] theorem jcv:yc Go.Proofs.Tryz.prog 153 1=some 1:=by kernel_rfl
@[go_sem] theorem kcv:yc Go.Proofs.Tryz.prog 158 0=some 0:=by kernel_rfl
@[go_sem] theorem vcv:yc Go.Proofs.Tryz.prog 158 1=some 1:=by kernel_rfl
@[go_sem] theorem wcv:yc Go.Proofs.Tryz.prog 158 2=some 2:=by kernel_rfl
@[go_sem] theorem ucv:yc Go.Proofs.Tryz.prog 158 3=some 3:=by kernel_rfl
@[go_sem] theorem gcv:yc Go.Proofs.Tryz.prog 160 0=some 0:=by kernel_rfl
@[go_sem] theorem bcv:yc Go.Proofs.Tryz.prog 160 1=some 1:=by kernel_rfl
@[go_sem] theorem zcw:yc Go.Proofs.Tryz.prog 160 2=some 2:=by kernel_rfl
@[go_sem] theorem ycw:yc Go.Proofs.Tryz.prog 189 0=some 0:=by kernel_rfl
@[go_sem] theorem xcw:yc Go.Proofs.Tryz.prog 189 1=some 1:=by kernel_rfl
@[go_sem] theorem qcw:yc Go.Proofs.Tryz.prog 189 2=some 2:=by kernel_rfl
@[go_sem] theorem jcw:yc Go.Proofs.Tryz.prog 189 3=some 3:=by kernel_rfl
@[go_sem] theorem kcw:yc Go.Proofs.Tryz.prog 192 0=some 0:=by kernel_rfl
@[go_sem] theorem vcw:yc Go.Proofs.Tryz.prog 192 2=some 2:=by kernel_rfl
@[go_sem] theorem wcw:yc Go.Proofs.Tryz.prog 192 3=some 3:=by kernel_rfl
@[go_sem] theorem ucw:yc Go.Proofs.Tryz.prog 192 4=some 4:=by kernel_rfl
@[go_sem] theorem gcw:yc Go.Proofs.Tryz.prog 195 0=some 0:=by kernel_rfl
@[go_sem] theorem bcw:yc Go.Proofs.Tryz.prog 195 1=some 1:=by kernel_rfl
@[go_sem] theorem zcx:yc Go.Proofs.Tryz.prog 198 0=some 0:=by kernel_rfl
@[go_sem] theorem ycx:yc Go.Proofs.Tryz.prog 198 1=some 1:=by kernel_rfl
@[go_sem] theorem xcx:yc Go.Proofs.Tryz.prog 247 0=some 0:=by kernel_rfl
@[go_sem] theorem qcx:yc Go.Proofs.Tryz.prog 247 1=some 1:=by kernel_rfl
@[go_sem] theorem jcx:yc Go.Proofs.Tryz.prog 247 2=some 2:=by kernel_rfl
@[go_sem] theorem kcx:yc Go.Proofs.Tryz.prog 250 1=some 1:=by kernel_rfl
@[go_sem] theorem ve7:jbH Go.Proofs.Tryz.prog 3=some IntKind.i64:=by kernel_rfl
@[go_sem] theorem we7:jbH Go.Proofs.Tryz.prog 5=some IntKind.u8:=by kernel_rfl
@[go_sem] theorem ue7:jbH Go.Proofs.Tryz.prog 9=none:=by kernel_rfl
@[go_sem] theorem xex:jbH Go.Proofs.Tryz.prog 23=some IntKind.u64:=by kernel_rfl
@[go_sem] theorem xdM:jbH Go.Proofs.Tryz.prog 179=some IntKind.u64:=by kernel_rfl
@[go_sem] theorem be7:zac Go.Proofs.Tryz.prog 3=some (TypeDesc.int IntKind.i64):=by kernel_rfl
@[go_sem] theorem ze8:zac Go.Proofs.Tryz.prog 4=some TypeDesc.bool:=by kernel_rfl
@[go_sem] theorem ye8:zac Go.Proofs.Tryz.prog 5=some (TypeDesc.int IntKind.u8):=by kernel_rfl
@[go_sem] theorem xe8:zac Go.Proofs.Tryz.prog 9=some TypeDesc.string:=by kernel_rfl
@[go_sem] theorem yey:zac Go.Proofs.Tryz.prog 23=some (TypeDesc.int IntKind.u64):=by kernel_rfl
@[go_sem] theorem xey:zac Go.Proofs.Tryz.prog 32=some (TypeDesc.slice 86):=by kernel_rfl
@[go_sem] theorem qey:zac Go.Proofs.Tryz.prog 33=some (TypeDesc.slice 153):=by kernel_rfl
@[go_sem] theorem jey:zac Go.Proofs.Tryz.prog 34=some (TypeDesc.slice 189):=by kernel_rfl
@[go_sem] theorem vey:zac Go.Proofs.Tryz.prog 35=some (TypeDesc.slice 192):=by kernel_rfl
@[go_sem] theorem wey:zac Go.Proofs.Tryz.prog 36=some (TypeDesc.slice 195):=by kernel_rfl
@[go_sem] theorem uey:zac Go.Proofs.Tryz.prog 41=some (TypeDesc.slice 83):=by kernel_rfl
@[go_sem] theorem gey:zac Go.Proofs.Tryz.prog 44=some (TypeDesc.slice 70):=by kernel_rfl
@[go_sem] theorem bey:zac Go.Proofs.Tryz.prog 45=some (TypeDesc.slice 158):=by kernel_rfl
@[go_sem] theorem zez:zac Go.Proofs.Tryz.prog 46=some (TypeDesc.slice 160):=by kernel_rfl
@[go_sem] theorem yez:zac Go.Proofs.Tryz.prog 50=some (TypeDesc.int IntKind.i64):=by kernel_rfl
@[go_sem] theorem xez:zac Go.Proofs.Tryz.prog 81=some (TypeDesc.slice 5):=by kernel_rfl
@[go_sem] theorem qez:zac Go.Proofs.Tryz.prog 84=some (TypeDesc.slice 198):=by kernel_rfl
@[go_sem] theorem xdN:zac Go.Proofs.Tryz.prog 151=some (TypeDesc.float FloatKind.f64):=by kernel_rfl
@[go_sem] theorem qdN:zac Go.Proofs.Tryz.prog 179=some (TypeDesc.int IntKind.u64):=by kernel_rfl
@[go_sem] theorem jdl:mapOf Go.Proofs.Tryz.prog 166=some ([KK.int IntKind.u64],D.c (C.int IntKind.u64 0)):=by kernel_rfl
@[go_sem] theorem kdl:mapOf Go.Proofs.Tryz.prog 173=some ([KK.int IntKind.u64,KK.int IntKind.i64,KK.str],D.c (C.int IntKind.i64 0)):=by kernel_rfl
@[go_sem] theorem vdl:mapOf Go.Proofs.Tryz.prog 262=some ([KK.int IntKind.u64],D.c (C.int IntKind.i64 0)):=by kernel_rfl
@[go_sem] theorem wdl:mapOf Go.Proofs.Tryz.prog 270=some ([KK.int IntKind.u64,KK.int IntKind.u64,KK.int IntKind.u64],D.c (C.int IntKind.i64 0)):=by kernel_rfl
@[go_sem] theorem qc2:ue Go.Proofs.Tryz.prog 26 0=some (0,1):=by kernel_rfl
@[go_sem] theorem jc2:ue Go.Proofs.Tryz.prog 26 2=some (2,1):=by kernel_rfl
@[go_sem] theorem kc2:ue Go.Proofs.Tryz.prog 29 0=some (0,1):=by kernel_rfl
@[go_sem] theorem vc2:ue Go.Proofs.Tryz.prog 29 1=some (1,1):=by kernel_rfl
@[go_sem] theorem wc2:ue Go.Proofs.Tryz.prog 29 3=some (3,3):=by kernel_rfl
@[go_sem] theorem uc2:ue Go.Proofs.Tryz.prog 38 0=some (0,1):=by kernel_rfl
@[go_sem] theorem gc2:ue Go.Proofs.Tryz.prog 38 1=some (1,1):=by kernel_rfl
@[go_sem] theorem bc2:ue Go.Proofs.Tryz.prog 40 0=some (0,1):=by kernel_rfl
@[go_sem] theorem zc3:ue Go.Proofs.Tryz.prog 40 1=some (1,1):=by kernel_rfl
@[go_sem] theorem yc3:ue Go.Proofs.Tryz.prog 40 2=some (2,1):=by kernel_rfl
@[go_sem] theorem xc3:ue Go.Proofs.Tryz.prog 40 3=some (3,1):=by kernel_rfl
@[go_sem] theorem qc3:ue Go.Proofs.Tryz.prog 40 4=some (4,2):=by kernel_rfl
@[go_sem] theorem jc3:ue Go.Proofs.Tryz.prog 40 5=some (6,1):=by kernel_rfl
@[go_sem] theorem kc3:ue Go.Proofs.Tryz.prog 40 6=some (7,1):=by kernel_rfl
@[go_sem] theorem vc3:ue Go.Proofs.Tryz.prog 48 0=some (0,8):=by kernel_rfl
@[go_sem] theorem wc3:ue Go.Proofs.Tryz.prog 48 1=some (8,1):=by kernel_rfl
@[go_sem] theorem uc3:ue Go.Proofs.Tryz.prog 48 2=some (9,1):=by kernel_rfl
@[go_sem] theorem gc3:ue Go.Proofs.Tryz.prog 48 3=some (10,1):=by kernel_rfl
@[go_sem] theorem bc3:ue Go.Proofs.Tryz.prog 48 4=some (11,1):=by kernel_rfl
@[go_sem] theorem zc4:ue Go.Proofs.Tryz.prog 59 0=some (0,1):=by kernel_rfl
@[go_sem] theorem yc4:ue Go.Proofs.Tryz.prog 64 0=some (0,1):=by kernel_rfl
@[go_sem] theorem xc4:ue Go.Proofs.Tryz.prog 64 1=some (1,1):=by kernel_rfl
@[go_sem] theorem qc4:ue Go.Proofs.Tryz.prog 64 2=some (2,1):=by kernel_rfl
@[go_sem] theorem jc4:ue Go.Proofs.Tryz.prog 64 3=some (3,1):=by kernel_rfl
@[go_sem] theorem kc4:ue Go.Proofs.Tryz.prog 70 0=some (0,1):=by kernel_rfl
@[go_sem] theorem vc4:ue Go.Proofs.Tryz.prog 70 1=some (1,1):=by kernel_rfl
@[go_sem] theorem wc4:ue Go.Proofs.Tryz.prog 70 2=some (2,1):=by kernel_rfl
@[go_sem] theorem uc4:ue Go.Proofs.Tryz.prog 83 0=some (0,1):=by kernel_rfl
@[go_sem] theorem gc4:ue Go.Proofs.Tryz.prog 83 1=some (1,1):=by kernel_rfl
@[go_sem] theorem bc4:ue Go.Proofs.Tryz.prog 83 2=some (2,1):=by kernel_rfl
@[go_sem] theorem ycF:ue Go.Proofs.Tryz.prog 101 0=some (0,1):=by kernel_rfl
@[go_sem] theorem xcF:ue Go.Proofs.Tryz.prog 104 0=some (0,1):=by kernel_rfl
@[go_sem] theorem qcF:ue Go.Proofs.Tryz.prog 104 1=some (1,1):=by kernel_rfl
@[go_sem] theorem jcF:ue Go.Proofs.Tryz.prog 104 2=some (2,1):=by kernel_rfl
@[go_sem] theorem kcF:ue Go.Proofs.Tryz.prog 134 0=some (0,1):=by kernel_rfl
@[go_sem] theorem vcF:ue Go.Proofs.Tryz.prog 134 1=some (1,1):=by kernel_rfl
@[go_sem] theorem wcF:ue Go.Proofs.Tryz.prog 134 2=some (2,1):=by kernel_rfl
@[go_sem] theorem ucF:ue Go.Proofs.Tryz.prog 134 3=some (3,1):=by kernel_rfl
@[go_sem] theorem gcF:ue Go.Proofs.Tryz.prog 134 4=some (4,1):=by kernel_rfl
@[go_sem] theorem bcF:ue Go.Proofs.Tryz.prog 141 0=some (0,8):=by kernel_rfl
@[go_sem] theorem zcG:ue Go.Proofs.Tryz.prog 141 1=some (8,1):=by kernel_rfl
@[go_sem] theorem ycG:ue Go.Proofs.Tryz.prog 160 0=some (0,1):=by kernel_rfl
@[go_sem] theorem xcG:ue Go.Proofs.Tryz.prog 160 1=some (1,1):=by kernel_rfl
@[go_sem] theorem qcG:ue Go.Proofs.Tryz.prog 198 0=some (0,1):=by kernel_rfl
@[go_sem] theorem jcG:ue Go.Proofs.Tryz.prog 198 1=some (1,1):=by kernel_rfl
@[go_sem] theorem kcG:ue Go.Proofs.Tryz.prog 239 0=some (0,1):=by kernel_rfl
@[go_sem] theorem vcG:ue Go.Proofs.Tryz.prog 239 1=some (1,1):=by kernel_rfl
@[go_sem] theorem wcG:ue Go.Proofs.Tryz.prog 239 2=some (2,1):=by kernel_rfl
@[go_sem] theorem ucG:ue Go.Proofs.Tryz.prog 247 0=some (0,1):=by kernel_rfl
@[go_sem] theorem gcG:ue Go.Proofs.Tryz.prog 247 1=some (1,1):=by kernel_rfl
@[go_sem] theorem bcG:ue Go.Proofs.Tryz.prog 247 2=some (2,1):=by kernel_rfl
@[go_sem] theorem zcH:ue Go.Proofs.Tryz.prog 272 0=some (0,1):=by kernel_rfl
@[go_sem] theorem ycH:ue Go.Proofs.Tryz.prog 272 1=some (1,2):=by kernel_rfl
@[go_sem] theorem xff:zl Go.Proofs.Tryz.prog 3=some (false,1):=by kernel_rfl
@[go_sem] theorem qff:zl Go.Proofs.Tryz.prog 4=some (false,1):=by kernel_rfl
@[go_sem] theorem weS:zl Go.Proofs.Tryz.prog 23=some (false,1):=by kernel_rfl
@[go_sem] theorem ueS:zl Go.Proofs.Tryz.prog 24=some (false,1):=by kernel_rfl
@[go_sem] theorem geS:zl Go.Proofs.Tryz.prog 26=some (true,3):=by kernel_rfl
@[go_sem] theorem beS:zl Go.Proofs.Tryz.prog 27=some (false,1):=by kernel_rfl
@[go_sem] theorem zeT:zl Go.Proofs.Tryz.prog 29=some (true,11):=by kernel_rfl
@[go_sem] theorem yeT:zl Go.Proofs.Tryz.prog 32=some (false,1):=by kernel_rfl
@[go_sem] theorem xeT:zl Go.Proofs.Tryz.prog 33=some (false,1):=by kernel_rfl
@[go_sem] theorem qeT:zl Go.Proofs.Tryz.prog 34=some (false,1):=by kernel_rfl
@[go_sem] theorem jeT:zl Go.Proofs.Tryz.prog 35=some (false,1):=by kernel_rfl
@[go_sem] theorem keT:zl Go.Proofs.Tryz.prog 36=some (false,1):=by kernel_rfl
@[go_sem] theorem veT:zl Go.Proofs.Tryz.prog 38=some (true,2):=by kernel_rfl
@[go_sem] theorem weT:zl Go.Proofs.Tryz.prog 40=some (true,8):=by kernel_rfl
@[go_sem] theorem ueT:zl Go.Proofs.Tryz.prog 41=some (false,1):=by kernel_rfl
@[go_sem] theorem geT:zl Go.Proofs.Tryz.prog 43=some (true,1):=by kernel_rfl
@[go_sem] theorem beT:zl Go.Proofs.Tryz.prog 44=some (false,1):=by kernel_rfl
@[go_sem] theorem zeU:zl Go.Proofs.Tryz.prog 45=some (false,1):=by kernel_rfl
@[go_sem] theorem yeU:zl Go.Proofs.Tryz.prog 46=some (false,1):=by kernel_rfl
@[go_sem] theorem xeU:zl Go.Proofs.Tryz.prog 48=some (true,12):=by kernel_rfl
@[go_sem] theorem qeU:zl Go.Proofs.Tryz.prog 50=some (false,1):=by kernel_rfl
@[go_sem] theorem jeU:zl Go.Proofs.Tryz.prog 59=some (true,3):=by kernel_rfl
@[go_sem] theorem keU:zl Go.Proofs.Tryz.prog 64=some (true,4):=by kernel_rfl
@[go_sem] theorem veU:zl Go.Proofs.Tryz.prog 70=some (true,3):=by kernel_rfl
@[go_sem] theorem weU:zl Go.Proofs.Tryz.prog 81=some (false,1):=by kernel_rfl
@[go_sem] theorem ueU:zl Go.Proofs.Tryz.prog 83=some (true,3):=by kernel_rfl
@[go_sem] theorem geU:zl Go.Proofs.Tryz.prog 84=some (false,1):=by kernel_rfl
@[go_sem] theorem beU:zl Go.Proofs.Tryz.prog 86=some (true,7):=by kernel_rfl
@[go_sem] theorem zeV:zl Go.Proofs.Tryz.prog 99=some (false,1):=by kernel_rfl
@[go_sem] theorem bd0:zl Go.Proofs.Tryz.prog 101=some (true,1):=by kernel_rfl
@[go_sem] theorem zd1:zl Go.Proofs.Tryz.prog 151=some (false,1):=by kernel_rfl
@[go_sem] theorem yd1:zl Go.Proofs.Tryz.prog 153=some (true,2):=by kernel_rfl
@[go_sem] theorem xd1:zl Go.Proofs.Tryz.prog 158=some (true,4):=by kernel_rfl
@[go_sem] theorem qd1:zl Go.Proofs.Tryz.prog 160=some (true,3):=by kernel_rfl
@[go_sem] theorem jd1:zl Go.Proofs.Tryz.prog 189=some (true,4):=by kernel_rfl
@[go_sem] theorem kd1:zl Go.Proofs.Tryz.prog 192=some (true,5):=by kernel_rfl
@[go_sem] theorem vd1:zl Go.Proofs.Tryz.prog 195=some (true,4):=by kernel_rfl
@[go_sem] theorem wd1:zl Go.Proofs.Tryz.prog 198=some (true,2):=by kernel_rfl
@[go_sem] theorem ud1:zl Go.Proofs.Tryz.prog 239=some (true,3):=by kernel_rfl
@[go_sem] theorem gd1:zl Go.Proofs.Tryz.prog 247=some (true,3):=by kernel_rfl
@[go_sem] theorem bd1:zl Go.Proofs.Tryz.prog 250=some (true,2):=by kernel_rfl
@[go_sem] theorem kff:zOf Go.Proofs.Tryz.prog 23=some (D.c (C.int IntKind.u64 0)):=by kernel_rfl
@[go_sem] theorem vff:zOf Go.Proofs.Tryz.prog 26=some (D.agg [D.c (C.int IntKind.u64 0),D.nil,D.c (C.int IntKind.i64 0)]):=by kernel_rfl
@[go_sem] theorem wff:zOf Go.Proofs.Tryz.prog 29=some (D.agg [D.c (C.int IntKind.u64 0),D.c (C.int IntKind.i64 0),D.c (C.int IntKind.u64 0),D.c (C.int IntKind.u64 0),D.nil,D.c (C.int IntKind.i64 0),D.c (C.int IntKind.u64 0),D.c (C.int IntKind.u64 0),D.c (C.int IntKind.u64 0),D.nil,D.nil]):=by kernel_rfl
@[go_sem] theorem uff:zOf Go.Proofs.Tryz.prog 38=some (D.agg [D.c (C.int IntKind.u64 0),D.nil]):=by kernel_rfl
@[go_sem] theorem gff:zOf Go.Proofs.Tryz.prog 40=some (D.agg [D.nil,D.nil,D.nil,D.nil,D.c (C.int IntKind.u64 0),D.nil,D.c (C.int IntKind.u64 0),D.c (C.int IntKind.u64 0)]):=by kernel_rfl
@[go_sem] theorem bff:zOf Go.Proofs.Tryz.prog 43=some (D.agg [D.nil]):=by kernel_rfl
@[go_sem] theorem zfg:zOf Go.Proofs.Tryz.prog 48=some (D.agg [D.nil,D.nil,D.nil,D.nil,D.c (C.int IntKind.u64 0),D.nil,D.c (C.int IntKind.u64 0),D.c (C.int IntKind.u64 0),D.nil,D.nil,D.nil,D.nil]):=by kernel_rfl
@[go_sem] theorem yfg:zOf Go.Proofs.Tryz.prog 50=some (D.c (C.int IntKind.i64 0)):=by kernel_rfl
@[go_sem] theorem xfg:zOf Go.Proofs.Tryz.prog 59=some (D.agg [D.c (C.int IntKind.i64 0),D.c (C.int IntKind.u64 0),D.c (C.int IntKind.u64 0)]):=by kernel_rfl
@[go_sem] theorem qfg:zOf Go.Proofs.Tryz.prog 64=some (D.agg [D.c (C.int IntKind.u64 0),D.c (C.int IntKind.i64 0),D.c (C.int IntKind.u64 0),D.c (C.int IntKind.u64 0)]):=by kernel_rfl
@[go_sem] theorem jfg:zOf Go.Proofs.Tryz.prog 70=some (D.agg [D.c (C.int IntKind.u64 0),D.c (C.int IntKind.u64 0),D.c (C.bool false)]):=by kernel_rfl
@[go_sem] theorem kfg:zOf Go.Proofs.Tryz.prog 83=some (D.agg [D.c (C.int IntKind.u64 0),D.c (C.int IntKind.i64 0),D.nil]):=by kernel_rfl
@[go_sem] theorem vfg:zOf Go.Proofs.Tryz.prog 86=some (D.agg [D.c (C.int IntKind.u64 0),D.c (C.int IntKind.u64 0),D.c (C.int IntKind.u64 0),D.c (C.int IntKind.u64 0),D.c (C.int IntKind.u64 0),D.nil,D.c (C.bool false)]):=by kernel_rfl
@[go_sem] theorem geY:zOf Go.Proofs.Tryz.prog 101=some (D.agg [D.nilf]):=by kernel_rfl
@[go_sem] theorem beY:zOf Go.Proofs.Tryz.prog 153=some (D.agg [D.c (C.int IntKind.u64 0),D.c (C.flt FloatKind.f64 (some 0))]):=by kernel_rfl
@[go_sem] theorem zeZ:zOf Go.Proofs.Tryz.prog 158=some (D.agg [D.c (C.int IntKind.u64 0),D.nil,D.nil,D.c (C.int IntKind.u64 0)]):=by kernel_rfl
@[go_sem] theorem yeZ:zOf Go.Proofs.Tryz.prog 160=some (D.agg [D.c (C.int IntKind.u64 0),D.c (C.int IntKind.u64 0),D.c (C.int IntKind.u64 0)]):=by kernel_rfl
@[go_sem] theorem xeZ:zOf Go.Proofs.Tryz.prog 189=some (D.agg [D.c (C.int IntKind.u64 0),D.c (C.int IntKind.u64 0),D.c (C.int IntKind.u64 0),D.c (C.int IntKind.i64 0)]):=by kernel_rfl
@[go_sem] theorem qeZ:zOf Go.Proofs.Tryz.prog 192=some (D.agg [D.c (C.int IntKind.u64 0),D.c (C.int IntKind.u64 0),D.c (C.int IntKind.u64 0),D.c (C.int IntKind.u64 0),D.c (C.int IntKind.i64 0)]):=by kernel_rfl
@[go_sem] theorem jeZ:zOf Go.Proofs.Tryz.prog 195=some (D.agg [D.c (C.int IntKind.u64 0),D.c (C.int IntKind.i64 0),D.c (C.int IntKind.u64 0),D.c (C.int IntKind.u64 0)]):=by kernel_rfl
@[go_sem] theorem keZ:zOf Go.Proofs.Tryz.prog 198=some (D.agg [D.c (C.int IntKind.u64 0),D.c (C.int IntKind.u64 0)]):=by kernel_rfl
@[go_sem] theorem veZ:zOf Go.Proofs.Tryz.prog 239=some (D.agg [D.c (C.int IntKind.u64 0),D.c (C.int IntKind.i64 0),D.c (C.str {data:={toList:=[]}})]):=by kernel_rfl
@[go_sem] theorem weZ:zOf Go.Proofs.Tryz.prog 247=some (D.agg [D.c (C.int IntKind.i64 0),D.c (C.bool false),D.c (C.bool false)]):=by kernel_rfl
@[go_sem] theorem ueZ:zOf Go.Proofs.Tryz.prog 250=some (D.agg [D.c (C.int IntKind.u64 0),D.c (C.int IntKind.u64 0)]):=by kernel_rfl
@[go_sem] theorem yfA:zc0 Go.Proofs.Tryz.prog 3=[C.int IntKind.i64 0]:=by kernel_rfl
@[go_sem] theorem xfA:zc0 Go.Proofs.Tryz.prog 5=[C.int IntKind.u8 0]:=by kernel_rfl
@[go_sem] theorem wfg:zc0 Go.Proofs.Tryz.prog 23=[C.int IntKind.u64 0]:=by kernel_rfl
@[go_sem] theorem ufg:zc0 Go.Proofs.Tryz.prog 26=[C.int IntKind.u64 0,C.sl [],C.int IntKind.i64 0]:=by kernel_rfl
@[go_sem] theorem gfg:zc0 Go.Proofs.Tryz.prog 59=[C.int IntKind.i64 0,C.int IntKind.u64 0,C.int IntKind.u64 0]:=by kernel_rfl
@[go_sem] theorem bfg:zc0 Go.Proofs.Tryz.prog 70=[C.int IntKind.u64 0,C.int IntKind.u64 0,C.bool false]:=by kernel_rfl
@[go_sem] theorem zfh:zc0 Go.Proofs.Tryz.prog 81=[C.sl []]:=by kernel_rfl
@[go_sem] theorem yfh:zc0 Go.Proofs.Tryz.prog 83=[C.int IntKind.u64 0,C.int IntKind.i64 0,C.sl []]:=by kernel_rfl
@[go_sem] theorem xfh:zc0 Go.Proofs.Tryz.prog 86=[C.int IntKind.u64 0,C.int IntKind.u64 0,C.int IntKind.u64 0,C.int IntKind.u64 0,C.int IntKind.u64 0,C.sl [],C.bool false]:=by kernel_rfl
@[go_sem] theorem geZ:zc0 Go.Proofs.Tryz.prog 153=[C.int IntKind.u64 0,C.flt FloatKind.f64 (some 0)]:=by kernel_rfl
@[go_sem] theorem beZ:zc0 Go.Proofs.Tryz.prog 158=[C.int IntKind.u64 0,C.sl [],C.sl [],C.int IntKind.u64 0]:=by kernel_rfl
@[go_sem] theorem ze0:zc0 Go.Proofs.Tryz.prog 160=[C.int IntKind.u64 0,C.int IntKind.u64 0,C.int IntKind.u64 0]:=by kernel_rfl
@[go_sem] theorem ye0:zc0 Go.Proofs.Tryz.prog 189=[C.int IntKind.u64 0,C.int IntKind.u64 0,C.int IntKind.u64 0,C.int IntKind.i64 0]:=by kernel_rfl
@[go_sem] theorem xe0:zc0 Go.Proofs.Tryz.prog 192=[C.int IntKind.u64 0,C.int IntKind.u64 0,C.int IntKind.u64 0,C.int IntKind.u64 0,C.int IntKind.i64 0]:=by kernel_rfl
@[go_sem] theorem qe0:zc0 Go.Proofs.Tryz.prog 195=[C.int IntKind.u64 0,C.int IntKind.i64 0,C.int IntKind.u64 0,C.int IntKind.u64 0]:=by kernel_rfl
@[go_sem] theorem je0:zc0 Go.Proofs.Tryz.prog 198=[C.int IntKind.u64 0,C.int IntKind.u64 0]:=by kernel_rfl
@[go_sem] theorem ke0:zc0 Go.Proofs.Tryz.prog 247=[C.int IntKind.i64 0,C.bool false,C.bool false]:=by kernel_rfl
@[go_sem] theorem ve0:zc0 Go.Proofs.Tryz.prog 250=[C.int IntKind.u64 0,C.int IntKind.u64 0]:=by kernel_rfl
@[go_sem] theorem qfh:y9 Go.Proofs.Tryz.prog 3=some [C.int IntKind.i64 0]:=by kernel_rfl
@[go_sem] theorem jfh:y9 Go.Proofs.Tryz.prog 5=some [C.int IntKind.u8 0]:=by kernel_rfl
@[go_sem] theorem we0:y9 Go.Proofs.Tryz.prog 23=some [C.int IntKind.u64 0]:=by kernel_rfl
@[go_sem] theorem ue0:y9 Go.Proofs.Tryz.prog 26=some [C.int IntKind.u64 0,C.sl [],C.int IntKind.i64 0]:=by kernel_rfl
@[go_sem] theorem ge0:y9 Go.Proofs.Tryz.prog 59=some [C.int IntKind.i64 0,C.int IntKind.u64 0,C.int IntKind.u64 0]:=by kernel_rfl
@[go_sem] theorem be0:y9 Go.Proofs.Tryz.prog 70=some [C.int IntKind.u64 0,C.int IntKind.u64 0,C.bool false]:=by kernel_rfl
@[go_sem] theorem ze1:y9 Go.Proofs.Tryz.prog 81=some [C.sl []]:=by kernel_rfl
@[go_sem] theorem ye1:y9 Go.Proofs.Tryz.prog 83=some [C.int IntKind.u64 0,C.int IntKind.i64 0,C.sl []]:=by kernel_rfl
@[go_sem] theorem xe1:y9 Go.Proofs.Tryz.prog 86=some [C.int IntKind.u64 0,C.int IntKind.u64 0,C.int IntKind.u64 0,C.int IntKind.u64 0,C.int IntKind.u64 0,C.sl [],C.bool false]:=by kernel_rfl
@[go_sem] theorem bd4:y9 Go.Proofs.Tryz.prog 153=some [C.int IntKind.u64 0,C.flt FloatKind.f64 (some 0)]:=by kernel_rfl
@[go_sem] theorem zd5:y9 Go.Proofs.Tryz.prog 158=some [C.int IntKind.u64 0,C.sl [],C.sl [],C.int IntKind.u64 0]:=by kernel_rfl
@[go_sem] theorem yd5:y9 Go.Proofs.Tryz.prog 160=some [C.int IntKind.u64 0,C.int IntKind.u64 0,C.int IntKind.u64 0]:=by kernel_rfl
@[go_sem] theorem xd5:y9 Go.Proofs.Tryz.prog 189=some [C.int IntKind.u64 0,C.int IntKind.u64 0,C.int IntKind.u64 0,C.int IntKind.i64 0]:=by kernel_rfl
@[go_sem] theorem qd5:y9 Go.Proofs.Tryz.prog 192=some [C.int IntKind.u64 0,C.int IntKind.u64 0,C.int IntKind.u64 0,C.int IntKind.u64 0,C.int IntKind.i64 0]:=by kernel_rfl
@[go_sem] theorem jd5:y9 Go.Proofs.Tryz.prog 195=some [C.int IntKind.u64 0,C.int IntKind.i64 0,C.int IntKind.u64 0,C.int IntKind.u64 0]:=by kernel_rfl
@[go_sem] theorem kd5:y9 Go.Proofs.Tryz.prog 198=some [C.int IntKind.u64 0,C.int IntKind.u64 0]:=by kernel_rfl
@[go_sem] theorem vd5:y9 Go.Proofs.Tryz.prog 247=some [C.int IntKind.i64 0,C.bool false,C.bool false]:=by kernel_rfl
@[go_sem] theorem wd5:y9 Go.Proofs.Tryz.prog 250=some [C.int IntKind.u64 0,C.int IntKind.u64 0]:=by kernel_rfl
end Dm
