import Derived.Test.YtpiadnkkmfkmmaaGreatP1
import Derived.Deep.Quiet
import Derived.RangeFuncLeaves
import Derived.RangeFuncNested
import Derived.TacticsIn
set_option linter.unusedSimpArgs false
set_option linter.unusedVariables false
set_option linter.unusedSectionVars false
set_option linter.defProp false
set_option maxRecDepth 20000
set_option maxHeartbeats 4000000
noncomputable section
namespace Dm
open Go
def pur1 (os:List (Nat×Ob)):D→D→Prop
 | .c x, .c y=>x=y
 | .nil, .c (.sl els)=>els=[]
 | .csl els, .c (.sl els')=>els=els'
 | .csl els, .csl els'=>els=els'
 | .vec id n, .c (.sl els)=>n=els.length∧∃hd sz e,lk id os=some (.vec hd sz e els)
 | .ref id 0, .rp cs=>∃ds,lk id os=some (.box ds)∧D.toCs ds=some cs
 | .mp id, .c (.map kt kv)=>∃kv0 kv1,lk id os=some (.map kt kv0)∧kvC kv0=some kv1∧List.Perm kv1 kv
 | .nilm, .c (.map _ kv)=>kv=[]
 |_,_=>False
def pw (R:D→D→Prop):List D→List D→Prop
 |[],[]=>True
 |x::l,y::l'=>R x y∧pw R l l'
 |_,_=>False
def pur2 (os:List (Nat×Ob)):D→D→Prop
 | .agg l, .agg l'=>pw (pur1 os) l l'
 | .fn f [] l, .fn f' [] l'=>f=f'∧pw (pur1 os) l l'
 |d,r=>pur1 os d r
def pur3 (os:List (Nat×Ob)):D→D→Prop
 | .tup l, .tup l'=>pw (pur2 os) l l'
 |d,r=>pur2 os d r
def PR (r:D):D→List (Nat×Ob)→Nat→Prop:=fun d os _=>pur3 os d r
def G0 (I:Nat→Prop):G:=⟨fun _=>none,fun _=>none,I⟩
def PureFn (P:Program) (f:FuncId) (rs:List D) (r:D):Prop:=
 (∃fn,P.funcs[f]? =some fn∧(fn.name== "runtime.NumGoroutine")=false∧fn.body.isNone=false)∧
 ∀(I:Nat→Prop) (w:World) (vs:Array Value),Cels I w→vs.size=rs.length→
  (∀(i:Nat) (v:Value) (d:D),vs[i]? =some v→rs[i]? =some d→VRel (G0 I) w v d)→
  Calls P f vs w fun e w'=>∃v I',e= .returned v∧VRel (G0 I') w' v r∧Ext w w'∧(∀b,I b→I' b)∧(∀b,b<w.heap.size→I' b→I b)∧Cels I' w'
section
variable {P:Program} {g g':G} {s s':St} {a:Act} {w w':World} {n N:Nat}
theorem pw_get {R:D→D→Prop}:∀{l l':List D},pw R l l'→l.length=l'.length∧∀(i:Nat) (x y:D),l[i]? =some x→l'[i]? =some y→R x y
 |[],[],_=>⟨rfl,fun i x y h=>by simp at h⟩
 |x::l,y::l',h=>by
  obtain⟨h1,h2⟩:=h
  obtain⟨h3,h4⟩:=pw_get h2
  refine⟨by simp [h3],fun i u v hu hv=> ?_⟩
  cases i with
  |zero=>simp at hu hv;subst hu;subst hv;exact h1
  |succ i=>exact h4 i u v (by simpa using hu) (by simpa using hv)
 |[],_::_,h=>h.elim
 |_::_,[],h=>h.elim
theorem toCs_get:∀{ds:List D} {cs:List C} {i:Nat} {d:D} {x:C},D.toCs ds=some cs→ds[i]? =some d→cs[i]? =some x→d.toC=some x
 |[],cs,i,d,x,h,hd,_=>by simp at hd
 |e::l,cs,i,d,x,h,hd,hx=>by
  simp only [D.toCs]at h
  split at h
  ·rename_i y ys h1 h2
   cases h
   cases i with
   |zero=>simp at hd hx;subst hd;subst hx;exact h1
   |succ i=>exact toCs_get h2 (by simpa using hd) (by simpa using hx)
  ·cases h
theorem toCs_len:∀{ds:List D} {cs:List C},D.toCs ds=some cs→ds.length=cs.length
 |[],cs,h=>by cases h;rfl
 |e::l,cs,h=>by
  simp only [D.toCs]at h
  split at h
  ·rename_i y ys h1 h2
   cases h
   simp [toCs_len h2]
  ·cases h
theorem toC_rel0 {g:G} {w:World} {v:Value} {d:D} {x:C} (hv:VRel g w v d) (h:d.toC=some x):CRel g.I w v x:=by
 cases d<;>simp only [D.toC,reduceCtorEq,Option.some.injEq]at h
 case c y=>subst h;cases hv with|c _ _ hv=>exact hv
 case nil=>subst h;cases hv;exact .slnil _ _ (by simp [maxLen])
 case csl els=>subst h;cases hv with|csl _ _ hv=>exact hv
theorem box_rp {g:G} {s:St} {w:World} (ho:RelO g s w) {I:Nat→Prop} (hI:∀b,g.I b→I b) {id:Nat} {ds:List D} {cs:List C} (hl:lk id s.os=some (.box ds)) (hc:D.toCs ds=some cs) (hO:∀b,g.blk id (.box ds)=some b→I b) {v:Value} (hv:VRel g w v (.ref id 0)):VRel (G0 I) w v (.rp cs):=by
 cases hv with
 |ref b _ _ hb=>
  obtain⟨b',e,cells,h1,h2,h3,h4⟩:=ho.ok id _ hl
  rw [hb]at h1;cases h1
  refine .rp b 0 cs (fun j=>cells.getD j .nilFunc) (hO b hb) fun j y hy=> ?_
  have hj:j<cells.size:=by rw [h3,toCs_len hc];exact(List.getElem?_eq_some_iff.1 hy).1
  have hd:=List.getElem?_eq_getElem (l:=ds) (i:=j) (by omega)
  have hv:=h4 j _ _ (Array.getElem?_eq_getElem hj) hd
  have e1:cells.getD j .nilFunc=cells[j]:=by simp [Array.getD,hj]
  rw [e1]
  exact⟨by simp [World.cell?,h2,Array.getElem?_eq_getElem hj],(toC_rel0 hv (toCs_get hc hd hy)).mono (fun _ _=>rfl) hI⟩
theorem pur1_sound {os:List (Nat×Ob)} (ho:RelO g s w) (hos:os=s.os∨os=[]) {I:Nat→Prop} (hI:∀b,g.I b→I b) (hO:os=s.os→∀b,Own g s b→I b) {v:Value} {d r:D} (hv:VRel g w v d) (h:pur1 os d r):VRel (G0 I) w v r:=by
 have hk:Keeps g.I w w:=fun _ _=>rfl
 cases d<;>cases r<;>simp only [pur1]at h<;>try (exact h.elim)
 case c.c x y=>
  subst h
  cases hv with
  |c _ _ hv=>exact .c _ _ (hv.mono hk hI)
 case nil.c x=>
  cases x<;>simp only at h
  subst h
  cases hv
  exact .c _ _ (.slnil _ _ (by simp [maxLen]))
 case csl.c els x=>
  cases x<;>simp only at h
  subst h
  cases hv with
  |csl _ _ hv=>exact .c _ _ (hv.mono hk hI)
 case csl.csl els els'=>
  subst h
  cases hv with
  |csl _ _ hv=>exact .csl _ _ (hv.mono hk hI)
 case vec.c id m x=>
  cases x<;>simp only at h
  rename_i els
  obtain⟨rfl,hd,sz,e,hl⟩:=h
  rcases hos with rfl|rfl
  ·cases hv with
   |vec a' cap' _ _ a0 len cap hkk hle hm ha hvq=>
    obtain⟨a1,cap1,h1,h2,h3,h4,h5⟩:=ho.ok id _ hl
    rw [hkk]at h1;cases h1
    obtain⟨rfl,rfl⟩:=hvq rfl
    rcases h5 with⟨rfl,hc⟩|⟨b,off,cells,vs,rfl,h6,h7,h9,h8⟩
    ·have:els=[]:=List.eq_nil_of_length_eq_zero (by omega)
     subst this
     exact .c _ _ (.slnil _ _ h3)
    ·refine .c _ _ (.sl b off cap' sz els vs (hO rfl b ⟨id,_,hl,by simp [G.blk,hkk]⟩) h2 h3 h4 (fun i j x y hx hy=> ?_) (fun i j x y hx hy=>((h8 i j x y hx hy).2).mono hk hI))
     have:=(h8 i j x y hx hy).1
     simp only [World.cell?,h6]
     simpa using this
  ·cases hl
 case ref.rp id off cs=>
  cases off with
  |succ off=>simp only [pur1]at h
  |zero=>
   obtain⟨ds,hl,hc⟩:=h
   rcases hos with rfl|rfl
   ·exact box_rp ho hI hl hc (fun b hb=>hO rfl b ⟨id,_,hl,hb⟩) hv
   ·cases hl
 case mp.c id x=>
  cases x<;>simp only at h
  obtain⟨kv0,kv1,hl,hc,hp⟩:=h
  rcases hos with rfl|rfl
  ·cases hv with
   |mp b _ hb=>
    obtain⟨b',es,h1,h2⟩:=map_frz (ho.ok id _ hl) hc hp
    rw [hb]at h1;cases h1
    exact .c _ _ (.map b _ _ _ es (hO rfl b ⟨id,_,hl,hb⟩) h2)
  ·cases hl
 case nilm.c x=>
  cases x<;>simp only at h
  subst h
  cases hv
  exact .c _ _ (.mapnil _)
theorem pur2_sound {os:List (Nat×Ob)} (ho:RelO g s w) (hos:os=s.os∨os=[]) {I:Nat→Prop} (hI:∀b,g.I b→I b) (hO:os=s.os→∀b,Own g s b→I b) {v:Value} {d r:D} (hv:VRel g w v d) (h:pur2 os d r):VRel (G0 I) w v r:=by
 unfold pur2 at h
 split at h
 ·obtain⟨h1,h2⟩:=pw_get h
  cases hv with
  |agg vs _ hl hp=>
   refine .agg vs _ (by omega) fun i u e hu he=> ?_
   have hi:i<vs.size:=by
    rcases Nat.lt_or_ge i vs.size with h|h
    ·exact h
    ·rw [Array.getElem?_eq_none h]at hu;cases hu
   have hd:=List.getElem?_eq_getElem (l:=_) (i:=i) (by rw [←hl];exact hi)
   exact pur1_sound ho hos hI hO (hp i u _ hu hd) (h2 i _ e hd he)
 ·obtain⟨rfl,h⟩:=h
  obtain⟨h1,h2⟩:=pw_get h
  cases hv with
  |fn _ fi ca _ _ h3 h4 h5 h6=>
   refine .fn _ fi ca _ _ h3 (by omega) (fun i u e hu he=>by simp at he) fun i u e hu he=> ?_
   have hi:i<ca.size:=(Array.getElem?_eq_some_iff.1 hu).1
   have hd:=List.getElem?_eq_getElem (l:=_) (i:=i) (by rw [←h4];exact hi)
   exact pur1_sound ho hos hI hO (h6 i u _ hu hd) (h2 i _ e hd he)
 ·exact pur1_sound ho hos hI hO hv h
theorem pur3_sound {os:List (Nat×Ob)} (ho:RelO g s w) (hos:os=s.os∨os=[]) {I:Nat→Prop} (hI:∀b,g.I b→I b) (hO:os=s.os→∀b,Own g s b→I b) {v:Value} {d r:D} (hv:VRel g w v d) (h:pur3 os d r):VRel (G0 I) w v r:=by
 unfold pur3 at h
 split at h
 ·obtain⟨h1,h2⟩:=pw_get h
  cases hv with
  |tup vs _ hl hp=>
   refine .tup vs _ (by omega) fun i u e hu he=> ?_
   have hi:i<vs.size:=by
    rcases Nat.lt_or_ge i vs.size with h|h
    ·exact h
    ·rw [Array.getElem?_eq_none h]at hu;cases hu
   have hd:=List.getElem?_eq_getElem (l:=_) (i:=i) (by rw [←hl];exact hi)
   exact pur2_sound ho hos hI hO (hp i u _ hu hd) (h2 i _ e hd he)
 ·exact pur2_sound ho hos hI hO hv h
theorem RelO.none (I:Nat→Prop) (w:World) (hI:Cels I w):RelO (G0 I) ⟨[],[],0⟩ w:=
 ⟨fun id o h=>(by cases h),fun id o id' o' b h=>(by cases h),fun id _=>⟨rfl,rfl⟩,fun b hb=>⟨(hI b hb).lt,fun⟨id,o,h,_⟩=>by cases h⟩,hI⟩
theorem PureFn.of {f:FuncId} {rs:List D} {r:D} (h:ACall P f rs [] 0 (PR r)):PureFn P f rs r:=by
 refine⟨h.1,fun I w vs hI hsz hv=>(h.2 (G0 I) w vs (RelO.none I w hI) hsz hv).mono ?_⟩
 rintro e w' ⟨v,d,g',os',nx',he,hq,hro,hvr,hst⟩
 have hno:∀b,¬Own (G0 I) ⟨[],[],0⟩ b:=fun b ⟨id,o,h,_⟩=>by cases h
 refine⟨v,fun b=>g'.I b∨Own g' ⟨[],os',nx'⟩ b,he,pur3_sound hro (.inl rfl) (fun b hb=> .inl hb) (fun _ b hb=> .inr hb) hvr hq,⟨hst.size,fun b hb=>hst.same b hb (hno b),hst.env⟩,fun b hb=> .inl (hst.le.I b hb),fun b hb h=> ?_,hro.cel.keep (fun b hb=> .inl hb) (fun _ _=>rfl) fun b h=> ?_⟩
 ·rcases h with h|h
  ·exact hst.imm b hb (hno b) h
  ·exact absurd h (hst.own b hb (hno b))
 ·rcases h with h|h
  ·exact hro.cel b h
  ·exact Own.cel hro h
theorem VRel.of0 {I:Nat→Prop} (hI:∀b,I b→g.I b) {v:Value} {d:D} (h:VRel (G0 I) w v d):VRel g w v d:=
 h.mono (fun _ _=>rfl) ⟨fun id b h=>(by cases h),fun id a l c h=>(by cases h),hI⟩
theorem args_pur {os:List (Nat×Ob)} (ho:RelO g s w) (hos:os=s.os∨os=[]) {I:Nat→Prop} (hI:∀b,g.I b→I b) (hO:os=s.os→∀b,Own g s b→I b) {vs:Array Value} {ds rs:List D} (hl:vs.size=ds.length)
 (hv:∀(i:Nat) (v:Value) (d:D),vs[i]? =some v→ds[i]? =some d→VRel g w v d) (hp:pw (pur2 os) ds rs):
 vs.size=rs.length∧∀(i:Nat) (v:Value) (d:D),vs[i]? =some v→rs[i]? =some d→VRel (G0 I) w v d:=by
 obtain⟨h1,h2⟩:=pw_get hp
 refine⟨by omega,fun i v r hvi hr=> ?_⟩
 have hi:i<vs.size:=by
  rcases Nat.lt_or_ge i vs.size with h|h
  ·exact h
  ·rw [Array.getElem?_eq_none h]at hvi;cases hvi
 have hd:=List.getElem?_eq_getElem (l:=ds) (i:=i) (by omega)
 exact pur2_sound ho hos hI hO (hv i v _ hvi hd) (h2 i _ r hd hr)
theorem RelO.grow (ho:RelO g s w) (he:Ext w w') {I:Nat→Prop} (hI:∀b,g.I b→I b) (hI':∀b,b<w.heap.size→I b→g.I b) (hI'':Cels I w'):RelO (g.imm I) s w'∧Step g s w (g.imm I) s w':=by
 have hle:g.Le (g.imm I):=⟨fun _ _ h=>h,fun _ a l c h=>⟨a,l,c,h,Nat.le_refl _,fun _=>⟨rfl,rfl⟩⟩,hI⟩
 have hk:Keeps g.I w w':=fun b hb=>he.2.1 b (ho.imm b hb).1
 have hblk:∀id o,(g.imm I).blk id o=g.blk id o:=fun id o=>by cases o<;>rfl
 have hown:∀b,Own (g.imm I) s b↔Own g s b:=fun b=>⟨fun⟨id,o,h1,h2⟩=>⟨id,o,h1,by rwa [hblk]at h2⟩,fun⟨id,o,h1,h2⟩=>⟨id,o,h1,by rwa [hblk]⟩⟩
 refine⟨⟨fun id o h=>(ho.ok id o h).mono hk hle (fun b hb=>he.2.1 b ((ho.ok id o h).lt.1 b hb)) rfl,fun id o id' o' b h1 h2 h3 h4=>ho.apart id o id' o' b h1 h2 (by rwa [hblk]at h3) (by rwa [hblk]at h4),ho.fresh,fun b hb=>⟨(hI'' b hb).lt,fun h=> ?_⟩,hI''⟩,
  ⟨hle,he.1,fun b hb _=>he.2.1 b hb,fun b _ h h'=>h ((hown b).1 h'),fun b hb _ h=>hI' b hb h,he.2.2⟩⟩
 have h2:=(hown b).1 h
 exact(ho.imm b (hI' b (Own.lt ho h2) hb)).2 h2
theorem PureFn.call {f:FuncId} {rs ds:List D} {r:D} (h:PureFn P f rs r) {os:List (Nat×Ob)} {nx:Nat} {Q:D→List (Nat×Ob)→Nat→Prop} (hp:pw (pur2 []) ds rs) (hQ:Q r os nx):ACall P f ds os nx Q:=by
 refine⟨h.1,fun g w vs ho hsz hv=> ?_⟩
 obtain⟨h1,h2⟩:=args_pur ho (.inr rfl) (I:=g.I) (fun b hb=>hb) (fun e b ⟨id,o,h3,_⟩=>by rw [←e]at h3;cases h3) hsz hv hp
 refine(h.2 g.I w vs ho.cel h1 h2).mono ?_
 rintro e w' ⟨v,I',he,hvr,hext,h3,h4,h5⟩
 obtain⟨h6,h7⟩:=ho.grow hext h3 h4 h5
 exact⟨v,r,g.imm I',os,nx,he,hQ,h6,hvr.of0 fun b hb=>hb,h7⟩
theorem VRel.any1 {v:Value} {r:D} (hs:r.scal1=true) (h:VRel g w v r):VRel g' w' v r:=by
 cases r<;>simp only [D.scal1,Bool.false_eq_true]at hs
 rename_i x
 cases h with
 |c _ _ h=>
  refine .c _ _ ?_
  cases x<;>first|(simp at hs;done)|skip
  all_goals cases h;constructor
theorem VRel.any {v:Value} {r:D} (hs:r.scal=true) (h:VRel g w v r):VRel g' w' v r:=by
 unfold D.scal at hs
 split at hs
 ·cases h with
  |tup vs _ hl hp=>exact .tup vs _ hl fun i u d hu hd=>VRel.any1 (List.all_eq_true.1 hs _ (List.mem_of_getElem? hd)) (hp i u d hu hd)
 ·cases h with
  |agg vs _ hl hp=>exact .agg vs _ hl fun i u d hu hd=>VRel.any1 (List.all_eq_true.1 hs _ (List.mem_of_getElem? hd)) (hp i u d hu hd)
 ·exact VRel.any1 hs h
theorem PureFn.lend {f:FuncId} {rs ds:List D} {r:D} (h:PureFn P f rs r) (hs:r.scal=true) {os:List (Nat×Ob)} {nx:Nat} {Q:D→List (Nat×Ob)→Nat→Prop} (hp:pw (pur2 os) ds rs) (hQ:Q r os nx):ACall P f ds os nx Q:=by
 refine⟨h.1,fun g w vs ho hsz hv=> ?_⟩
 obtain⟨h1,h2⟩:=args_pur ho (.inl rfl) (I:=fun b=>g.I b∨Own g ⟨[],os,nx⟩ b) (fun b hb=> .inl hb) (fun _ b hb=> .inr hb) hsz hv hp
 refine(h.2 _ w vs (ho.cel.keep (fun b hb=> .inl hb) (fun _ _=>rfl) fun b hb=>hb.elim (fun hb=>ho.cel b hb) (Own.cel ho)) h1 h2).mono ?_
 rintro e w' ⟨v,I',he,hvr,hext,h3,h4,h5⟩
 obtain⟨h6,h7⟩:=ho.grow hext (I:=g.I) (fun b hb=>hb) (fun b _ hb=>hb) (ho.cel.same fun b hb=>hext.2.1 b (ho.imm b hb).1)
 exact⟨v,r,g.imm g.I,os,nx,he,hQ,h6,hvr.any hs,h7⟩
theorem pure1_pur {os:List (Nat×Ob)} {d x:D} (h:pure1 os d=some x):pur1 os d x:=by
 unfold pure1 at h
 split at h
 ·cases h;rfl
 ·cases h;rfl
 ·cases h;rfl
 ·split at h
  ·rename_i hd sz e els hl
   split at h
   ·rename_i hn
    cases h
    exact⟨hn,hd,sz,e,hl⟩
   ·cases h
  ·cases h
 ·split at h
  ·rename_i kt kv hl
   split at h
   ·rename_i kv' hk
    cases h
    exact⟨kv,kv',hl,hk, .refl _⟩
   ·cases h
  ·cases h
 ·cases h
theorem pures1_pur {os:List (Nat×Ob)}:∀{l xs:List D},pures1 os l=some xs→pw (pur1 os) l xs
 |[],xs,h=>by cases h;trivial
 |d::l,xs,h=>by
  simp only [pures1]at h
  split at h
  ·rename_i h1 h2
   cases h
   exact⟨pure1_pur h1,pures1_pur h2⟩
  ·cases h
theorem pur1_2 {os:List (Nat×Ob)} {d x:D} (h:pur1 os d x):pur2 os d x:=by
 cases d<;>first|exact h|skip
 all_goals (cases x<;>first|exact h.elim|exact h)
theorem pure2_pur {os:List (Nat×Ob)} {d x:D} (h:pure2 os d=some x):pur2 os d x:=by
 unfold pure2 at h
 split at h
 ·split at h
  ·rename_i h1
   cases h
   exact pures1_pur h1
  ·cases h
 ·cases h;exact⟨rfl,trivial⟩
 ·exact pur1_2 (pure1_pur h)
theorem pures2_pur {os:List (Nat×Ob)}:∀{l xs:List D},pures2 os l=some xs→pw (pur2 os) l xs
 |[],xs,h=>by cases h;trivial
 |d::l,xs,h=>by
  simp only [pures2]at h
  split at h
  ·rename_i h1 h2
   cases h
   exact⟨pure2_pur h1,pures2_pur h2⟩
  ·cases h
theorem pur1_give {os:List (Nat×Ob)} (ho:RelO g s w) (hos:os=s.os) {I:Nat→Prop} (hI:∀b,g.I b→I b) {v:Value} {d r:D} (hO:∀id∈vid1 d,∀b o,lk id os=some o→g.blk id o=some b→I b) (hv:VRel g w v d) (h:pur1 os d r):VRel (G0 I) w v r:=by
 have hk:Keeps g.I w w:=fun _ _=>rfl
 cases d<;>cases r<;>simp only [pur1]at h<;>try (exact h.elim)
 case c.c x y=>
  subst h
  cases hv with
  |c _ _ hv=>exact .c _ _ (hv.mono hk hI)
 case nil.c x=>
  cases x<;>simp only at h
  subst h
  cases hv
  exact .c _ _ (.slnil _ _ (by simp [maxLen]))
 case csl.c els x=>
  cases x<;>simp only at h
  subst h
  cases hv with
  |csl _ _ hv=>exact .c _ _ (hv.mono hk hI)
 case csl.csl els els'=>
  subst h
  cases hv with
  |csl _ _ hv=>exact .csl _ _ (hv.mono hk hI)
 case vec.c id m x=>
  cases x<;>simp only at h
  rename_i els
  obtain⟨rfl,hd,sz,e,hl⟩:=h
  subst hos
  cases hv with
  |vec a' cap' _ _ a0 len cap hkk hle hm ha hvq=>
   obtain⟨a1,cap1,h1,h2,h3,h4,h5⟩:=ho.ok id _ hl
   rw [hkk]at h1;cases h1
   obtain⟨rfl,rfl⟩:=hvq rfl
   rcases h5 with⟨rfl,hc⟩|⟨b,off,cells,vs,rfl,h6,h7,h9,h8⟩
   ·have:els=[]:=List.eq_nil_of_length_eq_zero (by omega)
    subst this
    exact .c _ _ (.slnil _ _ h3)
   ·refine .c _ _ (.sl b off cap' sz els vs (hO id (by simp [vid1]) b _ hl (by simp [G.blk,hkk])) h2 h3 h4 (fun i j x y hx hy=> ?_) (fun i j x y hx hy=>((h8 i j x y hx hy).2).mono hk hI))
    have:=(h8 i j x y hx hy).1
    simp only [World.cell?,h6]
    simpa using this
 case ref.rp id off cs=>
  cases off with
  |succ off=>simp only [pur1]at h
  |zero=>
   obtain⟨ds,hl,hc⟩:=h
   subst hos
   exact box_rp ho hI hl hc (fun b hb=>hO id (by simp [vid1]) b _ hl hb) hv
 case mp.c id x=>
  cases x<;>simp only at h
  obtain⟨kv0,kv1,hl,hc,hp⟩:=h
  subst hos
  cases hv with
  |mp b _ hb=>
   obtain⟨b',es,h1,h2⟩:=map_frz (ho.ok id _ hl) hc hp
   rw [hb]at h1;cases h1
   exact .c _ _ (.map b _ _ _ es (hO id (by simp [vid1]) b _ hl hb) h2)
 case nilm.c x=>
  cases x<;>simp only at h
  subst h
  cases hv
  exact .c _ _ (.mapnil _)
theorem vids1_get:∀{l:List D} {i:Nat} {d:D} {id:Nat},l[i]? =some d→id∈vid1 d→id∈vids1 l
 |[],i,d,id,h,_=>by simp at h
 |x::l,0,d,id,h,hd=>by simp at h;subst h;simp [vids1,hd]
 |x::l,i+1,d,id,h,hd=>by simp only [vids1,List.mem_append];exact .inr (vids1_get (by simpa using h) hd)
theorem vids2_get:∀{l:List D} {i:Nat} {d:D} {id:Nat},l[i]? =some d→id∈vid2 d→id∈vids2 l
 |[],i,d,id,h,_=>by simp at h
 |x::l,0,d,id,h,hd=>by simp at h;subst h;simp [vids2,hd]
 |x::l,i+1,d,id,h,hd=>by simp only [vids2,List.mem_append];exact .inr (vids2_get (by simpa using h) hd)
theorem pur2_give {os:List (Nat×Ob)} (ho:RelO g s w) (hos:os=s.os) {I:Nat→Prop} (hI:∀b,g.I b→I b) {v:Value} {d r:D} (hO:∀id∈vid2 d,∀b o,lk id os=some o→g.blk id o=some b→I b) (hv:VRel g w v d) (h:pur2 os d r):VRel (G0 I) w v r:=by
 unfold pur2 at h
 split at h
 ·obtain⟨h1,h2⟩:=pw_get h
  cases hv with
  |agg vs _ hl hp=>
   refine .agg vs _ (by omega) fun i u e hu he=> ?_
   have hi:i<vs.size:=by
    rcases Nat.lt_or_ge i vs.size with h|h
    ·exact h
    ·rw [Array.getElem?_eq_none h]at hu;cases hu
   have hd:=List.getElem?_eq_getElem (l:=_) (i:=i) (by rw [←hl];exact hi)
   exact pur1_give ho hos hI (fun id hid=>hO id (vids1_get hd hid)) (hp i u _ hu hd) (h2 i _ e hd he)
 ·obtain⟨rfl,h⟩:=h
  obtain⟨h1,h2⟩:=pw_get h
  cases hv with
  |fn _ fi ca _ _ h3 h4 h5 h6=>
   refine .fn _ fi ca _ _ h3 (by omega) (fun i u e hu he=>by simp at he) fun i u e hu he=> ?_
   have hi:i<ca.size:=(Array.getElem?_eq_some_iff.1 hu).1
   have hd:=List.getElem?_eq_getElem (l:=_) (i:=i) (by rw [←h4];exact hi)
   exact pur1_give ho hos hI (fun id hid=>hO id (vids1_get hd hid)) (h6 i u _ hu hd) (h2 i _ e hd he)
 ·rename_i hne hne'
  refine pur1_give ho hos hI (fun id hid=>hO id ?_) hv h
  cases d<;>first|exact hid|(cases hid;done)|skip
theorem PureFn.give {f:FuncId} {rs ds:List D} {r:D} (h:PureFn P f rs r) {os:List (Nat×Ob)} {nx:Nat} {Q:D→List (Nat×Ob)→Nat→Prop} (hp:pw (pur2 os) ds rs) (hQ:Q r (rmv os (vids2 ds)) nx):ACall P f ds os nx Q:=by
 refine⟨h.1,fun g w vs ho hsz hv=> ?_⟩
 obtain⟨h8,h9⟩:=ho.give (vids2 ds)
 obtain⟨hp1,hp2⟩:=pw_get hp
 have h2:∀(i:Nat) (v:Value) (d:D),vs[i]? =some v→rs[i]? =some d→VRel (G0 (g.imm fun b=>g.I b∨∃id∈vids2 ds,∃o,lk id os=some o∧g.blk id o=some b).I) w v d:=fun i v r hvi hr=>by
  have hi:i<vs.size:=by
   rcases Nat.lt_or_ge i vs.size with h|h
   ·exact h
   ·rw [Array.getElem?_eq_none h]at hvi;cases hvi
  have hd:=List.getElem?_eq_getElem (l:=ds) (i:=i) (by omega)
  exact pur2_give ho rfl (fun b hb=> .inl hb) (fun id hid b o h3 h4=> .inr ⟨id,vids2_get hd hid,o,h3,h4⟩) (hv i v _ hvi hd) (hp2 i _ r hd hr)
 refine(h.2 _ w vs h8.cel (by omega) h2).mono ?_
 rintro e w' ⟨v,I',he,hvr,hext,h3,h4,h5⟩
 obtain⟨h6,h7⟩:=h8.grow hext h3 h4 h5
 exact⟨v,r,_,_,nx,he,hQ,h6,hvr.of0 fun b hb=>hb,h9.trans h7⟩
end
open Go
def D.bel0 (N:Nat):D→Bool
 | .ref id _=>decide (id<N)
 | .eref id _ _ _ _=>decide (id<N)
 | .vec id _=>decide (id<N)
 | .view id _ _ _ _=>decide (id<N)
 | .mp id=>decide (id<N)
 | .agg _=>false
 | .tup _=>false
 | .fn _ _ _=>false
 |_=>true
def D.bel1 (N:Nat):D→Bool
 | .agg l=>l.all (D.bel0 N)
 | .fn _ fi ca=>fi.all (D.bel0 N)&&ca.all (D.bel0 N)
 |d=>d.bel0 N
def D.bel2 (N:Nat):D→Bool
 | .agg l=>l.all (D.bel1 N)
 | .tup l=>l.all (D.bel1 N)
 | .fn _ fi ca=>fi.all (D.bel1 N)&&ca.all (D.bel1 N)
 |d=>d.bel1 N
def mbel (N:Nat) (kv:List (List C×D)):Bool:=kv.all fun x=>x.2.bel2 N
def Ob.bel (N:Nat):Ob→Bool
 | .box cs=>cs.all (D.bel2 N)
 | .vec .. =>true
 | .map _ kv=>mbel N kv
 | .it .. =>true
def dle (d:D):D→Prop
 | .undef=>True
 |d'=>d=d'
def ole:Ob→Ob→Prop
 | .box cs, .box cs'=>pw dle cs cs'
 |o,o'=>o=o'
def subT (tm:List (Nat×D)):List (Nat×D)→Prop
 |[]=>True
 |(t,d')::l=>(∃d,lk t tm=some d∧dle d d')∧subT tm l
def subO (os:List (Nat×Ob)):List (Nat×Ob)→Prop
 |[]=>True
 |(i,o')::l=>(∃o,lk i os=some o∧ole o o')∧subO os l
def St.bel (s:St):Bool:=s.tm.all (fun x=>x.2.bel2 s.nx)&&s.os.all (fun x=>decide (x.1<s.nx)&&x.2.bel s.nx)
def Sub (N:Nat) (s s':St):Prop:=subT s.tm s'.tm∧subO s.os s'.os∧N≤s'.nx∧s'.nx≤s.nx∧s'.bel=true
def G.cut (g:G) (N:Nat):G:=⟨fun i=>if i<N then g.ρ i else none,fun i=>if i<N then g.κ i else none,g.I⟩
section
variable {δ:List Deferred} {P:Program} {g g':G} {s s':St} {a:Act} {w w':World} {n N:Nat}
theorem VRel.cut0 {M:Nat} {v:Value} {d:D} (h:VRel g w v d) (hb:d.bel0 M=true):VRel (g.cut M) w v d:=by
 cases h<;>simp only [D.bel0,decide_eq_true_eq,Bool.false_eq_true]at hb
 case undef=>exact .undef _
 case skip=>exact .skip
 case c h=>exact .c _ _ h
 case ref h=>exact .ref _ _ _ (by simp [G.cut,hb,h])
 case eref h hn hv=>exact .eref _ _ _ _ _ _ _ _ _ _ (by simp only [G.cut,if_pos hb];exact h) hn hv
 case rp hI hcell=>exact .rp _ _ _ _ hI hcell
 case nilp=>exact .nilp
 case nilf=>exact .nilf
 case nil=>exact .nil
 case csl h=>exact .csl _ _ h
 case view h hc hl hh hm hv=>exact .view _ _ _ _ _ _ _ _ _ _ (by simp only [G.cut,if_pos hb];exact h) hc hl hh hm hv
 case mp h=>exact .mp _ _ (by simp only [G.cut,if_pos hb];exact h)
 case nilm=>exact .nilm
 case vec h hn hm ha hv=>exact .vec _ _ _ _ _ _ _ (by simp only [G.cut,if_pos hb];exact h) hn hm ha hv
theorem VRel.cut1 {M:Nat} {v:Value} {d:D} (h:VRel g w v d) (hb:d.bel1 M=true):VRel (g.cut M) w v d:=by
 unfold D.bel1 at hb
 split at hb
 ·cases h with
  |agg vs _ hl hp=>exact .agg vs _ hl fun i u e hu he=>(hp i u e hu he).cut0 (List.all_eq_true.1 hb _ (List.mem_of_getElem? he))
 ·simp only [Bool.and_eq_true]at hb
  cases h with
  |fn _ fi ca _ _ h1 h2 h3 h4=>exact .fn _ fi ca _ _ h1 h2 (fun i u e hu he=>(h3 i u e hu he).cut0 (List.all_eq_true.1 hb.1 _ (List.mem_of_getElem? he))) (fun i u e hu he=>(h4 i u e hu he).cut0 (List.all_eq_true.1 hb.2 _ (List.mem_of_getElem? he)))
 ·exact h.cut0 hb
theorem VRel.cut2 {M:Nat} {v:Value} {d:D} (h:VRel g w v d) (hb:d.bel2 M=true):VRel (g.cut M) w v d:=by
 unfold D.bel2 at hb
 split at hb
 ·cases h with
  |agg vs _ hl hp=>exact .agg vs _ hl fun i u e hu he=>(hp i u e hu he).cut1 (List.all_eq_true.1 hb _ (List.mem_of_getElem? he))
 ·cases h with
  |tup vs _ hl hp=>exact .tup vs _ hl fun i u e hu he=>(hp i u e hu he).cut1 (List.all_eq_true.1 hb _ (List.mem_of_getElem? he))
 ·simp only [Bool.and_eq_true]at hb
  cases h with
  |fn _ fi ca _ _ h1 h2 h3 h4=>exact .fn _ fi ca _ _ h1 h2 (fun i u e hu he=>(h3 i u e hu he).cut1 (List.all_eq_true.1 hb.1 _ (List.mem_of_getElem? he))) (fun i u e hu he=>(h4 i u e hu he).cut1 (List.all_eq_true.1 hb.2 _ (List.mem_of_getElem? he)))
 ·exact h.cut1 hb
theorem VRel.le {v:Value} {d d':D} (h:VRel g w v d) (hd:dle d d'):VRel g w v d':=by
 unfold dle at hd
 split at hd
 ·exact .undef _
 ·subst hd;exact h
theorem subT_get {tm:List (Nat×D)}:∀{l:List (Nat×D)} {t:Nat} {d':D},subT tm l→lk t l=some d'→∃d,lk t tm=some d∧dle d d'
 |[],t,d',_,h=>by cases h
 |(u,e)::l,t,d',hs,h=>by
  simp only [lk_cons]at h
  split at h
  ·rename_i he;subst he;cases h;exact hs.1
  ·exact subT_get hs.2 h
theorem subO_get {os:List (Nat×Ob)}:∀{l:List (Nat×Ob)} {t:Nat} {d':Ob},subO os l→lk t l=some d'→∃d,lk t os=some d∧ole d d'
 |[],t,d',_,h=>by cases h
 |(u,e)::l,t,d',hs,h=>by
  simp only [lk_cons]at h
  split at h
  ·rename_i he;subst he;cases h;exact hs.1
  ·exact subO_get hs.2 h
theorem lk_mem {α:Type}:∀{l:List (Nat×α)} {t:Nat} {d:α},lk t l=some d→(t,d)∈l
 |[],t,d,h=>by cases h
 |(u,e)::l,t,d,h=>by
  simp only [lk_cons]at h
  split at h
  ·rename_i he;subst he;cases h;simp
  ·exact List.mem_cons_of_mem _ (lk_mem h)
theorem ole_blk {o o':Ob} (h:ole o o') (id:Nat):g.blk id o'=g.blk id o:=by
 cases o<;>cases o'<;>simp only [ole,reduceCtorEq]at h
 ·rfl
 ·rw [h]
 ·rw [h]
 ·rw [h]
theorem Rel.sub (hr:Rel δ g s a w) (h:Sub N s s'):Rel δ (g.cut s'.nx) s' a w∧StepN N g s w (g.cut s'.nx) s' w:=by
 obtain⟨h1,h2,h3,h4,h5⟩:=h
 simp only [St.bel,Bool.and_eq_true]at h5
 have hlt:∀id o',lk id s'.os=some o'→id<s'.nx∧o'.bel s'.nx=true:=fun id o' h=>by
  have:=List.all_eq_true.1 h5.2 _ (lk_mem h)
  simpa using this
 have hblk:∀id o o',lk id s'.os=some o'→ole o o'→(g.cut s'.nx).blk id o'=g.blk id o:=fun id o o' h hle=>by
  rw [←ole_blk hle id]
  obtain⟨h6,_⟩:=hlt id o' h
  cases o'<;>simp only [G.blk,G.cut,if_pos h6]
 have hown:∀b,Own (g.cut s'.nx) s' b→Own g s b:=fun b ⟨id,o',h6,h7⟩=>by
  obtain⟨o,h8,h9⟩:=subO_get h2 h6
  exact⟨id,o,h8,by rw [←hblk id o o' h6 h9];exact h7⟩
 refine⟨⟨fun t d' ht=> ?_,hr.defers,⟨fun id o' ho'=> ?_,fun id o1 id' o2 b h6 h7 h8 h9=> ?_,fun id hid=>⟨if_neg (by omega),if_neg (by omega)⟩,fun b hb=>⟨(hr.o.imm b hb).1,fun ho=>(hr.o.imm b hb).2 (hown b ho)⟩,hr.o.cel⟩⟩,
  ⟨fun id b hid hb=>by simp only [G.cut,if_pos (show id<s'.nx by omega)];exact hb,fun id x l c hid hk=>⟨x,l,c,by simp only [G.cut,if_pos (show id<s'.nx by omega)];exact hk,Nat.le_refl _,fun _=>⟨rfl,rfl⟩⟩,fun b hb=>hb,Nat.le_refl _,fun _ _ _=>rfl,fun b _ hn ho=>hn (hown b ho),fun b _ _ hb=>hb, .refl w⟩⟩
 ·obtain⟨d,h6,h7⟩:=subT_get h1 ht
  obtain⟨v,h8,h9⟩:=hr.tm t d h6
  refine⟨v,h8,(h9.le h7).cut2 ?_⟩
  have:=List.all_eq_true.1 h5.1 _ (lk_mem ht)
  simpa using this
 ·obtain⟨o,h6,h7⟩:=subO_get h2 ho'
  obtain⟨h8,h9⟩:=hlt id o' ho'
  have hok:=hr.o.ok id o h6
  cases o<;>cases o'<;>simp only [ole,reduceCtorEq]at h7
  ·rename_i cs cs'
   obtain⟨h10,h11⟩:=pw_get h7
   obtain⟨b,e,cells,h12,h13,h14,h15⟩:=hok
   refine⟨b,e,cells,by simp only [G.cut,if_pos h8];exact h12,h13,by omega,fun i v d hv hd=> ?_⟩
   have hi:i<cs.length:=by
    rw [h10]
    rcases Nat.lt_or_ge i cs'.length with h|h
    ·exact h
    ·rw [List.getElem?_eq_none h]at hd;cases hd
   refine((h15 i v _ hv (List.getElem?_eq_getElem hi)).le (h11 i _ d (List.getElem?_eq_getElem hi) hd)).cut2 ?_
   exact List.all_eq_true.1 h9 _ (List.mem_of_getElem? hd)
  ·cases h7
   obtain⟨a0,cap,h12,h13⟩:=hok
   exact⟨a0,cap,by simp only [G.cut,if_pos h8];exact h12,h13⟩
  ·cases h7
   obtain⟨b,es,h12,h13,h14,h15,h16,h17⟩:=hok
   exact⟨b,es,by simp only [G.cut,if_pos h8];exact h12,h13,h14,h15,h16,fun i e x he hx=>⟨(h17 i e x he hx).1,(h17 i e x he hx).2.1,(h17 i e x he hx).2.2.cut2 (List.all_eq_true.1 h9 _ (List.mem_of_getElem? hx))⟩⟩
  ·cases h7
   obtain⟨b,h12,h13⟩:=hok
   exact⟨b,by simp only [G.cut,if_pos h8];exact h12,h13⟩
 ·obtain⟨o3,h10,h11⟩:=subO_get h2 h6
  obtain⟨o4,h12,h13⟩:=subO_get h2 h7
  exact hr.o.apart id o3 id' o4 b h10 h12 (by rw [←hblk id o3 o1 h6 h11];exact h8) (by rw [←hblk id' o4 o2 h7 h13];exact h9)
def lp {ι:Type} (N:Nat) (S:ι→St) (μ:ι→Nat) (m:Nat) (Q:Exit→St→Prop):Exit→St→Prop
 | .normal,s=>∃i,μ i<m∧Sub N s (S i)
 |e,s=>Q e s
open Classical in
theorem SWp.loop {ι:Type} {c:Code} {Q:Exit→St→Prop} (S:ι→St) (μ:ι→Nat) (i0:ι) (h0:Sub N s (S i0)) (hround:∀i,SWp P n N c (lp N S μ (μ i) Q) (S i)):SWp P n N (.loop c) Q s:=by
 intro δ g a w hr hn
 let J:ι→Act→World→Prop:=fun i a' w'=>∃g',Rel δ g' (S i) a' w'∧a'.tmps.size=n∧StepN N g s w g' (S i) w'
 let I:Act→World→Prop:=fun a' w'=>∃i,J i a' w'
 let M:Act→World→Nat→Prop:=fun a' w' k=>∃i,J i a' w'∧μ i=k
 have hleast:∀a' w',I a' w'→∃k,M a' w' k∧∀j,M a' w' j→k≤j:=by
  intro a' w' ⟨i,hi⟩
  have key:∀k,M a' w' k→∃k,M a' w' k∧∀j,M a' w' j→k≤j:=by
   intro k
   induction k using Nat.strongRecOn with
   |_ k ih=>
    intro hk
    by_cases h:∃j,j<k∧M a' w' j
    ·obtain⟨j,hj,hm⟩:=h
     exact ih j hj hm
    ·exact⟨k,hk,fun j hj=>Nat.le_of_not_lt fun hlt=>h ⟨j,hlt,hj⟩⟩
  exact key (μ i) ⟨i,hi,rfl⟩
 let ν:Act→World→Nat:=fun a' w'=>if h:I a' w' then(hleast a' w' h).choose else 0
 have hν:∀a' w' (h:I a' w'),M a' w' (ν a' w')∧∀j,M a' w' j→ν a' w'≤j:=by
  intro a' w' h
  have e:ν a' w'=(hleast a' w' h).choose:=dif_pos h
  rw [e]
  exact(hleast a' w' h).choose_spec
 refine wp_loop I ν ⟨i0,g.cut (S i0).nx,(hr.sub h0).1,hn,(hr.sub h0).2⟩ fun a' w' hI=> ?_
 obtain⟨⟨i,⟨g',h1,h2,h3⟩,h4⟩,_⟩:=hν a' w' hI
 refine wp_mono (hround i δ g' a' w' h1 h2) fun e a'' w'' ⟨g'',s'',h5,h6,h7,h8⟩=> ?_
 cases e with
 |normal=>
  obtain⟨j,hj,hsub⟩:=h5
  obtain⟨h9,h10⟩:=h6.sub hsub
  have hJ:J j a'' w'':=⟨_,h9,h7,(h3.trans h8).trans h10⟩
  refine⟨⟨j,hJ⟩, ?_⟩
  have:=(hν a'' w'' ⟨j,hJ⟩).2 (μ j) ⟨j,hJ,rfl⟩
  omega
 |_=>exact⟨g'',s'',h5,h6,h7,h3.trans h8⟩
theorem SWp.mono {c:Code} {Q Q':Exit→St→Prop} (h:SWp P n N c Q s) (hq:∀e s',Q e s'→Q' e s'):SWp P n N c Q' s:=
 fun δ g a w hr hn=>wp_mono (h δ g a w hr hn) fun e a' w' ⟨g',s',h1,h2⟩=>⟨g',s',hq e s' h1,h2⟩
theorem SWp.nilvec {c:Code} {Q:Exit→St→Prop} (t z:Nat) (e:TypeId) (ht:lk t s.tm=some .nil) (hN:N≤s.nx) (h:SWp P n N c Q ⟨(t, .vec s.nx 0)::s.tm,(s.nx, .vec true z e [])::s.os,s.nx+1⟩):SWp P n N c Q s:=by
 intro δ g a w hr hn
 obtain⟨h1,h2⟩:=vec_sound' hr w (Nat.le_refl _) (fun _ _=>rfl) (sz:=z) (e:=e) (els:=[]) (a0:=none) (cap:=0) (Nat.le_refl _) (by simp) (by simp) (.inl ⟨rfl,rfl⟩) none (fun x hx=>by cases hx)
 obtain⟨v,h3,h4⟩:=hr.tm t _ ht
 cases h4
 have hr':Rel δ (g.vec s.nx (none,0,0)) ⟨(t, .vec s.nx 0)::s.tm,(s.nx, .vec true z e [])::s.os,s.nx+1⟩ a w:=by
  refine⟨fun u d hu=> ?_,h1.defers,h1.o.tm⟩
  simp only [lk_cons]at hu
  split at hu
  ·rename_i he;subst he;cases hu
   refine⟨_,h3, ?_⟩
   exact .vec none 0 _ _ none 0 0 (by simp [G.vec]) (Nat.le_refl _) (Nat.zero_le _) (.inl rfl) fun _=>⟨rfl,rfl⟩
  ·exact h1.tm u d hu
 refine wp_mono (h δ _ a w hr' hn) fun e a' w' ⟨g'',s'',h5,h6,h7,h8⟩=>⟨g'',s'',h5,h6,h7, ?_⟩
 exact(h2.toN.tm (tm:=s.tm) (tm':=(t, .vec s.nx 0)::s.tm)).trans h8
end
open Go
def FreshFn (P:Program) (f:FuncId) (rs:List D) (r:D) (fr:Fr):Prop:=
 (∃fn,P.funcs[f]? =some fn∧(fn.name== "runtime.NumGoroutine")=false∧fn.body.isNone=false)∧
 ∀(I:Nat→Prop) (w:World) (vs:Array Value),Cels I w→vs.size=rs.length→
  (∀(i:Nat) (v:Value) (d:D),vs[i]? =some v→rs[i]? =some d→VRel (G0 I) w v d)→
  Calls P f vs w fun e w'=>∃v g',e= .returned v∧RelO g' ⟨[],news 0 fr [],fr.length⟩ w'∧VRel g' w' v r∧Ext w w'∧(∀b,I b→g'.I b)∧(∀b,b<w.heap.size→g'.I b→I b)∧∀b,b<w.heap.size→¬Own g' ⟨[],news 0 fr [],fr.length⟩ b
def Fr.ob (x:Nat×TypeId×Bool×List (List C)):Ob:= .vec x.2.2.1 x.1 x.2.1 x.2.2.2
theorem lk_news {id:Nat}:∀(fr:Fr) (nx:Nat) (os:List (Nat×Ob)),lk id (news nx fr os)=if nx≤id then match fr[id - nx]? with|some x=>some (Fr.ob x)|none=>lk id os else lk id os
 |[],nx,os=>by simp [news]
 |(z,e,hb,els)::l,nx,os=>by
  rw [news,lk_news l]
  by_cases h1:nx+1≤id
  ·rw [if_pos h1,if_pos (show nx≤id by omega),show id - nx=(id - (nx+1))+1 by omega,List.getElem?_cons_succ]
   have:lk id ((nx,Ob.vec hb z e els)::os)=lk id os:=by simp only [lk_cons];rw [if_neg (show¬id=nx by omega)]
   rw [this]
  ·rw [if_neg h1]
   by_cases h2:nx≤id
   ·have:id=nx:=by omega
    subst this
    simp [lk_cons,Fr.ob]
   ·rw [if_neg h2]
    simp only [lk_cons]
    rw [if_neg (show¬id=nx by omega)]
section
variable {P:Program} {g g':G} {s s':St} {a:Act} {w w':World} {n N:Nat}
def G.cat (g g':G) (nx:Nat):G:=⟨fun id=>if id<nx then g.ρ id else g'.ρ (id - nx),fun id=>if id<nx then g.κ id else g'.κ (id - nx),g'.I⟩
theorem VRel.sh1 {nx:Nat} {v:Value} {d:D} (h:VRel g' w v d):VRel (g.cat g' nx) w v (d.sh1 nx):=by
 cases d<;>try exact .undef _
 case c x=>cases h with|c _ _ h=>exact .c _ _ h
 case nil=>cases h;exact .nil
 case csl els=>cases h with|csl _ _ h=>exact .csl _ _ h
 case vec id m=>
  cases h with
  |vec a' cap' _ _ a0 len cap hk hn hm ha hv=>
   exact .vec _ _ _ _ a0 len cap (by simp only [G.cat];rw [if_neg (by omega),Nat.add_sub_cancel];exact hk) hn hm ha hv
theorem VRel.sh2 {nx:Nat} {v:Value} {d:D} (h:VRel g' w v d):VRel (g.cat g' nx) w v (d.sh2 nx):=by
 unfold D.sh2
 split
 ·cases h with
  |agg vs _ hl hp=>
   refine .agg vs _ (by simpa using hl) fun i u e hu he=> ?_
   simp only [List.getElem?_map,Option.map_eq_some_iff]at he
   obtain⟨e',he',rfl⟩:=he
   exact(hp i u e' hu he').sh1
 ·exact h.sh1
theorem VRel.sh3 {nx:Nat} {v:Value} {d:D} (h:VRel g' w v d):VRel (g.cat g' nx) w v (d.sh3 nx):=by
 unfold D.sh3
 split
 ·cases h with
  |tup vs _ hl hp=>
   refine .tup vs _ (by simpa using hl) fun i u e hu he=> ?_
   simp only [List.getElem?_map,Option.map_eq_some_iff]at he
   obtain⟨e',he',rfl⟩:=he
   exact(hp i u e' hu he').sh2
 ·exact h.sh2
theorem RelO.cat (ho:RelO g s w) {fr:Fr} (hn:RelO g' ⟨[],news 0 fr [],fr.length⟩ w') (he:Ext w w') (h3:∀b,g.I b→g'.I b) (h4:∀b,b<w.heap.size→g'.I b→g.I b) (h5:∀b,b<w.heap.size→¬Own g' ⟨[],news 0 fr [],fr.length⟩ b):
 RelO (g.cat g' s.nx) ⟨[],news s.nx fr s.os,s.nx+fr.length⟩ w'∧Step g s w (g.cat g' s.nx) ⟨[],news s.nx fr s.os,s.nx+fr.length⟩ w':=by
 have hle:g.Le (g.cat g' s.nx):=by
  refine⟨fun id b hb=> ?_,fun id a l c hk=>⟨a,l,c, ?_,Nat.le_refl _,fun _=>⟨rfl,rfl⟩⟩,h3⟩
  ·have:id<s.nx:=by
    rcases Nat.lt_or_ge id s.nx with h|h
    ·exact h
    ·rw [(ho.fresh id h).1]at hb;cases hb
   simp only [G.cat,if_pos this,hb]
  ·have:id<s.nx:=by
    rcases Nat.lt_or_ge id s.nx with h|h
    ·exact h
    ·rw [(ho.fresh id h).2]at hk;cases hk
   simp only [G.cat,if_pos this,hk]
 have hkeep:Keeps g.I w w':=fun b hb=>he.2.1 b (ho.imm b hb).1
 have hcase:∀id o,lk id (news s.nx fr s.os)=some o→(id<s.nx∧lk id s.os=some o)∨(s.nx≤id∧∃x,fr[id - s.nx]? =some x∧o=Fr.ob x∧lk (id - s.nx) (news 0 fr [])=some o):=by
  intro id o h
  rw [lk_news]at h
  split at h
  ·rename_i hle'
   split at h
   ·rename_i x hx
    cases h
    exact .inr ⟨hle',x,hx,rfl,by rw [lk_news];simp [hx]⟩
   ·have:=ho.lt h;omega
  ·exact .inl ⟨by omega,h⟩
 have hold:∀id o,id<s.nx→(g.cat g' s.nx).blk id o=g.blk id o:=fun id o h=>by cases o<;>simp only [G.blk,G.cat,if_pos h]
 have hnew:∀id x,s.nx≤id→(g.cat g' s.nx).blk id (Fr.ob x)=g'.blk (id - s.nx) (Fr.ob x):=fun id x h=>by simp only [Fr.ob,G.blk,G.cat,if_neg (Nat.not_lt.2 h)]
 have hoO:∀b,Own (g.cat g' s.nx) ⟨[],news s.nx fr s.os,s.nx+fr.length⟩ b→(b<w.heap.size∧Own g s b)∨(w.heap.size≤b∧Own g' ⟨[],news 0 fr [],fr.length⟩ b):=by
  rintro b ⟨id,o,h1,h2⟩
  rcases hcase id o h1 with⟨h6,h7⟩|⟨h6,x,h7,rfl,h8⟩
  ·rw [hold id o h6]at h2
   have:Own g s b:=⟨id,o,h7,h2⟩
   exact .inl ⟨Own.lt ho this,this⟩
  ·rw [hnew id x h6]at h2
   have:Own g' ⟨[],news 0 fr [],fr.length⟩ b:=⟨_,_,h8,h2⟩
   rcases Nat.lt_or_ge b w.heap.size with h|h
   ·exact absurd this (h5 b h)
   ·exact .inr ⟨h,this⟩
 refine⟨⟨fun id o h=> ?_,fun id o id' o' b h1 h2 h6 h7=> ?_,fun id hid=> ?_,fun b hb=>⟨(hn.imm b hb).1,fun h=> ?_⟩,hn.cel⟩,⟨hle,he.1,fun b hb _=>he.2.1 b hb,fun b hb h h'=> ?_,fun b hb _ h=>h4 b hb h,he.2.2⟩⟩
 ·rcases hcase id o h with⟨h6,h7⟩|⟨h6,x,h7,rfl,h8⟩
  ·exact(ho.ok id o h7).mono hkeep hle (fun b hb=>he.2.1 b ((ho.ok id o h7).lt.1 b hb)) (by cases o<;>simp only [G.cat,if_pos h6])
  ·have:=hn.ok _ _ h8
   obtain⟨a,cap,h9,h10⟩:=this
   exact⟨a,cap,by simp only [G.cat];rw [if_neg (by omega)];exact h9,h10⟩
 ·rcases hcase id o h1 with⟨h8,h9⟩|⟨h8,x,h9,rfl,h10⟩<;>rcases hcase id' o' h2 with⟨h11,h12⟩|⟨h11,y,h12,rfl,h13⟩
  ·rw [hold id o h8]at h6;rw [hold id' o' h11]at h7
   exact ho.apart id o id' o' b h9 h12 h6 h7
  ·rw [hold id o h8]at h6;rw [hnew id' y h11]at h7
   exact absurd ⟨_,_,h13,h7⟩ (h5 b (Own.lt ho ⟨id,o,h9,h6⟩))
  ·rw [hnew id x h8]at h6;rw [hold id' o' h11]at h7
   exact absurd ⟨_,_,h10,h6⟩ (h5 b (Own.lt ho ⟨id',o',h12,h7⟩))
  ·rw [hnew id x h8]at h6;rw [hnew id' y h11]at h7
   have:=hn.apart _ _ _ _ b h10 h13 h6 h7
   omega
 ·have h6:=hn.fresh (id - s.nx) (by show fr.length≤_;have:s.nx+fr.length≤id:=hid;omega)
  have:¬id<s.nx:=by have:s.nx+fr.length≤id:=hid;omega
  simp only [G.cat,if_neg this]
  exact h6
 ·rcases hoO b h with⟨h6,h7⟩|⟨h6,h7⟩
  ·exact(ho.imm b (h4 b h6 hb)).2 h7
  ·exact(hn.imm b hb).2 h7
 ·rcases hoO b h' with⟨h6,h7⟩|⟨h6,h7⟩
  ·exact h h7
  ·omega
theorem FreshFn.give {f:FuncId} {rs ds:List D} {r:D} {fr:Fr} (h:FreshFn P f rs r fr) {os:List (Nat×Ob)} {nx:Nat} {Q:D→List (Nat×Ob)→Nat→Prop} (hp:pw (pur2 os) ds rs)
 (hQ:Q (r.sh3 nx) (news nx fr (rmv os (vids2 ds))) (nx+fr.length)):ACall P f ds os nx Q:=by
 refine⟨h.1,fun g w vs ho hsz hv=> ?_⟩
 obtain⟨h8,h9⟩:=ho.give (vids2 ds)
 obtain⟨hp1,hp2⟩:=pw_get hp
 have h2:∀(i:Nat) (v:Value) (d:D),vs[i]? =some v→rs[i]? =some d→VRel (G0 (g.imm fun b=>g.I b∨∃id∈vids2 ds,∃o,lk id os=some o∧g.blk id o=some b).I) w v d:=fun i v r hvi hr=>by
  have hi:i<vs.size:=by
   rcases Nat.lt_or_ge i vs.size with h|h
   ·exact h
   ·rw [Array.getElem?_eq_none h]at hvi;cases hvi
  have hd:=List.getElem?_eq_getElem (l:=ds) (i:=i) (by omega)
  exact pur2_give ho rfl (fun b hb=> .inl hb) (fun id hid b o h3 h4=> .inr ⟨id,vids2_get hd hid,o,h3,h4⟩) (hv i v _ hvi hd) (hp2 i _ r hd hr)
 refine(h.2 _ w vs h8.cel (by omega) h2).mono ?_
 rintro e w' ⟨v,g',he,hn,hvr,hext,h3,h4,h5⟩
 obtain⟨h6,h7⟩:=h8.cat hn hext h3 h4 h5
 exact⟨v,_,_,_,_,he,hQ,h6,hvr.sh3,h9.trans h7⟩
theorem sc_any {I I':Nat→Prop} {v:Value} {c:C} (h:CRel I w v c) (hs:c.sc=true):CRel I' w v c:=by
 cases h<;>first|(simp [C.sc]at hs;done)|constructor
theorem flatF_get:∀{fr:Fr} {i:Nat} {x:Nat×TypeId×Bool×List (List C)},flatF fr→fr[i]? =some x→flatE x.2.2.2
 |[],_,_,_,h=>by simp at h
 |(z,e,b,els)::l,0,x,hf,h=>by
  simp at h;subst h;exact hf.1
 |(z,e,b,els)::l,i+1,x,hf,h=>flatF_get hf.2 (by simpa using h)
theorem VRel.frI1 {g1 g2:G} (hκ:∀id,g2.κ id=g1.κ id) {v:Value} {d:D} (h:VRel g1 w v d) (hs:d.fr1=true):VRel g2 w v d:=by
 unfold D.fr1 at hs
 split at hs
 ·cases h with
  |vec a' cap' _ _ a0 len cap hk hn hm ha hv=>exact .vec _ _ _ _ a0 len cap (by rw [hκ];exact hk) hn hm ha hv
 ·exact h.any1 hs
theorem VRel.frI2 {g1 g2:G} (hκ:∀id,g2.κ id=g1.κ id) {v:Value} {d:D} (h:VRel g1 w v d) (hs:d.fr2=true):VRel g2 w v d:=by
 unfold D.fr2 at hs
 split at hs
 ·cases h with
  |agg vs _ hl hp=>exact .agg vs _ hl fun i u e hu he=>(hp i u e hu he).frI1 hκ (List.all_eq_true.1 hs _ (List.mem_of_getElem? he))
 ·exact h.frI1 hκ hs
theorem VRel.frI3 {g1 g2:G} (hκ:∀id,g2.κ id=g1.κ id) {v:Value} {d:D} (h:VRel g1 w v d) (hs:d.fr3=true):VRel g2 w v d:=by
 unfold D.fr3 at hs
 split at hs
 ·cases h with
  |tup vs _ hl hp=>exact .tup vs _ hl fun i u e hu he=>(hp i u e hu he).frI2 hκ (List.all_eq_true.1 hs _ (List.mem_of_getElem? he))
 ·exact h.frI2 hκ hs
theorem FreshFn.lend {f:FuncId} {rs ds:List D} {r:D} {fr:Fr} (h:FreshFn P f rs r fr) (hr:r.fr3=true) (hfr:flatF fr) {os:List (Nat×Ob)} {nx:Nat} {Q:D→List (Nat×Ob)→Nat→Prop} (hp:pw (pur2 os) ds rs)
 (hQ:Q (r.sh3 nx) (news nx fr os) (nx+fr.length)):ACall P f ds os nx Q:=by
 refine⟨h.1,fun g w vs ho hsz hv=> ?_⟩
 obtain⟨h1,h2⟩:=args_pur ho (.inl rfl) (I:=fun b=>g.I b∨Own g ⟨[],os,nx⟩ b) (fun b hb=> .inl hb) (fun _ b hb=> .inr hb) hsz hv hp
 refine(h.2 _ w vs (ho.cel.keep (fun b hb=> .inl hb) (fun _ _=>rfl) fun b hb=>hb.elim (fun hb=>ho.cel b hb) (Own.cel ho)) h1 h2).mono ?_
 rintro e w' ⟨v,g',he,hn,hvr,hext,h3,h4,h5⟩
 have hblk:∀id o,(g'.imm g.I).blk id o=g'.blk id o:=fun id o=>by cases o<;>rfl
 have hown:∀b,Own (g'.imm g.I) ⟨[],news 0 fr [],fr.length⟩ b→Own g' ⟨[],news 0 fr [],fr.length⟩ b:=fun b ⟨id,o,h6,h7⟩=>⟨id,o,h6,by rwa [hblk]at h7⟩
 have hn':RelO (g'.imm g.I) ⟨[],news 0 fr [],fr.length⟩ w':=by
  refine⟨fun id o hid=> ?_,fun id o id' o' b h6 h7 h8 h9=>hn.apart id o id' o' b h6 h7 (by rwa [hblk]at h8) (by rwa [hblk]at h9),hn.fresh,fun b hb=>⟨(hn.imm b (h3 b (.inl hb))).1,fun ho=>(hn.imm b (h3 b (.inl hb))).2 (hown b ho)⟩,ho.cel.keep (fun _ hb=>hb) (fun b hb=>hext.2.1 b (ho.imm b hb).1) fun b hb=>hn.cel b (h3 b (.inl hb))⟩
  have hok:=hn.ok id o hid
  have hlk:lk id (news 0 fr [])=some o:=hid
  rw [lk_news]at hlk
  simp only [Nat.zero_le,if_true,Nat.sub_zero]at hlk
  split at hlk
  ·rename_i x hx
   cases hlk
   have hfl:=flatF_get hfr hx
   obtain⟨a,cap,q1,q2,q3,q4,q5⟩:=hok
   refine⟨a,cap,q1,q2,q3,q4, ?_⟩
   rcases q5 with q5|⟨b,off,cells,us,q6,q7,q8,q9,q10⟩
   ·exact .inl q5
   ·exact .inr ⟨b,off,cells,us,q6,q7,q8,q9,fun i j y z hy hz=>⟨(q10 i j y z hy hz).1,sc_any (q10 i j y z hy hz).2 (hfl y (List.mem_of_getElem? hy) z (List.mem_of_getElem? hz))⟩⟩
  ·cases hlk
 obtain⟨h6,h7⟩:=ho.cat hn' hext (fun b hb=>hb) (fun b _ hb=>hb) (fun b hb ho=>h5 b hb (hown b ho))
 exact⟨v,_,_,_,_,he,hQ,h6,(VRel.frI3 (g1:=g') (g2:=g'.imm g.I) (fun _=>rfl) hvr hr).sh3,h7⟩
end
open Go
def fre1 (ids:List (Option Nat)) (os:List (Nat×Ob)):D→D→Prop
 | .vec id n, .vec j m=>ids[j]? =some (some id)∧n=m
 | .nil, .vec j m=>ids[j]? =some none∧m=0
 | .vec id n,r=>ids.contains (some id)=false∧pur1 os (.vec id n) r
 | .ref id n,r=>ids.contains (some id)=false∧pur1 os (.ref id n) r
 | .mp id,r=>ids.contains (some id)=false∧pur1 os (.mp id) r
 |d,r=>pur1 os d r
def fre2 (ids:List (Option Nat)) (os:List (Nat×Ob)):D→D→Prop
 | .agg l, .agg l'=>pw (fre1 ids os) l l'
 |d,r=>fre1 ids os d r
def fre3 (ids:List (Option Nat)) (os:List (Nat×Ob)):D→D→Prop
 | .tup l, .tup l'=>pw (fre2 ids os) l l'
 |d,r=>fre2 ids os d r
def freO (os:List (Nat×Ob)):List (Option Nat)→Fr→Prop
 |[],[]=>True
 |some i::l,(z,e,b,els)::l'=>lk i os=some (.vec b z e els)∧l.contains (some i)=false∧freO os l l'
 |none::l,(_,_,_,els)::l'=>els=[]∧freO os l l'
 |_,_=>False
def FR (r:D) (fr:Fr):D→List (Nat×Ob)→Nat→Prop:=fun d os _=>∃ids,freO os ids fr∧fre3 ids os d r
section
variable {P:Program} {g g':G} {s s':St} {a:Act} {w w':World} {n N:Nat}
theorem freO_get {os:List (Nat×Ob)}:∀{ids:List (Option Nat)} {fr:Fr},freO os ids fr→ids.length=fr.length∧(∀(i j id:Nat),ids[i]? =some (some id)→ids[j]? =some (some id)→i=j)∧
 (∀(j id:Nat) (x:Nat×TypeId×Bool×List (List C)),ids[j]? =some (some id)→fr[j]? =some x→lk id os=some (Fr.ob x))∧∀(j:Nat) (x:Nat×TypeId×Bool×List (List C)),ids[j]? =some none→fr[j]? =some x→x.2.2.2=[]
 |[],[],_=>⟨rfl,fun i j id h=>by simp at h,fun j id x h=>by simp at h,fun j x h=>by simp at h⟩
 |some i::l,(z,e,b,els)::l',h=>by
  obtain⟨h1,h2,h3⟩:=h
  obtain⟨h4,h5,h6,h7⟩:=freO_get h3
  have hnot:∀j:Nat,l[j]? ≠some (some i):=fun j hj=>by
   have:=List.mem_of_getElem? hj
   simp at h2
   exact h2 this
  refine⟨by simp [h4],fun a b id ha hb=> ?_,fun j id x hj hx=> ?_,fun j x hj hx=> ?_⟩
  ·cases a<;>cases b
   ·rfl
   ·simp at ha hb;subst ha;exact absurd hb (hnot _)
   ·simp at ha hb;subst hb;exact absurd ha (hnot _)
   ·rename_i a b
    have:=h5 a b id (by simpa using ha) (by simpa using hb)
    rw [this]
  ·cases j with
   |zero=>simp at hj hx;subst hj;subst hx;exact h1
   |succ j=>exact h6 j id x (by simpa using hj) (by simpa using hx)
  ·cases j with
   |zero=>simp at hj
   |succ j=>exact h7 j x (by simpa using hj) (by simpa using hx)
 |none::l,(z,e,b,els)::l',h=>by
  obtain⟨h1,h3⟩:=h
  obtain⟨h4,h5,h6,h7⟩:=freO_get h3
  refine⟨by simp [h4],fun a b id ha hb=> ?_,fun j id x hj hx=> ?_,fun j x hj hx=> ?_⟩
  ·cases a with
   |zero=>simp at ha
   |succ a=>
    cases b with
    |zero=>simp at hb
    |succ b=>
     have:=h5 a b id (by simpa using ha) (by simpa using hb)
     rw [this]
  ·cases j with
   |zero=>simp at hj
   |succ j=>exact h6 j id x (by simpa using hj) (by simpa using hx)
  ·cases j with
   |zero=>simp at hx;subst hx;exact h1
   |succ j=>exact h7 j x (by simpa using hj) (by simpa using hx)
 |[],_::_,h=>h.elim
 |some _::_,[],h=>h.elim
 |none::_,[],h=>h.elim
def G.sel (g:G) (os:List (Nat×Ob)) (ids:List (Option Nat)):G:=⟨fun _=>none,fun j=>match ids[j]? with
 |some (some id)=>g.κ id
 |some none=>some (none,0,0)
 |none=>none,fun b=>g.I b∨∃id,ids.contains (some id)=false∧∃o,lk id os=some o∧g.blk id o=some b⟩
theorem fre1_sound {ids:List (Option Nat)} (ho:RelO g s w) {v:Value} {d r:D} (hv:VRel g w v d) (h:fre1 ids s.os d r):VRel (g.sel s.os ids) w v r:=by
 have hI:∀b,g.I b→(g.sel s.os ids).I b:=fun b hb=> .inl hb
 have hp:∀{d r:D},(∀id∈vid1 d,ids.contains (some id)=false)→VRel g w v d→pur1 s.os d r→VRel (g.sel s.os ids) w v r:=fun hid hv h=>
  (pur1_give ho rfl hI (fun id hi b o h1 h2=> .inr ⟨id,hid id hi,o,h1,h2⟩) hv h).of0 fun b hb=>hb
 unfold fre1 at h
 split at h
 ·obtain⟨h1,rfl⟩:=h
  cases hv with
  |vec a' cap' _ _ a0 len cap hk hn hm ha hv=>exact .vec _ _ _ _ a0 len cap (by simp [G.sel,h1,hk]) hn hm ha hv
 ·obtain⟨h1,rfl⟩:=h
  cases hv
  exact .vec _ _ _ _ none 0 0 (by simp [G.sel,h1]) (Nat.le_refl _) (Nat.zero_le _) (.inl rfl) fun _=>⟨rfl,rfl⟩
 ·exact hp (fun id hid=>by simp only [vid1,List.mem_singleton]at hid;subst hid;exact h.1) hv h.2
 ·exact hp (fun id hid=>by simp only [vid1,List.mem_singleton]at hid;subst hid;exact h.1) hv h.2
 ·exact hp (fun id hid=>by simp only [vid1,List.mem_singleton]at hid;subst hid;exact h.1) hv h.2
 ·rename_i h1 h2 h3 h4 h5
  refine hp (fun id hid=> ?_) hv h
  cases d<;>first|(cases hid;done)|(first|exact(h3 _ rfl).elim|exact(h4 _ _ rfl).elim|exact(h3 _ _ rfl).elim|exact(h2 _ _ rfl).elim|exact(h1 _ _ rfl).elim)
theorem fre2_sound {ids:List (Option Nat)} (ho:RelO g s w) {v:Value} {d r:D} (hv:VRel g w v d) (h:fre2 ids s.os d r):VRel (g.sel s.os ids) w v r:=by
 unfold fre2 at h
 split at h
 ·obtain⟨h1,h2⟩:=pw_get h
  cases hv with
  |agg vs _ hl hp=>
   refine .agg vs _ (by omega) fun i u e hu he=> ?_
   have hi:i<vs.size:=by
    rcases Nat.lt_or_ge i vs.size with h|h
    ·exact h
    ·rw [Array.getElem?_eq_none h]at hu;cases hu
   have hd:=List.getElem?_eq_getElem (l:=_) (i:=i) (by rw [←hl];exact hi)
   exact fre1_sound ho (hp i u _ hu hd) (h2 i _ e hd he)
 ·exact fre1_sound ho hv h
theorem fre3_sound {ids:List (Option Nat)} (ho:RelO g s w) {v:Value} {d r:D} (hv:VRel g w v d) (h:fre3 ids s.os d r):VRel (g.sel s.os ids) w v r:=by
 unfold fre3 at h
 split at h
 ·obtain⟨h1,h2⟩:=pw_get h
  cases hv with
  |tup vs _ hl hp=>
   refine .tup vs _ (by omega) fun i u e hu he=> ?_
   have hi:i<vs.size:=by
    rcases Nat.lt_or_ge i vs.size with h|h
    ·exact h
    ·rw [Array.getElem?_eq_none h]at hu;cases hu
   have hd:=List.getElem?_eq_getElem (l:=_) (i:=i) (by rw [←hl];exact hi)
   exact fre2_sound ho (hp i u _ hu hd) (h2 i _ e hd he)
 ·exact fre2_sound ho hv h
theorem RelO.sel (ho:RelO g s w) {ids:List (Option Nat)} {fr:Fr} (h:freO s.os ids fr):RelO (g.sel s.os ids) ⟨[],news 0 fr [],fr.length⟩ w∧∀b,Own (g.sel s.os ids) ⟨[],news 0 fr [],fr.length⟩ b→Own g s b:=by
 obtain⟨h1,h2,h3,h3'⟩:=freO_get h
 have hcase:∀j o,lk j (news 0 fr [])=some o→∃x,fr[j]? =some x∧o=Fr.ob x∧((∃id,ids[j]? =some (some id)∧lk id s.os=some o)∨(ids[j]? =some Option.none∧x.2.2.2=[])):=by
  intro j o hj
  rw [lk_news]at hj
  simp only [Nat.zero_le,if_true,Nat.sub_zero]at hj
  split at hj
  ·rename_i x hx
   cases hj
   have hlt:j<ids.length:=by rw [h1];exact(List.getElem?_eq_some_iff.1 hx).1
   refine⟨x,hx,rfl, ?_⟩
   have hg:=List.getElem?_eq_getElem hlt
   cases hid:ids[j]with
   |none=>rw [hid]at hg;exact .inr ⟨hg,h3' j x hg hx⟩
   |some id=>rw [hid]at hg;exact .inl ⟨id,hg,h3 j id x hg hx⟩
  ·cases hj
 have hblk:∀j id x,ids[j]? =some (some id)→(g.sel s.os ids).blk j (Fr.ob x)=g.blk id (Fr.ob x):=fun j id x hj=>by simp [Fr.ob,G.blk,G.sel,hj]
 have hblk0:∀j x,ids[j]? =some Option.none→(g.sel s.os ids).blk j (Fr.ob x)=Option.none:=fun j x hj=>by simp [Fr.ob,G.blk,G.sel,hj]
 have hown:∀j o b,lk j (news 0 fr [])=some o→(g.sel s.os ids).blk j o=some b→∃id,ids[j]? =some (some id)∧lk id s.os=some o∧g.blk id o=some b:=by
  intro j o b h4 h5
  obtain⟨x,h6,rfl,h7⟩:=hcase j o h4
  rcases h7 with⟨id,h7,h8⟩|⟨h7,_⟩
  ·rw [hblk j id x h7]at h5
   exact⟨id,h7,h8,h5⟩
  ·rw [hblk0 j x h7]at h5;cases h5
 refine⟨⟨fun j o hj=> ?_,fun j o j' o' b h4 h5 h6 h7=> ?_,fun j hj=>⟨rfl, ?_⟩,fun b hb=> ?_,ho.cel.keep (fun b hb=> .inl hb) (fun _ _=>rfl) fun b hb=>hb.elim (ho.cel b) fun⟨id,_,o,h4,h5⟩=>Own.cel ho ⟨id,o,h4,h5⟩⟩,fun b hb=> ?_⟩
 ·obtain⟨x,h6,rfl,h7⟩:=hcase j o hj
  rcases h7 with⟨id,h7,h8⟩|⟨h7,h8⟩
  ·obtain⟨a,cap,h9,h10,h11,h12,h13⟩:=ho.ok id _ h8
   refine⟨a,cap,by simp [G.sel,h7,h9],h10,h11,h12, ?_⟩
   rcases h13 with h13|⟨b,off,cells,vs,h14,h15,h16,h17,h18⟩
   ·exact .inl h13
   ·exact .inr ⟨b,off,cells,vs,h14,h15,h16,h17,fun i k y z hy hz=>⟨(h18 i k y z hy hz).1,(h18 i k y z hy hz).2.mono (fun _ _=>rfl) fun b hb=> .inl hb⟩⟩
  ·refine⟨Option.none,0,by simp [G.sel,h7,h8],by simp [h8],Nat.zero_le _,by simp [h8], .inl ⟨rfl,rfl⟩⟩
 ·obtain⟨id,h8,h9,h10⟩:=hown j o b h4 h6
  obtain⟨id',h11,h12,h13⟩:=hown j' o' b h5 h7
  have:=ho.apart _ _ _ _ b h9 h12 h10 h13
  subst this
  exact h2 j j' id h8 h11
 ·have:ids[j]? =Option.none:=List.getElem?_eq_none (by rw [h1];exact hj)
  simp [G.sel,this]
 ·rcases hb with hb|⟨id,hid,o,h4,h5⟩
  ·refine⟨(ho.imm b hb).1,fun⟨j,o,h6,h7⟩=> ?_⟩
   obtain⟨id,_,h8,h9⟩:=hown j o b h6 h7
   exact(ho.imm b hb).2 ⟨id,o,h8,h9⟩
  ·refine⟨Own.lt ho ⟨id,o,h4,h5⟩,fun⟨j,o',h6,h7⟩=> ?_⟩
   obtain⟨id',h8,h9,h10⟩:=hown j o' b h6 h7
   have:=ho.apart _ _ _ _ b h4 h9 h5 h10
   subst this
   have:=List.mem_of_getElem? h8
   simp only [List.contains_eq_mem,decide_eq_false_iff_not]at hid
   exact hid this
 ·obtain⟨j,o,h6,h7⟩:=hb
  obtain⟨id,_,h8,h9⟩:=hown j o b h6 h7
  exact⟨id,o,h8,h9⟩
theorem FreshFn.of {f:FuncId} {rs:List D} {r:D} {fr:Fr} (h:ACall P f rs [] 0 (FR r fr)):FreshFn P f rs r fr:=by
 refine⟨h.1,fun I w vs hI hsz hv=>(h.2 (G0 I) w vs (RelO.none I w hI) hsz hv).mono ?_⟩
 rintro e w' ⟨v,d,g',os',nx',he,⟨ids,h1,h2⟩,hro,hvr,hst⟩
 have hno:∀b,¬Own (G0 I) ⟨[],[],0⟩ b:=fun b ⟨id,o,h,_⟩=>by cases h
 obtain⟨h3,h4⟩:=hro.sel h1
 refine⟨v,_,he,h3,fre3_sound hro hvr h2,⟨hst.size,fun b hb=>hst.same b hb (hno b),hst.env⟩,fun b hb=> .inl (hst.le.I b hb),fun b hb h=> ?_,fun b hb h=>hst.own b hb (hno b) (h4 b h)⟩
 rcases h with h|⟨id,_,o,h5,h6⟩
 ·exact hst.imm b hb (hno b) h
 ·exact absurd ⟨id,o,h5,h6⟩ (hst.own b hb (hno b))
theorem FreshFn.toPure {f:FuncId} {rs:List D} {r r':D} {fr:Fr} (h:FreshFn P f rs r fr) (hp:pur3 (news 0 fr []) r r'):PureFn P f rs r':=by
 refine⟨h.1,fun I w vs hI hsz hv=>(h.2 I w vs hI hsz hv).mono ?_⟩
 rintro e w' ⟨v,g',he,hn,hvr,hext,h3,h4,h5⟩
 refine⟨v,fun b=>g'.I b∨Own g' ⟨[],news 0 fr [],fr.length⟩ b,he,pur3_sound (s:=⟨[],news 0 fr [],fr.length⟩) hn (.inl rfl) (fun b hb=> .inl hb) (fun _ b hb=> .inr hb) hvr hp,hext,fun b hb=> .inl (h3 b hb),fun b hb h=> ?_,hn.cel.keep (fun b hb=> .inl hb) (fun _ _=>rfl) fun b hb=>hb.elim (hn.cel b) (Own.cel hn)⟩
 rcases h with h|h
 ·exact h4 b hb h
 ·exact absurd h (h5 b hb)
def FnOk (P:Program) (f:FuncId) (rs:List D) (r:D):Fr→Prop
 |[]=>PureFn P f rs r
 |x::l=>r.scal=false∧FreshFn P f rs r (x::l)
def TabOk (P:Program) (T:Tab):Prop:=∀f sp rs p r fr,lk f T=some sp→sp rs=some (p,r,fr)→p→FnOk P f rs r fr
theorem TabOk.nil:TabOk P []:=fun f sp rs p r fr h=>by cases h
theorem TabOk.cons {f:FuncId} {sp:List D→Option (Prop×D×Fr)} {T:Tab} (h:∀rs p r fr,sp rs=some (p,r,fr)→p→FnOk P f rs r fr) (hT:TabOk P T):TabOk P ((f,sp)::T):=by
 intro f' sp' rs p r fr hl hs hp
 simp only [lk_cons]at hl
 split at hl
 ·rename_i e
  subst e
  cases hl
  exact h rs p r fr hs hp
 ·exact hT f' sp' rs p r fr hl hs hp
theorem TabOk.toS {T:Tab} (hT:TabOk P T):TabS P T:=by
 intro f ds os nx Q h
 unfold XCall at h
 split at h
 ·rename_i p r os' nx' hl
  unfold look at hl
  split at hl
  ·rename_i sp hsp
   split at hl
   ·rename_i rs hrs
    split at hl
    ·rename_i p' r' fr hs
     split at hl
     ·cases hl
      obtain⟨⟨hp,hr3,hfl,hne⟩,h2⟩:=h
      have hf:=hT f sp rs _ _ _ hsp hs hp
      cases fr with
      |nil=>exact absurd rfl hne
      |cons x l=>
       obtain⟨h3,h4⟩:=hf
       exact h4.lend hr3 hfl (pures2_pur hrs) h2
     cases hl
     have hf:=hT f sp rs _ _ _ hsp hs h.1
     cases fr with
     |nil=>
      have h2:=h.2
      simp only [news,shf,List.length_nil,Nat.add_zero]at h2
      split at h2
      ·rename_i hsc
       exact hf.lend hsc (pures2_pur hrs) h2
      ·exact hf.give (pures2_pur hrs) h2
     |cons x l=>
      obtain⟨h3,h4⟩:=hf
      have h2:=h.2
      rw [if_neg (by rw [h3];simp)]at h2
      exact h4.give (pures2_pur hrs) h2
    ·cases hl
   ·cases hl
  ·cases hl
 ·exact h
end
open Go
def quietOp:Op→Bool
 | .move _=>true
 | .assign _=>true
 | .pick _ _ _=>true
 | .load _ _=>true
 | .nilCheck _=>true
 | .unOp _ _ _=>true
 | .convert _ _ _=>true
 | .makeFunc _ _ _=>true
 | .fieldAddr _ _ _=>true
 | .field _ _ _=>true
 | .indexAddr _ _ _=>true
 | .index _ _ _=>true
 | .extract _ _=>true
 | .build _ _=>true
 | .call c=>match c.callee with
  | .builtin .len=>true
  | .builtin .min=>true
  | .builtin .max=>true
  |_=>false
 |_=>false
def D.scx1:D→Bool
 | .c (.bool _)=>true
 | .c (.int _ _)=>true
 | .c (.str _)=>true
 |_=>false
def D.scx:D→Bool
 | .tup l=>l.all D.scx1
 | .agg l=>l.all D.scx1
 |d=>d.scx1
theorem D.scx1_scal1 {d:D} (h:d.scx1=true):d.scal1=true:=by
 cases d<;>first|cases h;done|skip
 rename_i x
 cases x<;>first|rfl|cases h
theorem D.scx_scal {d:D} (h:d.scx=true):d.scal=true:=by
 cases d with
 |tup l=>exact List.all_eq_true.2 fun x hx=>D.scx1_scal1 (List.all_eq_true.1 h x hx)
 |agg l=>exact List.all_eq_true.2 fun x hx=>D.scx1_scal1 (List.all_eq_true.1 h x hx)
 |c x=>exact D.scx1_scal1 (d:= .c x) h
 |_=>cases h
def QCall (P:Program) (f:FuncId) (ds:List D) (os:List (Nat×Ob)) (K:D→Prop):Prop:=
 ∃rs r,PureFn P f rs r∧r.scx=true∧pw (pur2 os) ds rs∧K r
theorem sh3_scal {k:Nat} {r:D} (h:(r.sh3 k).scal=true):r.scal=true:=by
 have h1:∀d:D,(d.sh1 k).scal1=true→d.scal1=true:=fun d hd=>by
  cases d<;>first|exact hd|cases hd
 have h2:∀d:D,(d.sh2 k).scal1=true→d.scal1=true:=fun d hd=>by
  cases d<;>first|exact h1 _ hd|cases hd
 cases r with
 |tup l=>
  simp only [D.sh3,D.scal,List.all_map,List.all_eq_true]at h⊢
  exact fun x hx=>h2 x (h x hx)
 |agg l=>
  simp only [D.sh3,D.sh2,D.scal,List.all_map,List.all_eq_true]at h⊢
  exact fun x hx=>h1 x (h x hx)
 |_=>first|exact h|cases h
def XQ (P:Program) (T:Tab) (f:FuncId) (ds:List D) (os:List (Nat×Ob)) (K:D→Prop):Prop:=
 match look T os 0 f ds with
 |some (p,r,_)=>p∧r.scx=true∧K r
 |none=>QCall P f ds os K
theorem TabOk.q {P:Program} {T:Tab} (hT:TabOk P T) {f:FuncId} {ds:List D} {os:List (Nat×Ob)} {K:D→Prop} (h:XQ P T f ds os K):QCall P f ds os K:=by
 unfold XQ at h
 split at h
 ·rename_i p r os' hl
  unfold look at hl
  split at hl
  ·rename_i sp hsp
   split at hl
   ·rename_i rs hrs
    split at hl
    ·rename_i p' r' fr hs
     split at hl
     ·cases hl
      obtain⟨⟨hp,_,_,hne⟩,h4,_⟩:=h
      have hf:=hT f sp rs _ _ _ hsp hs hp
      cases fr with
      |nil=>exact absurd rfl hne
      |cons x l=>
       have h3:=hf.1
       have h4':(r'.sh3 0).scal=true:=D.scx_scal h4
       rw [sh3_scal h4']at h3
       cases h3
     cases hl
     have hf:=hT f sp rs _ _ _ hsp hs h.1
     cases fr with
     |nil=>exact⟨rs,r',hf,h.2.1,pures2_pur hrs,h.2.2⟩
     |cons x l=>
      have h3:=hf.1
      have h4:(r'.sh3 0).scal=true:=D.scx_scal h.2.1
      rw [sh3_scal h4]at h3
      cases h3
    ·cases hl
   ·cases hl
  ·cases hl
 ·exact h
def aopQ (P:Program) (T:Tab) (o:Oper) (s:St) (K:St→Prop):Prop:=
 match o.op with
 | .call c=>match c.callee with
  | .value f=>match s.ev f with
   | .fn (.func gf) fi ca=>XQ P T gf (fi++c.args.toList.map s.ev++ca) s.os fun v=>K (s.put o.dst v)
   |_=>False
  |_=>quietOp o.op=true∧aop P T o s K
 | .slice t x lo hi mx=>okP (sliceD P t (s.ev x) (lo.map s.ev) (hi.map s.ev) (mx.map s.ev)) o.dst s K
 | .binOp op t x y _=>okU (nilq P op t (s.ev x) (s.ev y)) o.dst s K (okP (binD P op t (s.ev x) (s.ev y)) o.dst s K)
 |_=>quietOp o.op=true∧aop P T o s K
def aopsQ (P:Program) (T:Tab) (all:Array Oper):List Oper→St→(St→Prop)→Prop
 |[],s,K=>K s
 |o::rest,s,K=>match o.guard with
  |none=>aopQ P T o s fun s'=>aopsQ P T all rest s' K
  |some (j,w)=>grd (gtmp all j) (s.gd (gtmp all j)) w (fun s=>aopQ P T o s fun s'=>aopsQ P T all rest s' K) (fun s=>aopsQ P T all rest (s.put o.dst .skip) K) s
section
variable {δ:List Deferred} {P:Program} {T:Tab} {g g':G} {s s':St} {a:Act} {w w':World} {n N:Nat}
theorem Ext.trans {w1 w2 w3:World} (h:Ext w1 w2) (h':Ext w2 w3):Ext w1 w3:=⟨Nat.le_trans h.1 h'.1,fun b hb=>(h'.2.1 b (Nat.lt_of_lt_of_le hb h.1)).trans (h.2.1 b hb),h.2.2.trans h'.2.2⟩
def QVal (P:Program) (o:Oper) (a:Act) (w:World) (v:Value):Prop:=∀w',Ext w w'→o.quietAt P a (Ext w) w' v
theorem QVal.of {o:Oper} {v:Value} (h:∀w',Ext w w'→(execOp a.eval o).run P w'= .ok (.value v) w'):QVal P o a w v:=fun w' hw'=>by
 unfold Oper.quietAt
 rw [h w' hw']
 exact⟨rfl,rfl⟩
theorem aop_quiet (T:Tab) (o:Oper) (hq:quietOp o.op=true) {K:St→Prop} (h:aop P T o s K) (hr:Rel δ g s a w):
 ∃v d,QVal P o a w v∧VRel g w v d∧K (s.put o.dst d):=by
 unfold aop at h
 split at h
 ·rename_i x ho
  exact⟨_,_, .of fun w' _=>by unfold execOp;simp only [ho];rfl,hr.ev x,h⟩
 ·rename_i x ho
  exact⟨_,_, .of fun w' _=>by unfold execOp;simp only [ho];rfl,hr.ev x,h⟩
 ·rename_i c x y ho
  unfold pk at h
  split at h
  ·rename_i b hb
   have hc:=hr.ev c
   rw [hb]at hc
   have hc':=hc.bool_inv
   cases b with
   |true=>exact⟨_,_, .of fun w' _=>by unfold execOp;simp [ho,hc',asBool],hr.ev x,h.1 rfl⟩
   |false=>exact⟨_,_, .of fun w' _=>by unfold execOp;simp [ho,hc',asBool],hr.ev y,h.2 rfl⟩
  ·cases h
 ·rename_i t ho;rw [ho]at hq;cases hq
 ·rename_i t x ho;rw [ho]at hq;cases hq
 ·rename_i t ps ho
  unfold okD at h
  split at h
  ·rename_i d hb
   obtain⟨h1,h2⟩:=parts_rel hr ps
   obtain⟨r,h3,h4⟩:=build_sound h1 h2 hb (ps.map fun(i,x)=>(i,a.eval x)) rfl
   exact⟨r,d, .of fun w' hw'=>by unfold execOp;simp [ho,h3 w' hw'],h4,h⟩
  ·cases h
 ·rename_i t k ps ho;rw [ho]at hq;cases hq
 ·rename_i t x ho
  unfold okD at h
  split at h
  ·rename_i d hl
   obtain⟨r,h1,h2⟩:=hr.load (hr.ev x) hl
   exact⟨r,d, .of fun w' hw'=>by unfold execOp;simp [ho,h1 w' hw'],h2,h⟩
  ·cases h
 ·rename_i t p x ho;rw [ho]at hq;cases hq
 ·rename_i x ho
  unfold nchk at h
  have hx:=hr.ev x
  generalize hxv:a.eval x=xv at hx
  split at h
  ·rename_i id off he
   rw [he]at hx
   have hx':=hx
   cases hx' with
   |ref b _ _ hb=>exact⟨_,_, .of fun w' _=>by unfold execOp;simp [ho,hxv],hx,h⟩
  ·rename_i id m sz i off he
   rw [he]at hx
   have hx':=hx
   cases hx' with
   |eref=>exact⟨_,_, .of fun w' _=>by unfold execOp;simp [ho,hxv],hx,h⟩
  ·rename_i cs he
   rw [he]at hx
   have hx':=hx
   cases hx' with
   |rp=>exact⟨_,_, .of fun w' _=>by unfold execOp;simp [ho,hxv],hx,h⟩
  ·rename_i f fi ca he
   rw [he]at hx
   have hx':=hx
   cases hx' with
   |fn=>exact⟨_,_, .of fun w' _=>by unfold execOp;simp [ho,hxv],hx,h⟩
  ·cases h
 ·rename_i ho;rw [ho]at hq;cases hq
 ·rename_i op t x ho
  unfold okD at h
  split at h
  ·rename_i d hb
   obtain⟨r,h1,h2⟩:=un_sound (P:=P) op (hr.ev x) hb
   exact⟨r,d, .of fun w' hw'=>by unfold execOp;simp [ho,h1 w' hw'],h2,h⟩
  ·cases h
 ·rename_i t u x ho
  unfold okD at h
  split at h
  ·rename_i d hb
   obtain⟨r,h1,h2⟩:=conv_sound (P:=P) t u (hr.ev x) hb
   exact⟨r,d, .of fun w' hw'=>by unfold execOp;simp [ho,h1 w' hw'],h2,h⟩
  ·cases h
 ·rename_i f fi ca ho
  obtain⟨h1,h2⟩:=map_rel hr fi
  obtain⟨h3,h4⟩:=map_rel hr ca
  exact⟨.func f (fi.map a.eval) (ca.map a.eval),_, .of fun w' hw'=>by unfold execOp;simp [ho,Instr.makeFunc], .fn f _ _ _ _ h1 h3 h2 h4,h⟩
 ·rename_i t l c ho;rw [ho]at hq;cases hq
 ·rename_i t x lo hi mx ho;rw [ho]at hq;cases hq
 ·rename_i t x f ho
  unfold okD at h
  split at h
  ·rename_i d hb
   obtain⟨r,h1,h2⟩:=fad_sound (P:=P) (hr.ev x) hb
   exact⟨r,d, .of fun w' hw'=>by unfold execOp;simp [ho,h1 w' hw'],h2,h⟩
  ·cases h
 ·rename_i t x f ho
  unfold okD at h
  split at h
  ·rename_i d hb
   obtain⟨r,h1,h2⟩:=field_sound (P:=P) (hr.ev x) hb
   exact⟨r,d, .of fun w' hw'=>by unfold execOp;simp [ho,h1 w' hw'],h2,h⟩
  ·cases h
 ·rename_i t x i ho
  unfold okP at h
  split at h
  ·rename_i c0 d hb
   obtain⟨r,h1,h2⟩:=ia_sound (P:=P) (hr.ev x) (hr.ev i) hb h.1
   exact⟨r,d, .of fun w' hw'=>by unfold execOp;simp [ho,h1 w' hw'],h2,h.2⟩
  ·cases h
 ·rename_i t x i ho
  unfold okP at h
  split at h
  ·rename_i c0 d hb
   obtain⟨r,h1,h2⟩:=index_sound (P:=P) (hr.ev x) (hr.ev i) hb h.1
   exact⟨r,d, .of fun w' hw'=>by unfold execOp;simp [ho,h1 w' hw'],h2,h.2⟩
  ·cases h
 ·rename_i x i ho
  unfold okD at h
  split at h
  ·rename_i d hb
   obtain⟨r,h1,h2⟩:=ext_sound (P:=P) i (hr.ev x) hb
   exact⟨r,d, .of fun w' hw'=>by unfold execOp;simp [ho,h1 w' hw'],h2,h⟩
  ·cases h
 ·rename_i ho;rw [ho]at hq;simp only [quietOp,Bool.false_eq_true]at hq
 ·rename_i ho;rw [ho]at hq;simp only [quietOp,Bool.false_eq_true]at hq
 ·rename_i ho;rw [ho]at hq;simp only [quietOp,Bool.false_eq_true]at hq
 ·rename_i ho;rw [ho]at hq;simp only [quietOp,Bool.false_eq_true]at hq
 ·rename_i ho;rw [ho]at hq;simp only [quietOp,Bool.false_eq_true]at hq
 ·rename_i ho;rw [ho]at hq;simp only [quietOp,Bool.false_eq_true]at hq
 ·rename_i ho;rw [ho]at hq;simp only [quietOp,Bool.false_eq_true]at hq
 ·rename_i ho;rw [ho]at hq;simp only [quietOp,Bool.false_eq_true]at hq
 ·rename_i ho;rw [ho]at hq;simp only [quietOp,Bool.false_eq_true]at hq
 ·rename_i c ho
  split at h
  ·rename_i hc
   split at h
   ·rename_i x t hargs htys
    unfold okH at h
    obtain⟨h0,h⟩:=h
    split at h
    ·rename_i c0 d hb
     obtain⟨h1,r,h2,h3⟩:=len_sound (P:=P) t o.type h0 (hr.ev x) hb
     have e1:c.args= #[x]:=Array.toList_inj.1 (by simpa using hargs)
     have e2:c.argTypes= #[t]:=Array.toList_inj.1 (by simpa using htys)
     exact⟨r,d, .of fun w' hw'=>by unfold execOp;simp [ho,resolve,hc,e1,e2,invoke,builtin,h2 w' hw'],h3,h h1⟩
    ·cases h
   ·cases h
  ·rename_i hc
   unfold okD at h
   split at h
   ·rename_i d hb
    obtain⟨h1,h2⟩:=map_rel hr c.args
    obtain⟨r,h3,h4⟩:=min_sound (P:=P) c.argTypes o.type h1 h2 hb
    exact⟨r,d, .of fun w' hw'=>by unfold execOp;simp [ho,resolve,hc,invoke,builtin,h3 w' hw'],h4,h⟩
   ·cases h
  ·rename_i hc
   unfold okD at h
   split at h
   ·rename_i d hb
    obtain⟨h1,h2⟩:=map_rel hr c.args
    obtain⟨r,h3,h4⟩:=max_sound (P:=P) c.argTypes o.type h1 h2 hb
    exact⟨r,d, .of fun w' hw'=>by unfold execOp;simp [ho,resolve,hc,invoke,builtin,h3 w' hw'],h4,h⟩
   ·cases h
  ·rename_i hc;rw [ho]at hq;simp only [quietOp,hc]at hq;cases hq
  ·rename_i hc;rw [ho]at hq;simp only [quietOp,hc]at hq;cases hq
  ·rename_i hc;rw [ho]at hq;simp only [quietOp,hc]at hq;cases hq
  ·rename_i hc;rw [ho]at hq;simp only [quietOp,hc]at hq;cases hq
  ·rename_i f hc;rw [ho]at hq;simp only [quietOp,hc]at hq;cases hq
  ·cases h
 ·cases h
def D.val1:D→Value
 | .c (.bool b)=> .bool b
 | .c (.int k n)=> .int k n
 | .c (.str x)=> .string x
 |_=> .nilFunc
def D.val:D→Value
 | .tup l=> .tuple (l.map D.val1).toArray
 | .agg l=> .agg (l.map D.val1).toArray
 |d=>d.val1
theorem VRel.val1 {v:Value} {r:D} (hs:r.scx1=true) (h:VRel g w v r):v=r.val1:=by
 cases r<;>simp only [D.scx1,Bool.false_eq_true]at hs
 rename_i x
 cases h with
 |c _ _ h=>cases x<;>first|(simp at hs;done)|(cases h;rfl)
theorem VRel.val {v:Value} {r:D} (hs:r.scx=true) (h:VRel g w v r):v=r.val:=by
 unfold D.scx at hs
 split at hs
 ·cases h with
  |tup vs _ hl hp=>
   simp only [D.val]
   congr 1
   apply Array.ext
   ·simp [hl]
   ·intro i h1 h2
    have hd:=List.getElem?_eq_getElem (l:=_) (i:=i) (by rw [←hl];exact h1)
    have:=VRel.val1 (List.all_eq_true.1 hs _ (List.getElem_mem _)) (hp i _ _ (Array.getElem?_eq_getElem h1) hd)
    rw [this]
    simp
 ·cases h with
  |agg vs _ hl hp=>
   simp only [D.val]
   congr 1
   apply Array.ext
   ·simp [hl]
   ·intro i h1 h2
    have hd:=List.getElem?_eq_getElem (l:=_) (i:=i) (by rw [←hl];exact h1)
    have:=VRel.val1 (List.all_eq_true.1 hs _ (List.getElem_mem _)) (hp i _ _ (Array.getElem?_eq_getElem h1) hd)
    rw [this]
    simp
 ·rename_i hne hne'
  have e:r.val=r.val1:=by
   cases r<;>first|rfl|exact absurd rfl (hne _)|exact absurd rfl (hne' _)
  rw [e]
  exact VRel.val1 hs h
theorem val1_rel {r:D} (hs:r.scx1=true):VRel g w r.val1 r:=by
 cases r<;>simp only [D.scx1,Bool.false_eq_true]at hs
 rename_i x
 refine .c _ _ ?_
 cases x<;>first|(simp at hs;done)|skip
 all_goals constructor
theorem val_rel {r:D} (hs:r.scx=true):VRel g w r.val r:=by
 unfold D.scx at hs
 split at hs
 ·rename_i l
  refine .tup _ _ (by simp) fun i v d hv hd=> ?_
  simp only [List.getElem?_toArray,List.getElem?_map,hd,Option.map_some,Option.some.injEq]at hv
  subst hv
  exact val1_rel (List.all_eq_true.1 hs _ (List.mem_of_getElem? hd))
 ·rename_i l
  refine .agg _ _ (by simp) fun i v d hv hd=> ?_
  simp only [List.getElem?_toArray,List.getElem?_map,hd,Option.map_some,Option.some.injEq]at hv
  subst hv
  exact val1_rel (List.all_eq_true.1 hs _ (List.mem_of_getElem? hd))
 ·rename_i hne hne'
  have e:r.val=r.val1:=by
   cases r<;>first|rfl|exact absurd rfl (hne _)|exact absurd rfl (hne' _)
  rw [e]
  exact val1_rel hs
theorem aopQ_sound (hT:TabOk P T) (o:Oper) {K:St→Prop} (h:aopQ P T o s K) (hr:Rel δ g s a w):∃v d,QVal P o a w v∧VRel g w v d∧K (s.put o.dst d):=by
 unfold aopQ at h
 split at h
 ·rename_i c ho
  split at h
  ·rename_i f hc
   split at h
   ·rename_i gf fi ca hf
    obtain⟨rs,r,⟨⟨fn,h1,h2,h3⟩,h4⟩,h5,h6,h7⟩:=hT.q h
    have hff:=hr.ev f
    rw [hf]at hff
    generalize hfv:a.eval f=fv at hff
    cases hff with
    |fn _ fiv cav _ _ h8 h9 h10 h11=>
    obtain⟨h12,h13⟩:=map_rel hr c.args
    have hrun:=fun w'=>run_call_value (P:=P) (w:=w') hc ho hfv h1 h2 h3
    have hargs:∀(i:Nat) (v:Value) (d:D),(fiv++c.args.map a.eval++cav)[i]? =some v→(fi++c.args.toList.map s.ev++ca)[i]? =some d→VRel g w v d:=fun i v d hv hd=>by
     simp only [Array.getElem?_append]at hv
     simp only [List.getElem?_append,List.length_append]at hd
     rw [←h8,←h12]at hd
     simp only [Array.size_append]at hv
     split at hv
     ·rename_i hlt
      rw [if_pos hlt]at hd
      split at hv
      ·rename_i hlt2
       rw [if_pos hlt2]at hd
       exact h10 _ _ _ hv hd
      ·rename_i hlt2
       rw [if_neg hlt2]at hd
       exact h13 _ _ _ hv hd
     ·rename_i hlt
      rw [if_neg hlt]at hd
      exact h11 _ _ _ hv hd
    have hall:∀w',Ext w w'→Calls P gf (fiv++c.args.map a.eval++cav) w' fun e w''=>e= .returned r.val∧Ext w' w'':=by
     intro w' hw'
     obtain⟨h14,h15⟩:=hr.o.grow hw' (I:=g.I) (fun b hb=>hb) (fun b _ hb=>hb) (hr.o.cel.same fun b hb=>hw'.2.1 b (hr.o.imm b hb).1)
     obtain⟨h16,h17⟩:=args_pur h14 (.inl rfl) (I:=fun b=>g.I b∨Own (g.imm g.I) s b) (fun b hb=> .inl hb) (fun _ b hb=> .inr hb) (vs:=fiv++c.args.map a.eval++cav) (by simp only [Array.size_append,List.length_append];omega) (fun i v d hv hd=>h15.vrel hr.o (hargs i v d hv hd)) h6
     refine(h4 _ w' _ (h14.cel.keep (fun b hb=> .inl hb) (fun _ _=>rfl) fun b hb=>hb.elim (fun hb=>h14.cel b hb) (Own.cel h14)) h16 h17).mono ?_
     rintro e w'' ⟨v,I',he,hvr,hext,_⟩
     exact⟨by rw [he,hvr.val h5],hext⟩
    refine⟨r.val,r,fun w' hw'=> ?_, ?_,h7⟩
    ·unfold Oper.quietAt
     rw [hrun w']
     refine⟨rfl,(hall w' hw').mono fun e w'' ⟨h18,h19⟩=>⟨h18,hw'.trans h19⟩⟩
    ·exact val_rel h5
   ·cases h
  ·exact aop_quiet T o h.1 h.2 hr
 ·rename_i t x lo hi mx ho
  unfold okP at h
  split at h
  ·rename_i c0 d hb
   obtain⟨r,h1,h2⟩:=slice_sound (P:=P) hr t (hr.ev x) hb h.1
   exact⟨r,d, .of fun w' hw'=>by unfold execOp;simp [ho,h1 w' hw'],h2,h.2⟩
  ·cases h
 ·rename_i op t x y ty ho
  unfold okU at h
  split at h
  ·rename_i neg c0 hq
   obtain⟨b,h1,h2⟩:=nilq_sound op t (hr.ev x) (hr.ev y) hq x y
   exact⟨_,_, .of fun w' hw'=>by unfold execOp;simp only [ho];rw [Sem.run_bind,h2 w' hw'];rfl, .c _ _ (.bool _),h b h1⟩
  unfold okP at h
  split at h
  ·rename_i c0 d hb
   obtain⟨r,h1,h2⟩:=bin_sound op t (hr.ev x) (hr.ev y) hb h.1 x y
   exact⟨r,d, .of fun w' hw'=>by unfold execOp;simp only [ho];rw [Sem.run_bind,h1 w' hw'];rfl,h2,h.2⟩
  ·cases h
 ·exact aop_quiet T o h.1 h.2 hr
end
open Go
section
variable {P:Program} {T:Tab} {n N:Nat} {lv:Nat→Option (List Nat)} {all:Array Oper} {rest:List Oper} {s s':St} {K:St→Prop} {Q:Exit→St→Prop} {d:Option Nat} {ty:TypeId} {pos:String} {af:Array Edge} {gd:Option (Nat×Bool)}
@[congr] theorem awp_congr {c:Code} (h:s=s'):awp P T n N lv c Q s=awp P T n N lv c Q s':=by rw [h]
@[congr] theorem aops_congr {l:List Oper} (h:s=s'):aops P T all l s K=aops P T all l s' K:=by rw [h]
@[congr] theorem aopsQ_congr {l:List Oper} (h:s=s'):aopsQ P T all l s K=aopsQ P T all l s' K:=by rw [h]
@[congr] theorem aop_congr {o:Oper} (h:s=s'):aop P T o s K=aop P T o s' K:=by rw [h]
@[congr] theorem aopQ_congr {o:Oper} (h:s=s'):aopQ P T o s K=aopQ P T o s' K:=by rw [h]
@[congr] theorem SWp_congr {c:Code} (h:s=s'):SWp P n N c Q s=SWp P n N c Q s':=by rw [h]
@[congr] theorem ADraw_congr {i:Nat} {ops:Array Oper} (h:s=s'):ADraw P n N i ops Q s=ADraw P n N i ops Q s':=by rw [h]
@[congr] theorem ACall_congr {f:FuncId} {ds ds':List D} {os os':List (Nat×Ob)} {nx nx':Nat} {R:D→List (Nat×Ob)→Nat→Prop} (h:ds=ds') (h1:os=os') (h2:nx=nx'):ACall P f ds os nx R=ACall P f ds' os' nx' R:=by rw [h,h1,h2]
@[congr] theorem QCall_congr {f:FuncId} {ds ds':List D} {os os':List (Nat×Ob)} {R:D→Prop} (h:ds=ds') (h1:os=os'):QCall P f ds os R=QCall P f ds' os' R:=by rw [h,h1]
@[congr] theorem okD_congr {x x':Option D} (h:x=x') (h':s=s'):okD x d s K=okD x' d s' K:=by rw [h,h']
@[congr] theorem okP_congr {x x':Option (Prop×D)} (h:x=x') (h':s=s'):okP x d s K=okP x' d s' K:=by rw [h,h']
@[congr] theorem okH_congr {x x':Option (Prop×D)} (h:x=x') (h':s=s'):okH x d s K=okH x' d s' K:=by rw [h,h']
@[congr] theorem okB_congr {x x':Option D} (h:x=x') (h':s=s'):okB x d s K=okB x' d s' K:=by rw [h,h']
@[congr] theorem okV_congr {x x':Option (Nat×TypeId×List (List C))} (h:x=x') (h':s=s'):okV x d s K=okV x' d s' K:=by rw [h,h']
@[congr] theorem okU_congr {x x':Option (Bool×Prop)} {A A':Prop} (h:x=x') (h':s=s') (hA:A=A'):okU x d s K A=okU x' d s' K A':=by rw [h,h',hA]
@[congr] theorem okA_congr {x x':Option D} {A:Prop} (h:x=x'):okA x d s K A=okA x' d s K A:=by rw [h]
@[go_sem] theorem faD_int {op:BinOp} {k:IntKind} {a:Int} {y:D}:faD op (.c (.int k a)) y=none:=by cases y<;>rfl
@[go_sem] theorem faD_bool {op:BinOp} {a:Bool} {y:D}:faD op (.c (.bool a)) y=none:=by cases y<;>rfl
@[go_sem] theorem faD_str {op:BinOp} {a:ByteArray} {y:D}:faD op (.c (.str a)) y=none:=by cases y<;>rfl
@[go_sem] theorem faD_sl {op:BinOp} {a:List (List C)} {y:D}:faD op (.c (.sl a)) y=none:=by cases y<;>rfl
@[go_sem] theorem faD_agg {op:BinOp} {a:List D} {y:D}:faD op (.agg a) y=none:=by cases y<;>rfl
@[go_sem] theorem faD_add {a b:Option Nat}:faD .add (.c (.flt .f64 a)) (.c (.flt .f64 b))=some (.c (.flt .f64 (far .add a b))):=rfl
@[go_sem] theorem faD_sub {a b:Option Nat}:faD .sub (.c (.flt .f64 a)) (.c (.flt .f64 b))=some (.c (.flt .f64 (far .sub a b))):=rfl
@[go_sem] theorem faD_mul {a b:Option Nat}:faD .mul (.c (.flt .f64 a)) (.c (.flt .f64 b))=some (.c (.flt .f64 (far .mul a b))):=rfl
@[go_sem] theorem faD_quo {a b:Option Nat}:faD .quo (.c (.flt .f64 a)) (.c (.flt .f64 b))=some (.c (.flt .f64 (far .quo a b))):=rfl
@[go_sem] theorem faD_lss {a b:Option Nat}:faD .lss (.c (.flt .f64 a)) (.c (.flt .f64 b))=none:=rfl
@[go_sem] theorem faD_gtr {a b:Option Nat}:faD .gtr (.c (.flt .f64 a)) (.c (.flt .f64 b))=none:=rfl
@[go_sem] theorem faD_leq {a b:Option Nat}:faD .leq (.c (.flt .f64 a)) (.c (.flt .f64 b))=none:=rfl
@[go_sem] theorem faD_geq {a b:Option Nat}:faD .geq (.c (.flt .f64 a)) (.c (.flt .f64 b))=none:=rfl
@[go_sem] theorem faD_eql {a b:Option Nat}:faD .eql (.c (.flt .f64 a)) (.c (.flt .f64 b))=none:=rfl
@[go_sem] theorem faD_neq {a b:Option Nat}:faD .neq (.c (.flt .f64 a)) (.c (.flt .f64 b))=none:=rfl
@[congr] theorem okS_congr {x x':Option St} (h:x=x'):okS x K=okS x' K:=by rw [h]
@[congr] theorem okT_congr {x x':Option (Prop×St)} (h:x=x'):okT x K=okT x' K:=by rw [h]
@[congr] theorem pk_congr {c c' a a' b b':D} (h:c=c') (h1:a=a') (h2:b=b') (h':s=s'):pk c a b d s K=pk c' a' b' d s' K:=by rw [h,h',h1,h2]
@[congr] theorem nchk_congr {x x':D} (h:x=x') (h':s=s'):nchk x d s K=nchk x' d s' K:=by rw [h,h']
@[congr] theorem cd_congr {c c':D} {A B:St→Prop} (h:c=c') (h':s=s'):cd c A B s=cd c' A B s':=by rw [h,h']
@[congr] theorem grd_congr {t t':Option Nat} {v v':D} {w:Bool} {A B:St→Prop} (ht:t=t') (h:v=v') (h':s=s'):grd t v w A B s=grd t' v' w A B s':=by rw [h,h',ht]
@[congr] theorem rg_congr {l l':Option (List Nat)} (h:l=l') (h':s=s'):rg l Q s=rg l' Q s':=by rw [h,h']
@[congr] theorem sq_congr {A:St→Prop} {e:Exit} (h':s=s'):sq A Q e s=sq A Q e s':=by rw [h']
@[congr] theorem bl_congr {i:Nat} {e:Exit} (h':s=s'):bl i Q e s=bl i Q e s':=by rw [h']
@[congr] theorem lp_congr {ι:Type} {S:ι→St} {μ:ι→Nat} {m:Nat} {e:Exit} (h':s=s'):lp N S μ m Q e s=lp N S μ m Q e s':=by rw [h']
@[congr] theorem rto_congr {x x':Option D} {R:D→List (Nat×Ob)→Nat→Prop} (h:x=x') (h':s=s'):rto x s R=rto x' s' R:=by rw [h,h']
@[congr] theorem okE_congr {x x':Option (St×D)} {d:Option Nat} {K:St→Prop} (h:x=x'):okE x d K=okE x' d K:=by rw [h]
@[congr] theorem okL_congr {x x':Option (Option D×D)} {ok:Bool} (h:x=x') (h':s=s'):okL x ok d s K=okL x' ok d s' K:=by rw [h,h']
@[congr] theorem okN_congr {x x':Option (Nat×List (List C×List C)×List (List C×List C))} (h:x=x') (h':s=s'):okN x d s K=okN x' d s' K:=by rw [h,h']
@[congr] theorem fin_congr {rs:List ResultVar} {R:D→List (Nat×Ob)→Nat→Prop} {e:Exit} (h':s=s'):fin P rs R e s=fin P rs R e s':=by rw [h']
@[go_sem] theorem W_skip:awp P T n N lv .skip Q s=Q .normal s:=rfl
@[go_sem] theorem W_label {l:Nat}:awp P T n N lv (.label l) Q s=Q .normal s:=rfl
@[go_sem] theorem W_region {i:Nat} {ops:List Oper}:awp P T n N lv (.region i ops.toArray false) Q s=aops P T ops.toArray ops s (rg (lv i) Q):=rfl
@[go_sem] theorem W_draw {i:Nat} {ops:Array Oper}:awp P T n N lv (.region i ops true) Q s=ADraw P n N i ops (sq (rg (lv i) Q) Q) s:=rfl
@[go_sem] theorem W_seq {a b:Code}:awp P T n N lv (.seq a b) Q s=awp P T n N lv a (sq (awp P T n N lv b Q) Q) s:=rfl
@[go_sem] theorem W_cond {c:Operand} {x y:Code}:awp P T n N lv (.cond c x y) Q s=cd (s.ev c) (awp P T n N lv x Q) (awp P T n N lv y Q) s:=rfl
@[go_sem] theorem W_block {i:Nat} {c:Code}:awp P T n N lv (.block i c) Q s=awp P T n N lv c (bl i Q) s:=rfl
@[go_sem] theorem W_exit {i:Nat}:awp P T n N lv (.exit i) Q s=Q (.exit i) s:=rfl
@[go_sem] theorem W_ret:awp P T n N lv .ret Q s=Q .ret s:=rfl
@[go_sem] theorem W_loop {c:Code}:awp P T n N lv (.loop c) Q s=SWp P n N (.loop c) Q s:=rfl
@[go_sem] theorem sq_n {A:St→Prop}:sq A Q .normal s=A s:=rfl
@[go_sem] theorem sq_r {A:St→Prop}:sq A Q .ret s=Q .ret s:=rfl
@[go_sem] theorem sq_e {A:St→Prop} {i:Nat}:sq A Q (.exit i) s=Q (.exit i) s:=rfl
@[go_sem] theorem bl_n {i:Nat}:bl i Q .normal s=Q .normal s:=rfl
@[go_sem] theorem bl_r {i:Nat}:bl i Q .ret s=Q .ret s:=rfl
@[go_sem] theorem bl_eq {i:Nat}:bl i Q (.exit i) s=Q .normal s:=by simp [bl]
@[go_sem] theorem bl_e {i j:Nat}:bl i Q (.exit j) s=if j=i then Q .normal s else Q (.exit j) s:=rfl
@[go_sem] theorem lp_n {ι:Type} {S:ι→St} {μ:ι→Nat} {m:Nat}:lp N S μ m Q .normal s= ∃i,μ i<m∧Sub N s (S i):=rfl
@[go_sem] theorem lp_r {ι:Type} {S:ι→St} {μ:ι→Nat} {m:Nat}:lp N S μ m Q .ret s=Q .ret s:=rfl
@[go_sem] theorem lp_e {ι:Type} {S:ι→St} {μ:ι→Nat} {m i:Nat}:lp N S μ m Q (.exit i) s=Q (.exit i) s:=rfl
@[go_sem] theorem fin_n {rs:List ResultVar} {R:D→List (Nat×Ob)→Nat→Prop}:fin P rs R .normal s=rto (rdD P s rs) s R:=rfl
@[go_sem] theorem fin_r {rs:List ResultVar} {R:D→List (Nat×Ob)→Nat→Prop}:fin P rs R .ret s=rto (rdD P s rs) s R:=rfl
@[go_sem] theorem rto_some {x:D} {tm:List (Nat×D)} {os:List (Nat×Ob)} {nx:Nat} {R:D→List (Nat×Ob)→Nat→Prop}:rto (some x) ⟨tm,os,nx⟩ R=R x os nx:=rfl
@[go_sem] theorem rdD_1 {r:ResultVar}:rdD P s [r]=rd1 P s r:=by
 unfold rdD rds
 cases rd1 P s r<;>rfl
@[go_sem] theorem rdD_2 {r r':ResultVar}:rdD P s [r,r']=match rd1 P s r,rd1 P s r' with|some x,some y=>some (.tup [x,y])|_,_=>none:=by
 unfold rdD rds rds rds
 cases rd1 P s r<;>cases rd1 P s r'<;>rfl
@[go_sem] theorem rdD_3 {r r' r'':ResultVar}:rdD P s [r,r',r'']=match rd1 P s r,rd1 P s r',rd1 P s r'' with|some x,some y,some z=>some (.tup [x,y,z])|_,_,_=>none:=by
 unfold rdD rds rds rds rds
 cases rd1 P s r<;>cases rd1 P s r'<;>cases rd1 P s r''<;>rfl
@[go_sem] theorem rd1_t {t:Nat}:rd1 P s (.tmp t)=some (s.get t):=rfl
@[go_sem] theorem rd1_c {x:Nat} {t:TypeId}:rd1 P s (.cell x t)=ldD P s t (s.get x):=rfl
def prn (tm:List (Nat×D)):List Nat→List (Nat×D)
 |[]=>[]
 |t::l=>match lk t tm with
  |some x=>(t,x)::prn tm l
  |none=>prn tm l
def pc (t:Nat) (r:List (Nat×D)):Option D→List (Nat×D)
 |some x=>(t,x)::r
 |none=>r
theorem prn_eq (tm:List (Nat×D)):∀l:List Nat,(l.filterMap fun t=>match lk t tm with|some d=>some (t,d)|none=>none)=prn tm l
 |[]=>rfl
 |t::l=>by
  simp only [List.filterMap_cons,prn]
  cases lk t tm with
  |none=>exact prn_eq tm l
  |some x=>exact congrArg _ (prn_eq tm l)
@[go_sem] theorem rg_some {tm:List (Nat×D)} {os:List (Nat×Ob)} {nx:Nat} {l:List Nat}:rg (some l) Q ⟨tm,os,nx⟩=Q .normal ⟨prn tm l,os,nx⟩:=
 congrArg (fun z=>Q .normal ⟨z,os,nx⟩) (prn_eq tm l)
@[go_sem] theorem rg_none:rg none Q s=Q .normal s:=rfl
@[go_sem] theorem prn_nil {tm:List (Nat×D)}:prn tm []=[]:=rfl
@[go_sem] theorem prn_cons {tm:List (Nat×D)} {t:Nat} {l:List Nat}:prn tm (t::l)=pc t (prn tm l) (lk t tm):=by
 simp only [prn]
 cases lk t tm<;>rfl
@[go_sem] theorem pc_some {t:Nat} {r:List (Nat×D)} {x:D}:pc t r (some x)=(t,x)::r:=rfl
@[go_sem] theorem pc_none {t:Nat} {r:List (Nat×D)}:pc t r none=r:=rfl
def kops (P:Program) (T:Tab) (all:Array Oper) (rest:List Oper) (K:St→Prop):St→Prop:=fun s=>aops P T all rest s K
def kops' (P:Program) (T:Tab) (all:Array Oper) (o:Oper) (rest:List Oper) (K:St→Prop):St→Prop:=fun s=>aop P T o s (kops P T all rest K)
def kopsN (P:Program) (T:Tab) (all:Array Oper) (d:Option Nat) (rest:List Oper) (K:St→Prop):St→Prop:=fun s=>aops P T all rest (s.put d .skip) K
def kopsQ (P:Program) (T:Tab) (all:Array Oper) (rest:List Oper) (K:St→Prop):St→Prop:=fun s=>aopsQ P T all rest s K
def kopsQ' (P:Program) (T:Tab) (all:Array Oper) (o:Oper) (rest:List Oper) (K:St→Prop):St→Prop:=fun s=>aopQ P T o s (kopsQ P T all rest K)
def kopsQN (P:Program) (T:Tab) (all:Array Oper) (d:Option Nat) (rest:List Oper) (K:St→Prop):St→Prop:=fun s=>aopsQ P T all rest (s.put d .skip) K
def kst (d:Option Nat) (K:St→Prop):St→Prop:=fun s=>K (s.put d .skip)
def kcl (tm:List (Nat×D)) (d:Option Nat) (K:St→Prop):D→List (Nat×Ob)→Nat→Prop:=fun v os nx=>K (St.put ⟨tm,os,nx⟩ d v)
def kq (s:St) (d:Option Nat) (K:St→Prop):D→Prop:=fun v=>K (s.put d v)
@[go_sem] theorem kops_app {l:List Oper}:kops P T all l K s=aops P T all l s K:=rfl
@[go_sem] theorem kops'_app {o:Oper}:kops' P T all o rest K s=aop P T o s (kops P T all rest K):=rfl
@[go_sem] theorem kopsN_app:kopsN P T all d rest K s=aops P T all rest (s.put d .skip) K:=rfl
@[go_sem] theorem kopsQ_app {l:List Oper}:kopsQ P T all l K s=aopsQ P T all l s K:=rfl
@[go_sem] theorem kopsQ'_app {o:Oper}:kopsQ' P T all o rest K s=aopQ P T o s (kopsQ P T all rest K):=rfl
@[go_sem] theorem kopsQN_app:kopsQN P T all d rest K s=aopsQ P T all rest (s.put d .skip) K:=rfl
@[go_sem] theorem kst_app:kst d K s=K (s.put d .skip):=rfl
@[go_sem] theorem kcl_app {tm:List (Nat×D)} {v:D} {os:List (Nat×Ob)} {nx:Nat}:kcl tm d K v os nx=K (St.put ⟨tm,os,nx⟩ d v):=rfl
@[go_sem] theorem kq_app {v:D}:kq s d K v=K (s.put d v):=rfl
@[go_sem] theorem L_nil:aops P T all [] s K=K s:=rfl
@[go_sem] theorem L_none {op:Op}:aops P T all (⟨d,op,ty,pos,af,none⟩::rest) s K=aop P T ⟨d,op,ty,pos,af,none⟩ s (kops P T all rest K):=rfl
@[go_sem] theorem L_guard {op:Op} {j:Nat} {w:Bool}:aops P T all (⟨d,op,ty,pos,af,some (j,w)⟩::rest) s K=
 grd (gtmp all j) (s.gd (gtmp all j)) w (kops' P T all ⟨d,op,ty,pos,af,some (j,w)⟩ rest K) (kopsN P T all d rest K) s:=rfl
@[go_sem] theorem LQ_nil:aopsQ P T all [] s K=K s:=rfl
@[go_sem] theorem LQ_none {op:Op}:aopsQ P T all (⟨d,op,ty,pos,af,none⟩::rest) s K=aopQ P T ⟨d,op,ty,pos,af,none⟩ s (kopsQ P T all rest K):=rfl
@[go_sem] theorem LQ_guard {op:Op} {j:Nat} {w:Bool}:aopsQ P T all (⟨d,op,ty,pos,af,some (j,w)⟩::rest) s K=
 grd (gtmp all j) (s.gd (gtmp all j)) w (kopsQ' P T all ⟨d,op,ty,pos,af,some (j,w)⟩ rest K) (kopsQN P T all d rest K) s:=rfl
@[go_sem] theorem L_appc {o:Oper} {l r:List Oper}:aops P T all (List.append (o::l) r) s K=aops P T all (o::List.append l r) s K:=rfl
@[go_sem] theorem L_appn {r:List Oper}:aops P T all (List.append [] r) s K=aops P T all r s K:=rfl
@[go_sem] theorem L_appa {l r q:List Oper}:aops P T all (List.append (List.append l r) q) s K=aops P T all (List.append l (List.append r q)) s K:=by
 rw [List.append_eq,List.append_eq,List.append_eq,List.append_eq,List.append_assoc]
@[go_sem] theorem LQ_appc {o:Oper} {l r:List Oper}:aopsQ P T all (List.append (o::l) r) s K=aopsQ P T all (o::List.append l r) s K:=rfl
@[go_sem] theorem LQ_appn {r:List Oper}:aopsQ P T all (List.append [] r) s K=aopsQ P T all r s K:=rfl
@[go_sem] theorem LQ_appa {l r q:List Oper}:aopsQ P T all (List.append (List.append l r) q) s K=aopsQ P T all (List.append l (List.append r q)) s K:=by
 rw [List.append_eq,List.append_eq,List.append_eq,List.append_eq,List.append_assoc]
def gtl:List Oper→Nat→Option Nat
 |[],_=>none
 |o::_,0=>o.dst
 |_::l,j+1=>gtl l j
theorem gtl_eq:∀(l:List Oper) (j:Nat),(match l[j]? with|some o=>o.dst|none=>none)=gtl l j
 |[],j=>rfl
 |o::_,0=>rfl
 |_::l,j+1=>gtl_eq l j
@[congr] theorem gtl_congr {l:List Oper} {j j':Nat} (h:j=j'):gtl l j=gtl l j':=by rw [h]
@[congr] theorem gtmp_congr {l:Array Oper} {j j':Nat} (h:j=j'):gtmp l j=gtmp l j':=by rw [h]
@[go_sem] theorem gtmp_mk {l:List Oper} {j:Nat}:gtmp l.toArray j=gtl l j:=by
 rw [←gtl_eq]
 cases h:l[j]? <;>simp [gtmp,h]
@[go_sem] theorem gtl_0 {op:Op} {l:List Oper}:gtl (⟨d,op,ty,pos,af,gd⟩::l) 0=d:=rfl
@[go_sem] theorem gtl_s {o:Oper} {l:List Oper} {j:Nat}:gtl (o::l) (j+1)=gtl l j:=rfl
@[go_sem] theorem gtl_appc {o:Oper} {l r:List Oper} {j:Nat}:gtl (List.append (o::l) r) j=gtl (o::List.append l r) j:=rfl
@[go_sem] theorem gtl_appn {r:List Oper} {j:Nat}:gtl (List.append [] r) j=gtl r j:=rfl
@[go_sem] theorem gtl_appa {l r q:List Oper} {j:Nat}:gtl (List.append (List.append l r) q) j=gtl (List.append l (List.append r q)) j:=by
 rw [List.append_eq,List.append_eq,List.append_eq,List.append_eq,List.append_assoc]
@[go_sem] theorem A_move {x:Operand}:aop P T ⟨d, .move x,ty,pos,af,gd⟩ s K=K (s.put d (s.ev x)):=rfl
@[go_sem] theorem A_assign {x:Operand}:aop P T ⟨d, .assign x,ty,pos,af,gd⟩ s K=K (s.put d (s.ev x)):=rfl
@[go_sem] theorem A_pick {c x y:Operand}:aop P T ⟨d, .pick c x y,ty,pos,af,gd⟩ s K=pk (s.ev c) (s.ev x) (s.ev y) d s K:=rfl
@[go_sem] theorem A_alloc {t:TypeId}:aop P T ⟨d, .alloc t,ty,pos,af,gd⟩ s K=okB (zOf P t) d s K:=rfl
@[go_sem] theorem A_box {t:TypeId} {x:Operand}:aop P T ⟨d, .box t x,ty,pos,af,gd⟩ s K=okB (some (s.ev x)) d s K:=rfl
@[go_sem] theorem A_build {t:TypeId} {ps:List (Nat×Operand)}:aop P T ⟨d, .build t ps.toArray,ty,pos,af,gd⟩ s K=okD (buildD P t (ps.map fun(i,x)=>(i,s.ev x))) d s K:=rfl
@[go_sem] theorem A_buildSlice {t:TypeId} {m:Nat} {ps:List (Nat×Operand)}:aop P T ⟨d, .buildSlice t m ps.toArray,ty,pos,af,gd⟩ s K=okV (bslD P t m (ps.map fun(i,x)=>(i,s.ev x))) d s K:=rfl
@[go_sem] theorem A_load {t:TypeId} {x:Operand}:aop P T ⟨d, .load t x,ty,pos,af,gd⟩ s K=okD (ldD P s t (s.ev x)) d s K:=rfl
@[go_sem] theorem A_store {t:TypeId} {p x:Operand}:aop P T ⟨d, .store t p x,ty,pos,af,gd⟩ s K=okS (stD P s t (s.ev p) (s.ev x)) (kst d K):=rfl
@[go_sem] theorem A_nilCheck {x:Operand}:aop P T ⟨d, .nilCheck x,ty,pos,af,gd⟩ s K=nchk (s.ev x) d s K:=rfl
@[go_sem] theorem A_binOp {op:BinOp} {t t':TypeId} {x y:Operand}:aop P T ⟨d, .binOp op t x y t',ty,pos,af,gd⟩ s K=okU (nilq P op t (s.ev x) (s.ev y)) d s K (okA (faD op (s.ev x) (s.ev y)) d s K (okP (binD P op t (s.ev x) (s.ev y)) d s K)):=rfl
@[go_sem] theorem A_unOp {op:UnOp} {t:TypeId} {x:Operand}:aop P T ⟨d, .unOp op t x,ty,pos,af,gd⟩ s K=okD (unD op (s.ev x)) d s K:=rfl
@[go_sem] theorem A_convert {t u:TypeId} {x:Operand}:aop P T ⟨d, .convert t u x,ty,pos,af,gd⟩ s K=okD (convD P t u (s.ev x)) d s K:=rfl
@[go_sem] theorem A_makeFunc {f:Fn} {fi ca:List Operand}:aop P T ⟨d, .makeFunc f fi.toArray ca.toArray,ty,pos,af,gd⟩ s K=K (s.put d (.fn f (fi.map s.ev) (ca.map s.ev))):=rfl
@[go_sem] theorem A_makeSlice {t:TypeId} {l c:Operand}:aop P T ⟨d, .makeSlice t l c,ty,pos,af,gd⟩ s K=okT (mkD P s t d (s.ev l) (s.ev c)) K:=rfl
@[congr] theorem okQ_congr {x x':Option (Prop×D×St)} {A:Prop} (h:x=x'):okQ x d K A=okQ x' d K A:=by rw [h]
@[go_sem] theorem okQ_some {p:Prop} {v:D} {A:Prop}:okQ (some (p,v,s)) d K A=(p∧K (s.put d v)):=rfl
@[go_sem] theorem okQ_none {A:Prop}:okQ none d K A=A:=rfl
def cutW (x:Option (TypeId×Nat×Nat)) (o:Option Ob) (n:Nat) (l:Int) (tm:List (Nat×D)) (os:List (Nat×Ob)) (id nx:Nat):Option (Prop×D×St):=match x,o with
 |some (_,z,_),some (.vec _ sz e els)=>if n=els.length∧sz=z then some (0≤l∧l≤els.length, .vec nx (els.drop l.toNat).length,⟨tm,(nx, .vec false sz e (els.drop l.toNat))::rmv os [id],nx+1⟩)else none
 |_,_=>none
@[go_sem] theorem cutV_vec {t:TypeId} {tm:List (Nat×D)} {os:List (Nat×Ob)} {nx id m:Nat} {k:IntKind} {l:Int}:cutV P ⟨tm,os,nx⟩ t (.vec id m) (some (.int k l)) none none=cutW (elOf P t) (lk id os) m l tm os id nx:=rfl
@[go_sem] theorem cutW_some {e0 e:TypeId} {z y sz m id nx:Nat} {b:Bool} {els:List (List C)} {l:Int} {tm:List (Nat×D)} {os:List (Nat×Ob)}:cutW (some (e0,z,y)) (some (.vec b sz e els)) m l tm os id nx=
 if m=els.length∧sz=z then some (0≤l∧l≤els.length, .vec nx (els.drop l.toNat).length,⟨tm,(nx, .vec false sz e (els.drop l.toNat))::rmv os [id],nx+1⟩)else none:=rfl
@[go_sem] theorem cutW_none {x:Option (TypeId×Nat×Nat)} {m id nx:Nat} {l:Int} {tm:List (Nat×D)} {os:List (Nat×Ob)}:cutW x none m l tm os id nx=none:=by cases x<;>rfl
@[go_sem] theorem cutV_lo {t:TypeId} {i m:Nat} {hi mx:Option D}:cutV P s t (.vec i m) none hi mx=none:=by unfold cutV;split<;>simp_all
@[go_sem] theorem cutV_hi {t:TypeId} {i m:Nat} {h:D} {lo mx:Option D}:cutV P s t (.vec i m) lo (some h) mx=none:=by
 unfold cutV
 split<;>simp_all
def cutP (x:Option (TypeId×Nat×Nat)) (o:Option Ob) (id c sz lo hi:Nat) (l h m:Option D) (s:St):Option (Prop×D×St):=match x,o with
 |some (_,z,_),some (.vec _ sz' _ els)=>match l,h,m with
  |none,none,none=>some (c=els.length∧sz=z∧sz'=z, .view id c sz lo hi,s)
  |none,some (.c (.int _ b)),none=>some (c=els.length∧sz=z∧sz'=z∧0≤b∧(lo:Int)+b≤c, .view id c sz lo (lo+b.toNat),s)
  |some (.c (.int _ a)),none,none=>some (c=els.length∧sz=z∧sz'=z∧0≤a∧(lo:Int)+a≤hi, .view id c sz (lo+a.toNat) hi,s)
  |some (.c (.int _ a)),some (.c (.int _ b)),none=>some (c=els.length∧sz=z∧sz'=z∧0≤a∧a≤b∧(lo:Int)+b≤c, .view id c sz (lo+a.toNat) (lo+b.toNat),s)
  |_,_,_=>none
 |_,_=>none
@[go_sem] theorem cutV_view {t:TypeId} {id c sz lo hi:Nat} {l h m:Option D} {tm:List (Nat×D)} {os:List (Nat×Ob)} {nx:Nat}:cutV P ⟨tm,os,nx⟩ t (.view id c sz lo hi) l h m=cutP (elOf P t) (lk id os) id c sz lo hi l h m ⟨tm,os,nx⟩:=by
 cases l<;>rfl
attribute [go_sem] cutP
@[go_sem] theorem cutV_c {t:TypeId} {x:C} {lo hi mx:Option D}:cutV P s t (.c x) lo hi mx=none:=by unfold cutV;split<;>simp_all
@[go_sem] theorem cutV_nil {t:TypeId} {lo hi mx:Option D}:cutV P s t .nil lo hi mx=none:=by unfold cutV;split<;>simp_all
@[go_sem] theorem cutV_csl {t:TypeId} {x:List (List C)} {lo hi mx:Option D}:cutV P s t (.csl x) lo hi mx=none:=by unfold cutV;split<;>simp_all
@[go_sem] theorem cutV_ref {t:TypeId} {i o:Nat} {lo hi mx:Option D}:cutV P s t (.ref i o) lo hi mx=none:=by unfold cutV;split<;>simp_all
@[go_sem] theorem cutV_rp {t:TypeId} {x:List C} {lo hi mx:Option D}:cutV P s t (.rp x) lo hi mx=none:=by unfold cutV;split<;>simp_all
@[congr] theorem okF_congr {b b':Bool} {p:Option Prop} {A:Prop} (h:b=b'):okF b p d s K A=okF b' p d s K A:=by rw [h]
@[go_sem] theorem okF_f {p:Option Prop} {A:Prop}:okF false p d s K A=A:=rfl
def okG (p:Option Prop) (d:Option Nat) (s:St) (K:St→Prop):Prop:=match p with
 |some p=>p∧K (s.put d .undef)
 |none=>False
@[go_sem] theorem okF_t {p:Option Prop} {A:Prop}:okF true p d s K A=okG p d s K:=rfl
@[congr] theorem okG_congr {p p':Option Prop} (h:p=p') (h':s=s'):okG p d s K=okG p' d s' K:=by rw [h,h']
@[go_sem] theorem okG_some {p:Prop}:okG (some p) d s K=(p∧K (s.put d .undef)):=rfl
attribute [go_sem] fgt bndV Option.isSome_some Option.isSome_none
@[go_sem] theorem A_slice {t:TypeId} {x:Operand} {lo hi mx:Option Operand}:aop P T ⟨d, .slice t x lo hi mx,ty,pos,af,gd⟩ s K=okF (fgt T d) (bndV P s t (s.ev x) (lo.map s.ev) (hi.map s.ev) (mx.map s.ev)) d s K (okQ (cutV P s t (s.ev x) (lo.map s.ev) (hi.map s.ev) (mx.map s.ev)) d K (okP (sliceD P t (frz s (s.ev x)).1 (lo.map s.ev) (hi.map s.ev) (mx.map s.ev)) d (frz s (s.ev x)).2 K)):=rfl
@[go_sem] theorem A_fieldAddr {t:TypeId} {x:Operand} {f:Nat}:aop P T ⟨d, .fieldAddr t x f,ty,pos,af,gd⟩ s K=okD (fadD P t f (s.ev x)) d s K:=rfl
@[go_sem] theorem A_field {t:TypeId} {x:Operand} {f:Nat}:aop P T ⟨d, .field t x f,ty,pos,af,gd⟩ s K=okD (fieldD P t f (s.ev x)) d s K:=rfl
@[go_sem] theorem A_indexAddr {t:TypeId} {x i:Operand}:aop P T ⟨d, .indexAddr t x i,ty,pos,af,gd⟩ s K=okP (iaD P t (s.ev x) (s.ev i)) d s K:=rfl
@[go_sem] theorem A_index {t:TypeId} {x i:Operand}:aop P T ⟨d, .index t x i,ty,pos,af,gd⟩ s K=okP (indexD P t (s.ev x) (s.ev i)) d s K:=rfl
@[go_sem] theorem A_makeMap {t:TypeId} {r:Option Operand}:aop P T ⟨d, .makeMap t r,ty,pos,af,gd⟩ s K=okS (mkM P s t d (r.map s.ev)) K:=rfl
@[go_sem] theorem A_lookup {t:TypeId} {x i:Operand} {ok:Bool}:aop P T ⟨d, .lookup t x i ok,ty,pos,af,gd⟩ s K=okL (lkD P s t (s.ev x) (s.ev i)) ok d s K:=rfl
@[go_sem] theorem A_mapUpdate {t:TypeId} {m k x:Operand}:aop P T ⟨d, .mapUpdate t m k x,ty,pos,af,gd⟩ s K=okS (mpU P s t (s.ev m) (s.ev k) (s.ev x)) (kst d K):=rfl
@[go_sem] theorem A_insert {t:TypeId} {m k x:Operand}:aop P T ⟨d, .insert t m k x,ty,pos,af,gd⟩ s K=okS (mpU P s t (s.ev m) (s.ev k) (s.ev x)) (kst d K):=rfl
@[go_sem] theorem A_mapEntry {t:TypeId} {m k:Operand}:aop P T ⟨d, .mapEntry t m k,ty,pos,af,gd⟩ s K=okE (mpE P s t (s.ev m) (s.ev k)) d K:=rfl
@[go_sem] theorem A_entryStore {t:TypeId} {m i x:Operand}:aop P T ⟨d, .entryStore t m i x,ty,pos,af,gd⟩ s K=okS (esU s (s.ev m) (s.ev i) (s.ev x)) (kst d K):=rfl
@[go_sem] theorem A_range {t:TypeId} {x:Operand}:aop P T ⟨d, .range t x,ty,pos,af,gd⟩ s K=okS (rngM P s t d (s.ev x)) K:=rfl
@[go_sem] theorem A_next {x:Operand}:aop P T ⟨d, .next x false,ty,pos,af,gd⟩ s K=okN (itM s (s.ev x)) d s K:=by
 show(false=false∧okN (itM s (s.ev x)) d s K)=_
 simp
@[go_sem] theorem A_entry {x:Operand}:aop P T ⟨d, .entry x,ty,pos,af,gd⟩ s K=okD (enM s (s.ev x)) d s K:=rfl
@[go_sem] theorem A_extract {x:Operand} {i:Nat}:aop P T ⟨d, .extract x i,ty,pos,af,gd⟩ s K=okD (extD (s.ev x) i) d s K:=rfl
@[go_sem] theorem A_len {x:Operand} {t:TypeId}:aop P T ⟨d, .call ⟨.builtin .len, #[x], #[t]⟩,ty,pos,af,gd⟩ s K=((elOf P t).isSome=true∧okH (lenD (s.ev x)) d s K):=rfl
@[go_sem] theorem A_min {xs:List Operand} {ts:Array TypeId}:aop P T ⟨d, .call ⟨.builtin .min,xs.toArray,ts⟩,ty,pos,af,gd⟩ s K=okD (minD (xs.map s.ev)) d s K:=rfl
@[go_sem] theorem A_max {xs:List Operand} {ts:Array TypeId}:aop P T ⟨d, .call ⟨.builtin .max,xs.toArray,ts⟩,ty,pos,af,gd⟩ s K=okD (maxD (xs.map s.ev)) d s K:=rfl
@[go_sem] theorem A_append {x y:Operand} {t u:TypeId}:aop P T ⟨d, .call ⟨.builtin .append, #[x,y], #[t,u]⟩,ty,pos,af,gd⟩ s K=okM (appM P s t u (s.ev x) (s.ev y)) d s K (t=u∧okT (appD P s t d (s.ev x) (s.ev y)) fun s'=>K (app8 P t (s.ev x) d s')):=rfl
@[congr] theorem okM_congr {x x':Option (Prop×Nat×Nat×TypeId×List (List C))} {A:Prop} (h:x=x'):okM x d s K A=okM x' d s K A:=by rw [h]
@[go_sem] theorem okM_none {A:Prop}:okM none d s K A=A:=rfl
@[go_sem] theorem okM_some {p A:Prop} {m z:Nat} {e:TypeId} {els:List (List C)} {tm:List (Nat×D)} {os:List (Nat×Ob)} {nx t:Nat}:okM (some (p,m,z,e,els)) (some t) ⟨tm,os,nx⟩ K A=(p∧∀c:Nat,m≤c→c≤9223372036854775807→K ⟨(t, .view nx c z 0 m)::tm,(nx, .vec true z e (fit c z els))::os,nx+1⟩):=rfl
@[go_sem] theorem app8_c {t:TypeId} {x:C} {d:Option Nat} {s':St}:app8 P t (.c x) d s'=s':=rfl
@[go_sem] theorem app8_csl {t:TypeId} {x:List (List C)} {d:Option Nat} {s':St}:app8 P t (.csl x) d s'=s':=rfl
@[go_sem] theorem app8_vec {t:TypeId} {i m:Nat} {d:Option Nat} {s':St}:app8 P t (.vec i m) d s'=s':=rfl
@[go_sem] theorem app8_view {t:TypeId} {i a b c e:Nat} {d:Option Nat} {s':St}:app8 P t (.view i a b c e) d s'=s':=rfl
@[go_sem] theorem app8_nil {t:TypeId} {u:Nat} {s':St}:app8 P t .nil (some u) s'=match elOf P t with
 |some (_,_,b)=>if b=1 then frzS u s' else s'
 |none=>s':=rfl
@[go_sem] theorem frzS_up {u:Nat} {tm:List (Nat×D)} {os:List (Nat×Ob)} {nx:Nat}:frzS u ⟨tm,os,nx⟩=match lk u tm with
 |some (.vec id n)=>match lk id os with
  |some (.vec _ _ _ els)=>if n=els.length then⟨upd u (.c (.sl els)) tm,rmv os [id],nx⟩else⟨tm,os,nx⟩
  |_=>⟨tm,os,nx⟩
 |_=>⟨tm,os,nx⟩:=rfl
@[go_sem] theorem appM_c {t u:TypeId} {x:C} {y:D}:appM P s t u (.c x) y=none:=rfl
@[go_sem] theorem appM_nil {t u:TypeId} {y:D}:appM P s t u .nil y=none:=rfl
@[go_sem] theorem appM_csl {t u:TypeId} {x:List (List C)} {y:D}:appM P s t u (.csl x) y=none:=rfl
@[go_sem] theorem appM_vec {t u:TypeId} {i m:Nat} {y:D}:appM P s t u (.vec i m) y=none:=rfl
def appN (P:Program) (x:Option (TypeId×Nat×Nat)) (ik:Option IntKind) (o:Option Ob) (k:Int) (c sz lo hi:Nat):Option (Prop×Nat×Nat×TypeId×List (List C)):=match x,ik,o with
 |some (e,z,bytes),some _,some (.vec _ sz' _ els)=>match zcOf P e with
  |some zc=>some (c=els.length∧sz=z∧sz'=z∧zc.length=z∧z≠0∧bytes≠0∧(0≤k∧(c:Int)<hi+k∧((hi - lo:Nat)+k)*(bytes:Int)≤140737488355328),hi - lo+k.toNat,z,e,(els.take hi).drop lo++List.replicate k.toNat zc)
  |none=>none
 |_,_,_=>none
@[go_sem] theorem appM_view {t u:TypeId} {id c sz lo hi:Nat} {k:IntKind} {n:Int} {tm:List (Nat×D)} {os:List (Nat×Ob)} {nx:Nat}:appM P ⟨tm,os,nx⟩ t u (.view id c sz lo hi) (.c (.int k n))=appN P (elOf P t) (inOf P u) (lk id os) n c sz lo hi:=by
 simp only [appM,appN]
 cases elOf P t with
 |none=>rfl
 |some x=>cases inOf P u with
  |none=>rfl
  |some k=>cases lk id os with
   |none=>rfl
   |some o=>cases o<;>rfl
attribute [go_sem] appN
@[go_sem] theorem A_cap {x:Operand} {t:TypeId}:aop P T ⟨d, .call ⟨.builtin .cap, #[x], #[t]⟩,ty,pos,af,gd⟩ s K=((elOf P t).isSome=true∧okP (capD s (s.ev x)) d s K):=rfl
@[go_sem] theorem A_clear {x:Operand} {t:TypeId}:aop P T ⟨d, .call ⟨.builtin .clear, #[x], #[t]⟩,ty,pos,af,gd⟩ s K=okQ (clrD P s t (s.ev x)) d K False:=rfl
@[go_sem] theorem appM_vv {t u:TypeId} {i c z lo hi i' c' z' lo' hi':Nat}:appM P s t u (.view i c z lo hi) (.view i' c' z' lo' hi')=none:=rfl
attribute [go_sem] clrD
@[go_sem] theorem A_copy {x y:Operand} {t u:TypeId}:aop P T ⟨d, .call ⟨.builtin .copy, #[x,y], #[t,u]⟩,ty,pos,af,gd⟩ s K=okQ (cpyD P s t (s.ev x) (s.ev y)) d K False:=rfl
attribute [go_sem] capD cpyD fit_length
@[go_sem] theorem wide_fit {c sz:Nat} {els:List (List C)} (h:Wide sz els):Wide sz (fit c sz els)=True:=eq_true (fit_wide h)
@[go_sem] theorem wide_take {m sz:Nat} {els:List (List C)} (h:Wide sz els):Wide sz (els.take m)=True:=eq_true fun x hx=>h x (List.mem_of_mem_take hx)
@[go_sem] theorem wide_drop {m sz:Nat} {els:List (List C)} (h:Wide sz els):Wide sz (els.drop m)=True:=eq_true fun x hx=>h x (List.mem_of_mem_drop hx)
@[go_sem] theorem wide_lay {sz lo:Nat} {els els':List (List C)} (h:Wide sz els) (h':Wide sz els'):Wide sz (lay els lo els')=True:=eq_true fun x hx=>by
 rw [lay,setAt,List.mem_append,List.mem_append]at hx
 rcases hx with(hx|hx)|hx
 ·exact h x (List.mem_of_mem_take hx)
 ·exact h' x hx
 ·exact h x (List.mem_of_mem_drop hx)
@[go_sem] theorem wide_app {sz:Nat} {els els':List (List C)} (h:Wide sz els) (h':Wide sz els'):Wide sz (els++els')=True:=eq_true fun x hx=>(List.mem_append.1 hx).elim (h x) (h' x)
def acl (P:Program) (T:Tab) (f:D) (args:List D) (d:Option Nat) (s:St) (K:St→Prop):Prop:=match f with
 | .fn (.func g) fi ca=>match ovm T g with
  |true=>xtK P g (fi++args++ca) d s K
  |false=>XCall P T g (fi++args++ca) s.os s.nx fun v os nx=>K (St.put ⟨s.tm,os,nx⟩ d v)
 |_=>False
def ocl (b:Bool) (P:Program) (T:Tab) (f:FuncId) (ds:List D) (tm:List (Nat×D)) (os:List (Nat×Ob)) (nx:Nat) (d:Option Nat) (K:St→Prop):Prop:=match b with
 |true=>xtK P f ds d ⟨tm,os,nx⟩ K
 |false=>XCall P T f ds os nx (kcl tm d K)
@[congr] theorem ocl_congr {b b':Bool} {f:FuncId} {ds ds':List D} {tm:List (Nat×D)} {os:List (Nat×Ob)} {nx:Nat} (h:b=b') (h1:ds=ds'):ocl b P T f ds tm os nx d K=ocl b' P T f ds' tm os nx d K:=by rw [h,h1]
@[go_sem] theorem ocl_f {f:FuncId} {ds:List D} {tm:List (Nat×D)} {os:List (Nat×Ob)} {nx:Nat}:ocl false P T f ds tm os nx d K=XCall P T f ds os nx (kcl tm d K):=rfl
@[go_sem] theorem ocl_t {f:FuncId} {ds:List D} {tm:List (Nat×D)} {os:List (Nat×Ob)} {nx:Nat}:ocl true P T f ds tm os nx d K=xtK P f ds d ⟨tm,os,nx⟩ K:=rfl
@[congr] theorem xtK_congr {f:FuncId} {ds ds':List D} (h:ds=ds'):xtK P f ds d s K=xtK P f ds' d s K:=by rw [h]
@[go_sem] theorem xtK_2 {f:FuncId} {x y:D}:xtK P f [x,y] d s K=(ovC P f s.os [x,y]∧K (s.put d (.c (.bool false)))):=by
 unfold xtK
 split
 ·rename_i h;simp at h
 ·rename_i h;simp at h
 ·rfl
@[go_sem] theorem xtK_3 {f:FuncId} {x y b:Int}:xtK P f [.c (.int .u64 x), .c (.int .u64 y), .c (.int .u64 b)] d s K=(sb64 P f∧b=0∧K (s.put d (.tup [.c (.int .u64 (((x.toNat+18446744073709551616 - y.toNat - b.toNat) % 18446744073709551616:Nat):Int)), .c (.int .u64 (if x.toNat<y.toNat+b.toNat then 1 else 0))]))):=rfl
@[go_sem] theorem xtK_1 {f:FuncId} {n:Int}:xtK P f [.c (.int .u64 n)] d s K=(frb P f∧K (s.put d (.c (.flt .f64 (flo .f64 n.toNat))))):=rfl
attribute [go_sem] ovm ovC ovO
@[congr] theorem acl_congr {f f':D} {args args':List D} (h:f=f') (h1:args=args') (h':s=s'):acl P T f args d s K=acl P T f' args' d s' K:=by rw [h,h1,h']
@[go_sem] theorem A_call {f:Operand} {xs:List Operand} {ts:Array TypeId}:aop P T ⟨d, .call ⟨.value f,xs.toArray,ts⟩,ty,pos,af,gd⟩ s K=acl P T (s.ev f) (xs.map s.ev) d s K:=rfl
@[go_sem] theorem acl_fn {f:FuncId} {fi ca args:List D} {tm:List (Nat×D)} {os:List (Nat×Ob)} {nx:Nat}:
 acl P T (.fn (.func f) fi ca) args d ⟨tm,os,nx⟩ K=ocl (ovm T f) P T f (fi++args++ca) tm os nx d K:=rfl
@[go_sem] theorem PR_app {r v:D} {os:List (Nat×Ob)} {nx:Nat}:PR r v os nx=pur3 os v r:=rfl
@[go_sem] theorem FR_app {r v:D} {fr:Fr} {os:List (Nat×Ob)} {nx:Nat}:FR r fr v os nx= ∃ids,freO os ids fr∧fre3 ids os v r:=rfl
def xc (P:Program) (x:Option (Prop×D×List (Nat×Ob)×Nat)) (f:FuncId) (ds:List D) (os:List (Nat×Ob)) (nx:Nat) (Q:D→List (Nat×Ob)→Nat→Prop):Prop:=match x with
 |some (p,r,os',nx')=>p∧Q r os' nx'
 |none=>ACall P f ds os nx Q
@[congr] theorem xc_congr {x x':Option (Prop×D×List (Nat×Ob)×Nat)} {f:FuncId} {ds ds':List D} {os os':List (Nat×Ob)} {nx nx':Nat} {R:D→List (Nat×Ob)→Nat→Prop} (h0:x=x') (h:ds=ds') (h1:os=os') (h2:nx=nx'):xc P x f ds os nx R=xc P x' f ds' os' nx' R:=by rw [h,h0,h1,h2]
@[go_sem] theorem XCall_eq {f:FuncId} {ds:List D} {os:List (Nat×Ob)} {nx:Nat} {R:D→List (Nat×Ob)→Nat→Prop}:XCall P T f ds os nx R=xc P (look T os nx f ds) f ds os nx R:=rfl
@[go_sem] theorem xc_some {p:Prop} {r:D} {f:FuncId} {ds:List D} {os os':List (Nat×Ob)} {nx nx':Nat} {R:D→List (Nat×Ob)→Nat→Prop}:xc P (some (p,r,os',nx')) f ds os nx R=(p∧R r os' nx'):=rfl
@[go_sem] theorem xc_none {f:FuncId} {ds:List D} {os:List (Nat×Ob)} {nx:Nat} {R:D→List (Nat×Ob)→Nat→Prop}:xc P none f ds os nx R=ACall P f ds os nx R:=rfl
def xq (P:Program) (x:Option (Prop×D×List (Nat×Ob)×Nat)) (f:FuncId) (ds:List D) (os:List (Nat×Ob)) (Q:D→Prop):Prop:=match x with
 |some (p,r,_)=>p∧r.scx=true∧Q r
 |none=>QCall P f ds os Q
@[congr] theorem xq_congr {x x':Option (Prop×D×List (Nat×Ob)×Nat)} {f:FuncId} {ds ds':List D} {os os':List (Nat×Ob)} {R:D→Prop} (h0:x=x') (h:ds=ds') (h1:os=os'):xq P x f ds os R=xq P x' f ds' os' R:=by rw [h,h0,h1]
@[go_sem] theorem XQ_eq {f:FuncId} {ds:List D} {os:List (Nat×Ob)} {R:D→Prop}:XQ P T f ds os R=xq P (look T os 0 f ds) f ds os R:=rfl
@[go_sem] theorem xq_some {p:Prop} {r:D} {f:FuncId} {ds:List D} {os os':List (Nat×Ob)} {nx':Nat} {R:D→Prop}:xq P (some (p,r,os',nx')) f ds os R=(p∧r.scx=true∧R r):=rfl
@[go_sem] theorem xq_none {f:FuncId} {ds:List D} {os:List (Nat×Ob)} {R:D→Prop}:xq P none f ds os R=QCall P f ds os R:=rfl
def qcl (P:Program) (T:Tab) (f:D) (args:List D) (d:Option Nat) (s:St) (K:St→Prop):Prop:=match f with
 | .fn (.func g) fi ca=>XQ P T g (fi++args++ca) s.os fun v=>K (s.put d v)
 |_=>False
@[congr] theorem qcl_congr {f f':D} {args args':List D} (h:f=f') (h1:args=args') (h':s=s'):qcl P T f args d s K=qcl P T f' args' d s' K:=by rw [h,h1,h']
@[go_sem] theorem AQ_call {f:Operand} {xs:List Operand} {ts:Array TypeId}:aopQ P T ⟨d, .call ⟨.value f,xs.toArray,ts⟩,ty,pos,af,gd⟩ s K=qcl P T (s.ev f) (xs.map s.ev) d s K:=rfl
@[go_sem] theorem qcl_fn {f:FuncId} {fi ca args:List D} {tm:List (Nat×D)} {os:List (Nat×Ob)} {nx:Nat}:
 qcl P T (.fn (.func f) fi ca) args d ⟨tm,os,nx⟩ K=XQ P T f (fi++args++ca) os (kq ⟨tm,os,nx⟩ d K):=rfl
theorem AQ_of {op:Op} (hb:∀o t x y u,op≠ .binOp o t x y u:=by simp) (hc:∀c,op≠ .call c) (hs:∀t x lo hi mx,op≠ .slice t x lo hi mx) (hq:quietOp op=true):aopQ P T ⟨d,op,ty,pos,af,gd⟩ s K=aop P T ⟨d,op,ty,pos,af,gd⟩ s K:=by
 unfold aopQ
 split
 ·rename_i c hcc;exact absurd hcc (hc c)
 ·rename_i t x lo hi mx hcc;exact absurd hcc (hs _ _ _ _ _)
 ·rename_i hcc;exact absurd hcc (hb _ _ _ _ _)
 ·simp [hq]
@[go_sem] theorem AQ_move {x:Operand}:aopQ P T ⟨d, .move x,ty,pos,af,gd⟩ s K=aop P T ⟨d, .move x,ty,pos,af,gd⟩ s K:=AQ_of (by simp) (by simp) (by simp) rfl
@[go_sem] theorem AQ_assign {x:Operand}:aopQ P T ⟨d, .assign x,ty,pos,af,gd⟩ s K=aop P T ⟨d, .assign x,ty,pos,af,gd⟩ s K:=AQ_of (by simp) (by simp) (by simp) rfl
@[go_sem] theorem AQ_pick {c x y:Operand}:aopQ P T ⟨d, .pick c x y,ty,pos,af,gd⟩ s K=aop P T ⟨d, .pick c x y,ty,pos,af,gd⟩ s K:=AQ_of (by simp) (by simp) (by simp) rfl
@[go_sem] theorem AQ_build {t:TypeId} {ps:Array (Nat×Operand)}:aopQ P T ⟨d, .build t ps,ty,pos,af,gd⟩ s K=aop P T ⟨d, .build t ps,ty,pos,af,gd⟩ s K:=AQ_of (by simp) (by simp) (by simp) rfl
@[go_sem] theorem AQ_load {t:TypeId} {x:Operand}:aopQ P T ⟨d, .load t x,ty,pos,af,gd⟩ s K=aop P T ⟨d, .load t x,ty,pos,af,gd⟩ s K:=AQ_of (by simp) (by simp) (by simp) rfl
@[go_sem] theorem AQ_nilCheck {x:Operand}:aopQ P T ⟨d, .nilCheck x,ty,pos,af,gd⟩ s K=aop P T ⟨d, .nilCheck x,ty,pos,af,gd⟩ s K:=AQ_of (by simp) (by simp) (by simp) rfl
@[go_sem] theorem AQ_binOp {op:BinOp} {t t':TypeId} {x y:Operand}:aopQ P T ⟨d, .binOp op t x y t',ty,pos,af,gd⟩ s K=okU (nilq P op t (s.ev x) (s.ev y)) d s K (okP (binD P op t (s.ev x) (s.ev y)) d s K):=rfl
@[go_sem] theorem AQ_unOp {op:UnOp} {t:TypeId} {x:Operand}:aopQ P T ⟨d, .unOp op t x,ty,pos,af,gd⟩ s K=aop P T ⟨d, .unOp op t x,ty,pos,af,gd⟩ s K:=AQ_of (by simp) (by simp) (by simp) rfl
@[go_sem] theorem AQ_convert {t u:TypeId} {x:Operand}:aopQ P T ⟨d, .convert t u x,ty,pos,af,gd⟩ s K=aop P T ⟨d, .convert t u x,ty,pos,af,gd⟩ s K:=AQ_of (by simp) (by simp) (by simp) rfl
@[go_sem] theorem AQ_makeFunc {f:Fn} {fi ca:Array Operand}:aopQ P T ⟨d, .makeFunc f fi ca,ty,pos,af,gd⟩ s K=aop P T ⟨d, .makeFunc f fi ca,ty,pos,af,gd⟩ s K:=AQ_of (by simp) (by simp) (by simp) rfl
@[go_sem] theorem AQ_slice {t:TypeId} {x:Operand} {lo hi mx:Option Operand}:aopQ P T ⟨d, .slice t x lo hi mx,ty,pos,af,gd⟩ s K=okP (sliceD P t (s.ev x) (lo.map s.ev) (hi.map s.ev) (mx.map s.ev)) d s K:=rfl
@[go_sem] theorem AQ_fieldAddr {t:TypeId} {x:Operand} {f:Nat}:aopQ P T ⟨d, .fieldAddr t x f,ty,pos,af,gd⟩ s K=aop P T ⟨d, .fieldAddr t x f,ty,pos,af,gd⟩ s K:=AQ_of (by simp) (by simp) (by simp) rfl
@[go_sem] theorem AQ_field {t:TypeId} {x:Operand} {f:Nat}:aopQ P T ⟨d, .field t x f,ty,pos,af,gd⟩ s K=aop P T ⟨d, .field t x f,ty,pos,af,gd⟩ s K:=AQ_of (by simp) (by simp) (by simp) rfl
@[go_sem] theorem AQ_indexAddr {t:TypeId} {x i:Operand}:aopQ P T ⟨d, .indexAddr t x i,ty,pos,af,gd⟩ s K=aop P T ⟨d, .indexAddr t x i,ty,pos,af,gd⟩ s K:=AQ_of (by simp) (by simp) (by simp) rfl
@[go_sem] theorem AQ_index {t:TypeId} {x i:Operand}:aopQ P T ⟨d, .index t x i,ty,pos,af,gd⟩ s K=aop P T ⟨d, .index t x i,ty,pos,af,gd⟩ s K:=AQ_of (by simp) (by simp) (by simp) rfl
@[go_sem] theorem AQ_extract {x:Operand} {i:Nat}:aopQ P T ⟨d, .extract x i,ty,pos,af,gd⟩ s K=aop P T ⟨d, .extract x i,ty,pos,af,gd⟩ s K:=AQ_of (by simp) (by simp) (by simp) rfl
@[go_sem] theorem AQ_len {x:Operand} {t:TypeId}:aopQ P T ⟨d, .call ⟨.builtin .len, #[x], #[t]⟩,ty,pos,af,gd⟩ s K=aop P T ⟨d, .call ⟨.builtin .len, #[x], #[t]⟩,ty,pos,af,gd⟩ s K:=by simp [aopQ,quietOp]
@[go_sem] theorem AQ_min {xs:Array Operand} {ts:Array TypeId}:aopQ P T ⟨d, .call ⟨.builtin .min,xs,ts⟩,ty,pos,af,gd⟩ s K=aop P T ⟨d, .call ⟨.builtin .min,xs,ts⟩,ty,pos,af,gd⟩ s K:=by simp [aopQ,quietOp]
@[go_sem] theorem AQ_max {xs:Array Operand} {ts:Array TypeId}:aopQ P T ⟨d, .call ⟨.builtin .max,xs,ts⟩,ty,pos,af,gd⟩ s K=aop P T ⟨d, .call ⟨.builtin .max,xs,ts⟩,ty,pos,af,gd⟩ s K:=by simp [aopQ,quietOp]
@[go_sem] theorem okD_some {v:D}:okD (some v) d s K=K (s.put d v):=rfl
@[go_sem] theorem okP_some {p:Prop} {v:D}:okP (some (p,v)) d s K=(p∧K (s.put d v)):=rfl
@[go_sem] theorem okH_some {p:Prop} {v:D}:okH (some (p,v)) d s K=(p→K (s.put d v)):=rfl
@[go_sem] theorem okU_some {neg:Bool} {p A:Prop}:okU (some (neg,p)) d s K A= ∀b:Bool,(b=true→p)→K (s.put d (.bool (b^^neg))):=rfl
@[go_sem] theorem okA_some {v:D} {A:Prop}:okA (some v) d s K A=K (s.put d v):=rfl
@[go_sem] theorem okA_none {A:Prop}:okA none d s K A=A:=rfl
@[go_sem] theorem okU_none {A:Prop}:okU none d s K A=A:=rfl
@[go_sem] theorem okS_some:okS (some s) K=K s:=rfl
@[go_sem] theorem okT_some {p:Prop}:okT (some (p,s)) K=(p∧K s):=rfl
@[go_sem] theorem okV_some {z:Nat} {e:TypeId} {els:List (List C)}:okV (some (z,e,els)) d s K=K (s.vc d z e els):=rfl
@[go_sem] theorem okE_some {s':St} {v:D} {d:Option Nat} {K:St→Prop}:okE (some (s',v)) d K=K (s'.put d v):=rfl
@[go_sem] theorem okL_st {v z:D}:okL (some (some v,z)) true d s K=K (s.put d (.tup [v, .bool true])):=rfl
@[go_sem] theorem okL_sf {v z:D}:okL (some (some v,z)) false d s K=K (s.put d v):=rfl
@[go_sem] theorem okL_nt {z:D}:okL (some (none,z)) true d s K=K (s.put d (.tup [z, .bool false])):=rfl
@[go_sem] theorem okL_nf {z:D}:okL (some (none,z)) false d s K=K (s.put d z):=rfl
@[go_sem] theorem okL_mt {α:Type} {o:Option α} {f:α→D} {z:D}:okL (some (o.map f,z)) true d s K=((∀a,o=some a→K (s.put d (.tup [f a, .bool true])))∧(o=none→K (s.put d (.tup [z, .bool false])))):=by
 cases o<;>simp [okL]
@[go_sem] theorem okL_mf {α:Type} {o:Option α} {f:α→D} {z:D}:okL (some (o.map f,z)) false d s K=((∀a,o=some a→K (s.put d (f a)))∧(o=none→K (s.put d z))):=by
 cases o<;>simp [okL]
def okC (x:Option (List D)) (d:Option Nat) (s:St) (K:St→Prop):Prop:=match x with
 |some cs=>K (s.bx d cs)
 |none=>False
@[congr] theorem okC_congr {x x':Option (List D)} (h:x=x') (h':s=s'):okC x d s K=okC x' d s' K:=by rw [h,h']
@[go_sem] theorem okB_some {v:D}:okB (some v) d s K=okC v.cells? d s K:=rfl
@[go_sem] theorem okC_some {cs:List D}:okC (some cs) d s K=K (s.bx d cs):=rfl
@[go_sem] theorem pk_t {a b:D}:pk (.bool true) a b d s K=K (s.put d a):=by simp [pk]
@[go_sem] theorem pk_f {a b:D}:pk (.bool false) a b d s K=K (s.put d b):=by simp [pk]
@[go_sem] theorem pk_or {c b:Bool}:pk (.bool c) (.bool true) (.bool b) d s K=K (s.put d (.bool (c||b))):=by cases c<;>simp [pk]
@[go_sem] theorem pk_and {c b:Bool}:pk (.bool c) (.bool b) (.bool false) d s K=K (s.put d (.bool (c&&b))):=by cases c<;>simp [pk]
@[go_sem] theorem nchk_ref {i o:Nat}:nchk (.ref i o) d s K=K (s.put d (.ref i o)):=rfl
@[go_sem] theorem nchk_eref {i m z k o:Nat}:nchk (.eref i m z k o) d s K=K (s.put d (.eref i m z k o)):=rfl
@[go_sem] theorem nchk_rp {cs:List C}:nchk (.rp cs) d s K=K (s.put d (.rp cs)):=rfl
@[go_sem] theorem nchk_fn {f:FuncId} {fi ca:List D}:nchk (.fn (.func f) fi ca) d s K=K (s.put d (.fn (.func f) fi ca)):=rfl
section
variable {A B:St→Prop} {t:Option Nat} {p:Prop} [Decidable p]
@[go_sem] theorem cd_t:cd (.bool true) A B s=A s:=by simp [cd]
@[go_sem] theorem cd_f:cd (.bool false) A B s=B s:=by simp [cd]
@[go_sem] theorem cd_dec:cd (.bool (decide p)) A B s=((p→A s)∧(¬p→B s)):=by simp [cd]
@[go_sem] theorem cd_not {b:Bool}:cd (.bool (!b)) A B s=cd (.bool b) B A s:=by cases b<;>simp [cd]
@[go_sem] theorem cd_and {b c:Bool}:cd (.bool (b&&c)) A B s=cd (.bool b) (cd (.bool c) A B) B s:=by cases b<;>simp [cd]
@[go_sem] theorem cd_or {b c:Bool}:cd (.bool (b||c)) A B s=cd (.bool b) A (cd (.bool c) A B) s:=by cases b<;>simp [cd]
@[go_sem] theorem cd_gen {b:Bool}:cd (.bool b) A B s=((b=true→A s)∧(b=false→B s)):=rfl
@[go_sem] theorem grd_gen {b w:Bool}:grd t (.bool b) w A B s=((b=w→A (s.rep t (.bool w)))∧(b= !w→B (s.rep t (.bool !w)))):=rfl
@[go_sem] theorem grd_tt:grd t (.bool true) true A B s=A (s.rep t (.bool true)):=by simp [grd]
@[go_sem] theorem grd_ff:grd t (.bool false) false A B s=A (s.rep t (.bool false)):=by simp [grd]
@[go_sem] theorem grd_tf:grd t (.bool true) false A B s=B (s.rep t (.bool true)):=by simp [grd]
@[go_sem] theorem grd_ft:grd t (.bool false) true A B s=B (s.rep t (.bool false)):=by simp [grd]
@[go_sem] theorem grd_dt:grd t (.bool (decide p)) true A B s=((p→A (s.rep t (.bool true)))∧(¬p→B (s.rep t (.bool false)))):=by simp [grd]
@[go_sem] theorem grd_df:grd t (.bool (decide p)) false A B s=((¬p→A (s.rep t (.bool false)))∧(p→B (s.rep t (.bool true)))):=by simp [grd]
@[go_sem] theorem grd_nt:grd t (.bool (!decide p)) true A B s=((¬p→A (s.rep t (.bool true)))∧(p→B (s.rep t (.bool false)))):=by simp [grd]
@[go_sem] theorem grd_nf:grd t (.bool (!decide p)) false A B s=((p→A (s.rep t (.bool false)))∧(¬p→B (s.rep t (.bool true)))):=by simp [grd]
@[go_sem] theorem grd_skip {w:Bool}:grd t .skip w A B s=B s:=rfl
end
end
section
variable {tm:List (Nat×D)} {os:List (Nat×Ob)} {nx t:Nat} {v:D}
@[go_sem] theorem ev_tmp:St.ev ⟨tm,os,nx⟩ (.tmp t)=(lk t tm).getD .undef:=rfl
@[go_sem] theorem ev_const {x:Value} {s:St}:St.ev s (.const x)=valD x:=rfl
@[go_sem] theorem ev_global {s:St} {n:Nat}:St.ev s (.global n)=match glv n with
 |some ns=> .rp (ns.map (C.int .i64))
 |none=> .undef:=rfl
@[go_sem] theorem ev_func {s:St} {f:FuncId}:St.ev s (.func f)= .fn (.func f) [] []:=rfl
@[go_sem] theorem get_mk:St.get ⟨tm,os,nx⟩ t=(lk t tm).getD .undef:=rfl
@[go_sem] theorem gd_mk:St.gd ⟨tm,os,nx⟩ (some t)=(lk t tm).getD .undef:=rfl
@[go_sem] theorem put_some:St.put ⟨tm,os,nx⟩ (some t) v=⟨(t,v)::tm,os,nx⟩:=rfl
@[go_sem] theorem put_none {s:St}:St.put s none v=s:=rfl
@[go_sem] theorem rep_some:St.rep ⟨tm,os,nx⟩ (some t) v=⟨upd t v tm,os,nx⟩:=rfl
@[go_sem] theorem bx_some {cs:List D}:St.bx ⟨tm,os,nx⟩ (some t) cs=⟨(t, .ref nx 0)::tm,(nx, .box cs)::os,nx+1⟩:=rfl
@[go_sem] theorem vc_some {z:Nat} {e:TypeId} {els:List (List C)}:St.vc ⟨tm,os,nx⟩ (some t) z e els=⟨(t, .vec nx els.length)::tm,(nx, .vec true z e els)::os,nx+1⟩:=rfl
@[go_sem] theorem nw_some {o:Ob}:St.nw ⟨tm,os,nx⟩ (some t) o v=⟨(t,v)::tm,(nx,o)::os,nx+1⟩:=rfl
@[go_sem] theorem lk_hd {α:Type} {x:α} {l:List (Nat×α)}:lk t ((t,x)::l)=some x:=by simp [lk]
attribute [go_sem] lk_cons
@[go_sem] theorem lk_nil {α:Type}:lk (α:=α) t []=none:=rfl
@[go_sem] theorem upd_nil {α:Type} {x:α}:upd t x ([]:List (Nat×α))=[]:=rfl
@[go_sem] theorem upd_cons {α:Type} {m:Nat} {x y:α} {l:List (Nat×α)}:upd t y ((m,x)::l)=if t=m then(m,y)::l else(m,x)::upd t y l:=rfl
end
attribute [go_sem] Option.getD_some Option.getD_none Option.map_some Option.map_none
attribute [go_sem] Int.toNat_natCast frz nilq
attribute [go_sem] b2sD valD valD1 D.cells? D.one D.toC D.toCs ldc ldD fadD fieldD iaD indexD ibin ishift isShift fcmp binD unD convD extD lenD minD maxD sliceD stD setAt fillD buildD fillS bslD St.els appD mkD
attribute [go_sem] List.drop_zero List.drop_succ_cons List.take_zero List.take_succ_cons List.drop_nil List.take_nil List.length_cons List.length_nil List.map_cons List.map_nil List.cons_append List.nil_append List.append_nil List.append_assoc List.getElem?_cons_zero List.getElem?_cons_succ List.getElem?_nil List.all_cons List.all_nil
attribute [go_sem] pw pur1 pur2 pur3 D.scx D.scx1 D.scal D.scal1 D.bel0 D.bel1 D.bel2 Ob.bel dle subT subO St.bel Sub
attribute [go_sem] shf news D.sh3 D.sh2 D.sh1 fre1 fre2 fre3 freO
attribute [go_sem] D.fr1 D.fr2 D.fr3 flatF lnd Option.isSome_none Option.isSome_some
attribute [go_sem] look pures2 pures1 pure2 pure1 vids2 vids1 vid2 vid1 rmv D.scal D.scal1 prm
theorem ite_max (a b:Int):(if b>a then b else a)=max a b:=by split<;>omega
theorem ite_min (a b:Int):(if b<a then b else a)=min a b:=by split<;>omega
attribute [go_sem] ite_max ite_min List.set_cons_zero List.set_cons_succ List.length_set List.length_append Int.natCast_add Int.cast_ofNat_Int
@[go_sem] theorem flt_cons {i m:Nat} {o:Ob} {l:List (Nat×Ob)}:List.filter (fun x=>x.1 != i) ((m,o)::l)=if m=i then List.filter (fun x=>x.1 != i) l else(m,o)::List.filter (fun x=>x.1 != i) l:=by
 by_cases h:m=i
 ·rw [if_pos h,List.filter_cons_of_neg (by simp [h])]
 ·rw [if_neg h,List.filter_cons_of_pos (by simp [h])]
@[go_sem] theorem ole_b {a b:List D}:ole (.box a) (.box b)=pw dle a b:=rfl
@[go_sem] theorem ole_v {hd:Bool} {z:Nat} {e:TypeId} {els:List (List C)} {o:Ob}:ole (.vec hd z e els) o=(Ob.vec hd z e els=o):=by cases o<;>rfl
@[go_sem] theorem ole_m {kt:List KK} {kv:List (List C×D)} {o:Ob}:ole (.map kt kv) o=(Ob.map kt kv=o):=by cases o<;>rfl
@[go_sem] theorem ole_i {kv sn:List (List C×List C)} {o:Ob}:ole (.it kv sn) o=(Ob.it kv sn=o):=by cases o<;>rfl
@[go_sem] theorem ex_sm {α:Type} {x:α} {p:α→Prop}:(∃d,some x=some d∧p d)=p x:=by simp
theorem ex_some {α:Type} {x y:α}:(∃d,some x=some d∧d=y)=(x=y):=by simp
attribute [go_sem] Bool.false_or Bool.or_false Bool.not_false Bool.not_true Bool.true_or Bool.xor_false Bool.xor_true Bool.not_not List.replicate_zero List.replicate_succ Nat.zero_le Nat.le_refl Nat.zero_add Nat.add_zero Nat.sub_zero
attribute [go_sem] ne_eq not_true_eq_false not_false_eq_true
attribute [go_sem] ex_some Bool.and_true Bool.true_and D.c.injEq C.int.injEq C.bool.injEq C.sl.injEq
attribute [go_sem] Option.isSome_some forall_const Option.map_none if_true if_false Bool.false_eq_true true_and and_true List.filter_nil
attribute [go_sem] mpE esU
attribute [go_sem] lkD mpU mkM rngM itM enM keyD dOf List.all_nil List.map_nil
@[go_sem] theorem kfit_0:kfit [] []=true:=rfl
@[go_sem] theorem kfit_c {k:KK} {ks:List KK} {c:C} {cs:List C}:kfit (k::ks) (c::cs)=(k.fit c&&kfit ks cs):=rfl
@[go_sem] theorem fit_i {k:IntKind} {n:Int}:(KK.int k).fit (.int k n)=true:=by simp [KK.fit]
@[go_sem] theorem fit_b {b:Bool}:KK.bool.fit (.bool b)=true:=rfl
@[go_sem] theorem fit_s {b:ByteArray}:KK.str.fit (.str b)=true:=rfl
attribute [go_sem] Bool.and_true
def kvN (k v:IntKind) (l:List (Nat×Int)):List (List C×D):=l.map fun x=>([.int k x.1], .int v x.2)
def kvF (k v:IntKind) (l:List (Nat×Int)):List (List C×List C):=l.map fun x=>([.int k x.1],[.int v x.2])
def nlk (a:Nat):List (Nat×Int)→Option Int
 |[]=>none
 |(x,y)::l=>if x=a then some y else nlk a l
def nset (a:Nat) (b:Int):List (Nat×Int)→List (Nat×Int)
 |[]=>[(a,b)]
 |(x,y)::l=>if x=a then(x,b)::l else(x,y)::nset a b l
theorem mlk_kvN {k v:IntKind} {a:Nat}:∀{l:List (Nat×Int)},mlk [.int k (a:Int)] (kvN k v l)=(nlk a l).map fun b=> .int v b
 |[]=>rfl
 |(x,y)::l=>by
  show mlk _ (([.int k (x:Int)],_)::kvN k v l)=_
  rw [mlk,nlk]
  by_cases h:x=a
  ·subst h;simp
  ·rw [if_neg (by simp;omega),if_neg h,mlk_kvN]
attribute [go_sem] mlk_kvN
theorem mset_kvN {k v:IntKind} {a:Nat} {b:Int}:∀{l:List (Nat×Int)},mset [.int k (a:Int)] (.int v b) (kvN k v l)=kvN k v (nset a b l)
 |[]=>rfl
 |(x,y)::l=>by
  show mset _ _ (([.int k (x:Int)],_)::kvN k v l)=_
  rw [mset,nset]
  by_cases h:x=a
  ·subst h;simp [kvN]
  ·rw [if_neg (by simp;omega),if_neg h,mset_kvN];rfl
attribute [go_sem] mset_kvN
@[go_sem] theorem kvD_kvF {k v:IntKind} {l:List (Nat×Int)}:kvD (kvF k v l)=kvN k v l:=by simp [kvD,kvF,kvN,dOf]
theorem kvC_kvN {k v:IntKind}:∀{l:List (Nat×Int)},kvC (kvN k v l)=some (kvF k v l)
 |[]=>rfl
 |(x,y)::l=>by
  show kvC (([.int k (x:Int)],_)::kvN k v l)=_
  rw [kvC,kvC_kvN];rfl
attribute [go_sem] kvC_kvN
theorem kvF_mem {k v:IntKind} {l:List (Nat×Int)} {x:List C×List C}:x∈kvF k v l↔∃a b,(a,b)∈l∧x=([.int k (a:Int)],[.int v b]):=by
 simp only [kvF,List.mem_map]
 exact⟨fun⟨⟨a,b⟩,h,e⟩=>⟨a,b,h,e.symm⟩,fun⟨a,b,h,e⟩=>⟨(a,b),h,e.symm⟩⟩
theorem kvF_in {k v:IntKind} {l:List (Nat×Int)} {a:Nat} {b:Int}:([C.int k (a:Int)],[C.int v b])∈kvF k v l↔(a,b)∈l:=by
 rw [kvF_mem]
 refine⟨fun⟨x,y,h,e⟩=> ?_,fun h=>⟨a,b,h,rfl⟩⟩
 simp only [Prod.mk.injEq,List.cons.injEq,C.int.injEq,true_and,and_true]at e
 rw [show a=x by omega,e.2];exact h
@[go_sem] theorem okN_kvF {id:Nat} {k v:IntKind} {l sn:List (Nat×Int)} {d:Option Nat} {tm:List (Nat×D)} {os:List (Nat×Ob)} {nx:Nat} {K:St→Prop}:
 okN (some (id,kvF k v l,kvF k v sn)) d ⟨tm,os,nx⟩ K=((∀a b,(a,b)∈l→(a,b)∉sn→K (St.put ⟨tm,upd id (.it (kvF k v l) (kvF k v (sn++[(a,b)]))) os,nx⟩ d (.tup [.bool true, .int k (a:Int), .int v b])))∧((∀a b,(a,b)∈l→(a,b)∈sn)→K (St.put ⟨tm,os,nx⟩ d (.tup [.bool false])))):=by
 apply propext
 refine⟨fun⟨h1,h2⟩=>⟨fun a b h3 h4=> ?_,fun h3=>h2 fun y hy=> ?_⟩,fun⟨h1,h2⟩=>⟨fun y hy hn=> ?_,fun h3=>h2 fun a b h4=>kvF_in.1 (h3 _ (kvF_in.2 h4))⟩⟩
 ·have:=h1 _ (kvF_in.2 h3) (fun h=>h4 (kvF_in.1 h))
  have e:kvF k v (sn++[(a,b)])=kvF k v sn++[([.int k (a:Int)],[.int v b])]:=by simp [kvF]
  rw [e];exact this
 ·obtain⟨a,b,h,rfl⟩:=kvF_mem.1 hy
  exact kvF_in.2 (h3 a b h)
 ·obtain⟨a,b,h,rfl⟩:=kvF_mem.1 hy
  have:=h1 a b h fun h5=>hn (kvF_in.2 h5)
  have e:kvF k v (sn++[(a,b)])=kvF k v sn++[([.int k (a:Int)],[.int v b])]:=by simp [kvF]
  rw [e]at this;exact this
@[go_sem] theorem last_kvF {k v:IntKind} {a:Nat} {b:Int} {sn:List (Nat×Int)}:(kvF k v (sn++[(a,b)])).getLast?=some ([.int k (a:Int)],[.int v b]):=by simp [kvF]
@[go_sem] theorem bel_kvN {k v:IntKind} {N:Nat} {l:List (Nat×Int)}:mbel N (kvN k v l)=true:=by
 simp [mbel,kvN,D.bel2,D.bel1,D.bel0]
@[go_sem] theorem bel_nil {N:Nat}:mbel N []=true:=rfl
@[go_sem] theorem mids_kvN {k v:IntKind}:∀{l:List (Nat×Int)},(kvN k v l).map (·.2)=l.map fun x=>D.int v x.2:=by
 intro l;simp [kvN]
open Go
section
variable {δ:List Deferred} {P:Program} {T:Tab} {g g' g'':G} {s s' s'':St} {a:Act} {w w' w'':World} {n N:Nat}
theorem callsIn_round {l m:Nat} {f:FuncId} {args:Array Value} {R:Ending→World→Prop} (h:Calls P f args w R):CallsIn (Fence.wide.inRound l) m P f args w R:=
 CallsIn.inRound l (callsIn_wide.2 h)
theorem op_in {l m:Nat} {o:Oper} {K:Act→World→Prop} {Q:Exit→Act→World→Prop} (hd:∀c,o.op≠ .defer c) (h:o.wp P a w K Q):o.wpIn (Fence.wide.inRound l) m P a w K Q:=by
 refine⟨fun f _=>trivial, ?_⟩
 rw [Fence.inRound_round,Oper.semAt_some l _ _ hd]
 unfold Oper.wp at h
 generalize (execOp a.eval o).run P w=r at h⊢
 cases r with
 |ok nx w'=>
  cases nx with
  |value v=>exact h
  |skip=>exact h
  |defer d=>exact h
  |enter f args=>exact⟨fun hh=>by simp [Fence.inRound,Fence.wide]at hh,callsIn_round h⟩
  |row r args=>exact⟨fun hh=>by simp [Fence.inRound,Fence.wide]at hh,fun c cs hr=>by
   obtain⟨v,w'',h1,h2⟩:=h c cs
   exact⟨v,w'',h1,stepsIn_wide.2 h2⟩⟩
  |_=>exact h.elim
 |halt x w'=>cases x<;>exact h
theorem aop_noDefer {o:Oper} {K:St→Prop} (h:aop P T o s K):∀c,o.op≠ .defer c:=by
 intro c hc
 unfold aop at h
 rw [hc]at h
 exact h
theorem aops_in (hT:TabS P T) (all:Array Oper) {l m:Nat}:∀(ops:List Oper) {g:G} {s:St} {a:Act} {w:World} {K:St→Prop} {Q:Exit→Act→World→Prop},(∀o∈ops,dstOk1 n o=true)→aops P T all ops s K→Rel δ g s a w→a.tmps.size=n→
 (∀a' w',Aft δ n g s w K a' w'→Q .normal a' w')→wpListIn (Fence.wide.inRound l) m P all Q ops a w
 |[],g,s,a,w,K,Q,_,h,hr,hn,hQ=>hQ _ _ ⟨g,s,h,hr,hn, .refl _ _ _⟩
 |o::rest,g,s,a,w,K,Q,hd,h,hr,hn,hQ=>by
  have hdo:∀x,o.dst=some x→x<n:=fun x hx=>by
   have:=hd o (by simp)
   unfold dstOk1 at this
   rw [hx]at this
   simpa using this
  have hrest:∀o∈rest,dstOk1 n o=true:=fun o ho=>hd o (by simp [ho])
  have go:∀{s1:St},Rel δ g s1 a w→Step g s w g s1 w→Region.wanted o (yielded all a.tmps)=true→aop P T o s1 (fun s'=>aops P T all rest s' K)→wpListIn (Fence.wide.inRound l) m P all Q (o::rest) a w:=by
   intro s1 hr1 hst hw hop
   have:=aop_sound hT o hdo hop hr1 hn Q
   simp only [wpListIn,hw,if_true]
   refine op_in (aop_noDefer hop) (Go.Oper.wp_mono (fun a' w' haft=> ?_) this)
   obtain⟨g',s',hK,hr',hn',hst'⟩:=haft
   exact aops_in hT all rest hrest hK hr' hn' fun a'' w'' ⟨g'',s'',h1,h2,h3,h4⟩=>hQ _ _ ⟨g'',s'',h1,h2,h3,(hst.trans hst').trans h4⟩
  have past:∀{s1:St},Rel δ g s1 a w→Step g s w g s1 w→Region.wanted o (yielded all a.tmps)=false→aops P T all rest (s1.put o.dst .skip) K→wpListIn (Fence.wide.inRound l) m P all Q (o::rest) a w:=by
   intro s1 hr1 hst hw hop
   simp only [wpListIn,hw,Bool.false_eq_true,if_false]
   refine⟨fun f _=>trivial,aops_in hT all rest hrest hop (hr1.put o.dst .skip (fun x hx=>by rw [hn];exact hdo x hx)) (by rw [put_size,hn]) fun a'' w'' ⟨g'',s'',h1,h2,h3,h4⟩=>hQ _ _ ⟨g'',s'',h1,h2,h3,(hst.trans (Step.put _)).trans h4⟩⟩
  have hrep:∀(t:Option Nat) (d:D),Step g s w g (s.rep t d) w:=fun t d=>by cases t<;>exact⟨.refl g,Nat.le_refl _,fun _ _ _=>rfl,fun _ _ h=>h,fun _ _ _ h=>h, .refl w⟩
  simp only [aops]at h
  split at h
  ·rename_i hg
   exact go hr (.refl _ _ _) (by simp [Region.wanted,hg]) h
  ·rename_i j want hg
   have hwant:Region.wanted o (yielded all a.tmps)=(yielded all a.tmps j==some want):=by simp [Region.wanted,hg]
   unfold grd at h
   split at h
   ·rename_i b hb
    cases ht:gtmp all j with
    |none=>rw [ht]at hb;cases hb
    |some t=>
     rw [ht]at hb h
     have hv:=hr.bool_at hb
     have hy:yielded all a.tmps j=some b:=by rw [yielded_gtmp,ht];simp [hv]
     rw [hy]at hwant
     by_cases hbw:b=want
     ·subst hbw
      exact go (hr.rep hv) (hrep _ _) (by rw [hwant];simp) (h.1 rfl)
     ·have hbw':b= !want:=by cases b<;>cases want<;>simp_all
      have h2:=h.2 hbw'
      rw [←hbw']at h2
      exact past (hr.rep hv) (hrep _ _) (by rw [hwant];simp [hbw]) h2
   ·rename_i hb
    cases ht:gtmp all j with
    |none=>rw [ht]at hb;cases hb
    |some t=>
     rw [ht]at hb
     have hv:=hr.skip_at hb
     have hy:yielded all a.tmps j=none:=by rw [yielded_gtmp,ht];simp [hv,Go.undef]
     rw [hy]at hwant
     exact past hr (.refl _ _ _) (by rw [hwant];rfl) h
   ·cases h
def plainC:Code→Bool
 | .skip=>true
 | .label _=>true
 | .region _ _ b=> !b
 | .seq a b=>plainC a&&plainC b
 | .cond _ a b=>plainC a&&plainC b
 | .block _ c=>plainC c
 | .exit _=>true
 | .ret=>true
 |_=>false
theorem awp_in (hT:TabS P T) {l m:Nat} (lv:Nat→Option (List Nat)):∀(c:Code) (Q:Exit→St→Prop) (s:St),plainC c=true→dstOk n c=true→awp P T n N lv c Q s→∀(g:G) (a:Act) (w:World),Rel δ g s a w→a.tmps.size=n→
 c.wpIn (Fence.wide.inRound l) m P (fun e a' w'=>∃g' s',Q e s'∧Rel δ g' s' a' w'∧a'.tmps.size=n∧StepN N g s w g' s' w') a w
 | .skip,Q,s,_,_,h=>fun g a w hr hn=>wpIn_skip ⟨g,s,h,hr,hn, .refl _ _ _ _⟩
 | .label l,Q,s,_,_,h=>fun g a w hr hn=>wpIn_label ⟨g,s,h,hr,hn, .refl _ _ _ _⟩
 | .exit id,Q,s,_,_,h=>fun g a w hr hn=>wpIn_exit ⟨g,s,h,hr,hn, .refl _ _ _ _⟩
 | .ret,Q,s,_,_,h=>fun g a w hr hn=>wpIn_ret ⟨g,s,h,hr,hn, .refl _ _ _ _⟩
 | .region i ops false,Q,s,_,hd,h=>fun g a w hr hn=>by
  refine wpIn_region_list (aops_in hT ops ops.toList (fun o ho=>List.all_eq_true.1 hd o ho) h hr hn fun a' w' ⟨g',s',h1,h2,h3,h4⟩=> ?_)
  exact⟨g',_,h1,h2.prune _,h3,(h4.trans (Step.prune _)).toN⟩
 | .region i ops true,Q,s,hp,hd,h=>by cases hp
 | .seq x y,Q,s,hp,hd,h=>fun g a w hr hn=>by
  simp only [dstOk,plainC,Bool.and_eq_true]at hd hp
  refine wpIn_seq (wpIn_mono (awp_in hT lv x _ s hp.1 hd.1 h g a w hr hn) fun e a' w' ⟨g',s',h1,h2,h3,h4⟩=> ?_)
  cases e with
  |normal=>exact wpIn_mono (awp_in hT lv y Q s' hp.2 hd.2 h1 g' a' w' h2 h3) fun e a'' w'' ⟨g'',s'',h5,h6,h7,h8⟩=>⟨g'',s'',h5,h6,h7,h4.trans h8⟩
  |_=>exact⟨g',s',h1,h2,h3,h4⟩
 | .cond c x y,Q,s,hp,hd,h=>fun g a w hr hn=>by
  simp only [dstOk,plainC,Bool.and_eq_true]at hd hp
  unfold awp cd at h
  split at h
  ·rename_i b hb
   have hc:=hr.ev c
   rw [hb]at hc
   refine wpIn_cond hc.bool_inv ?_
   cases b with
   |true=>exact awp_in hT lv x Q s hp.1 hd.1 (h.1 rfl) g a w hr hn
   |false=>exact awp_in hT lv y Q s hp.2 hd.2 (h.2 rfl) g a w hr hn
  ·cases h
 | .block id c,Q,s,hp,hd,h=>fun g a w hr hn=>by
  refine wpIn_block (wpIn_mono (awp_in hT lv c _ s hp hd h g a w hr hn) fun e a' w' ⟨g',s',h1,h2,h3,h4⟩=> ?_)
  cases e with
  |exit i=>
   simp only [bl]at h1
   simp only [Exit.inBlock]
   split
   ·rename_i hi
    rw [if_pos hi]at h1
    exact⟨g',s',h1,h2,h3,h4⟩
   ·rename_i hi
    rw [if_neg hi]at h1
    exact⟨g',s',h1,h2,h3,h4⟩
  |_=>exact⟨g',s',h1,h2,h3,h4⟩
 | .loop c,Q,s,hp,_,h=>by cases hp
 | .rangeFunc ..,Q,s,hp,_,h=>by cases hp
 | .scope c,Q,s,hp,_,h=>by cases hp
 | .goto l,Q,s,hp,_,h=>by cases hp
 | .refuse w,Q,s,hp,_,h=>by cases hp
end
open Go
section
variable {δ:List Deferred} {P:Program} {g g':G} {s s':St} {a:Act} {w w':World} {n N:Nat}
theorem SWp.frz {c:Code} {Q:Exit→St→Prop} (t:Nat) {d d':D} (ht:lk t s.tm=some d) (hf:Dm.frz s d=(d',s')) (h:SWp P n N c Q (s'.rep (some t) d')):SWp P n N c Q s:=by
 intro δ g a w hr hn
 obtain⟨v,hv,hvr⟩:=hr.tm t d ht
 obtain⟨g1,hr1,hv1,hst,htm⟩:=frz_sound hr hvr hf
 have hr2:Rel δ g1 (s'.rep (some t) d') a w:=by
  refine⟨fun u d hu=> ?_,hr1.defers,hr1.o.tm⟩
  simp only [St.rep,lk_upd]at hu
  split at hu
  ·rename_i hc
   cases hu
   rw [hc.1]
   exact⟨_,hv,hv1⟩
  ·exact hr1.tm u d hu
 refine wp_mono (h δ g1 a w hr2 hn) fun e a' w' ⟨g2,s2,h1,h2,h3,h4⟩=>⟨g2,s2,h1,h2,h3, ?_⟩
 have hst':StepN N g s w g1 (s'.rep (some t) d') w:=(hst.toN).tm (tm:=s.tm)
 exact hst'.trans h4
theorem ADraw.frz {i:Nat} {ops:Array Oper} {Q:Exit→St→Prop} (t:Nat) {d d':D} (ht:lk t s.tm=some d) (hf:Dm.frz s d=(d',s')) (h:ADraw P n N i ops Q (s'.rep (some t) d')):ADraw P n N i ops Q s:=
 SWp.frz t ht hf h
end
open Go
section
variable {δ:List Deferred} {P:Program} {T:Tab} {g g' g1 g2:G} {s s' r:St} {a a':Act} {w w':World} {n N:Nat}
structure RelF (F:Nat→Prop) (g:G) (s:St) (w:World):Prop where
 ok:∀id o,lk id s.os=some o→OK g w id o
 apart:∀id o id' o' b,lk id s.os=some o→lk id' s.os=some o'→g.blk id o=some b→g.blk id' o'=some b→id=id'
 fresh:∀id,F id→g.ρ id=none∧g.κ id=none
 imm:∀b,g.I b→b<w.heap.size∧¬Own g s b
 cel:Cels g.I w
structure RelP (F:Nat→Prop) (δ:List Deferred) (g:G) (s:St) (a:Act) (w:World):Prop where
 tm:∀t d,lk t s.tm=some d→∃v,a.tmps[t]? =some v∧VRel g w v d
 defers:a.defers=δ
 o:RelF F g s w
theorem Rel.toP (h:Rel δ g s a w):RelP (fun id=>s.nx≤id) δ g s a w:=⟨h.tm,h.defers,h.o.ok,h.o.apart,h.o.fresh,h.o.imm,h.o.cel⟩
theorem RelP.toR {F:Nat→Prop} (h:RelP F δ g s a w) (hF:∀id,s.nx≤id→F id):Rel δ g s a w:=⟨h.tm,h.defers,h.o.ok,h.o.apart,fun id hid=>h.o.fresh id (hF id hid),h.o.imm,h.o.cel⟩
theorem RelP.less {F F':Nat→Prop} (h:RelP F δ g s a w) (hF:∀id,F' id→F id):RelP F' δ g s a w:=⟨h.tm,h.defers,h.o.ok,h.o.apart,fun id hid=>h.o.fresh id (hF id hid),h.o.imm,h.o.cel⟩
mutual
def mids:D→List Nat
 | .ref id _=>[id]
 | .eref id _ _ _ _=>[id]
 | .vec id _=>[id]
 | .view id _ _ _ _=>[id]
 | .mp id=>[id]
 | .fn _ l m=>midsL l++midsL m
 | .agg l=>midsL l
 | .tup l=>midsL l
 |_=>[]
def midsL:List D→List Nat
 |[]=>[]
 |d::l=>mids d++midsL l
end
theorem mem_midsL {i:Nat} {d:D} {id:Nat}:∀{l:List D} {j:Nat},l[j]? =some d→id∈mids d→id∈midsL l
 |[],j,h,_=>by simp at h
 |x::l,0,h,hi=>by
  have:x=d:=by simpa using h
  subst this
  rw [midsL]
  exact List.mem_append_left _ hi
 |x::l,j+1,h,hi=>by
  rw [midsL]
  exact List.mem_append_right _ (mem_midsL (i:=i) (by simpa using h) hi)
def mob:Ob→List Nat
 | .box cs=>midsL cs
 | .map _ kv=>midsL (kv.map (·.2))
 | .it .. =>[]
 | .vec .. =>[]
theorem VRel.agree {v:Value} {d:D} (h:VRel g w v d) (hI:∀b,g.I b→g1.I b) (hρ:∀id∈mids d,g1.ρ id=g.ρ id) (hκ:∀id∈mids d,g1.κ id=g.κ id):VRel g1 w v d:=by
 induction h with
 |undef v=>exact .undef v
 |skip=>exact .skip
 |c v x h=>exact .c v x (h.mono (fun _ _=>rfl) hI)
 |ref b id off h=>exact .ref b id off (by rw [hρ id (by simp [mids])];exact h)
 |eref b o id n sz i off a len cap h hn hv=>exact .eref b o id n sz i off a len cap (by rw [hκ id (by simp [mids])];exact h) hn hv
 |rp b off cs vs hi hcell=>exact .rp b off cs vs (hI b hi) fun j y hy=>⟨(hcell j y hy).1,(hcell j y hy).2.mono (fun _ _=>rfl) hI⟩
 |nilp=>exact .nilp
 |nilf=>exact .nilf
 |fn f fi ca dfi dca h1 h2 _ _ ih1 ih2=>
  refine .fn f fi ca dfi dca h1 h2 (fun i v d hv hd=>ih1 i v d hv hd (fun id hid=>hρ id ?_) (fun id hid=>hκ id ?_)) (fun i v d hv hd=>ih2 i v d hv hd (fun id hid=>hρ id ?_) (fun id hid=>hκ id ?_))<;>rw [mids]
  ·exact List.mem_append_left _ (mem_midsL (i:=0) hd hid)
  ·exact List.mem_append_left _ (mem_midsL (i:=0) hd hid)
  ·exact List.mem_append_right _ (mem_midsL (i:=0) hd hid)
  ·exact List.mem_append_right _ (mem_midsL (i:=0) hd hid)
 |nil=>exact .nil
 |csl a els h=>exact .csl a els (h.mono (fun _ _=>rfl) hI)
 |vec x y id n a len cap h hn hm ha hv=>exact .vec x y id n a len cap (by rw [hκ id (by simp [mids])];exact h) hn hm ha hv
 |view x y id c sz lo hi a len cap h hc hl hh hm hv=>exact .view x y id c sz lo hi a len cap (by rw [hκ id (by simp [mids])];exact h) hc hl hh hm hv
 |mp b id h=>exact .mp b id (by rw [hρ id (by simp [mids])];exact h)
 |nilm=>exact .nilm
 |agg vs ds h _ ih=>exact .agg vs ds h fun i v d hv hd=>ih i v d hv hd (fun id hid=>hρ id (by rw [mids];exact mem_midsL (i:=0) hd hid)) (fun id hid=>hκ id (by rw [mids];exact mem_midsL (i:=0) hd hid))
 |tup vs ds h _ ih=>exact .tup vs ds h fun i v d hv hd=>ih i v d hv hd (fun id hid=>hρ id (by rw [mids];exact mem_midsL (i:=0) hd hid)) (fun id hid=>hκ id (by rw [mids];exact mem_midsL (i:=0) hd hid))
theorem OK.agree {id:Nat} {o:Ob} (h:OK g w id o) (hI:∀b,g.I b→g1.I b) (hρ:∀i,i=id∨i∈mob o→g1.ρ i=g.ρ i) (hκ:∀i,i=id∨i∈mob o→g1.κ i=g.κ i):OK g1 w id o:=by
 cases o with
 |box cs=>
  obtain⟨b,e,cells,h1,h2,h3,h4⟩:=h
  exact⟨b,e,cells,by rw [hρ id (.inl rfl)];exact h1,h2,h3,fun i v d hv hd=>(h4 i v d hv hd).agree hI (fun i hi=>hρ i (.inr (mem_midsL (i:=0) hd hi))) (fun i hi=>hκ i (.inr (mem_midsL (i:=0) hd hi)))⟩
 |vec hd sz e els=>
  obtain⟨a0,cap,h1,h2,h3,h4,h5⟩:=h
  refine⟨a0,cap,by rw [hκ id (.inl rfl)];exact h1,h2,h3,h4, ?_⟩
  rcases h5 with h5|⟨b,off,cells,vs,rfl,h6,h7,h9,h8⟩
  ·exact .inl h5
  ·exact .inr ⟨b,off,cells,vs,rfl,h6,h7,h9,fun i j x y hx hy=>⟨(h8 i j x y hx hy).1,(h8 i j x y hx hy).2.mono (fun _ _=>rfl) hI⟩⟩
 |map kt kv=>
  obtain⟨b,es,h1,h2,h3,h4,h5,h6⟩:=h
  have hm:∀{i:Nat} {x:List C×D},kv[i]? =some x→∀id∈mids x.2,id∈mob (.map kt kv):=fun{i x} hx id hid=>by
   rw [mob]
   exact mem_midsL (i:=0) (j:=i) (d:=x.2) (by simp [hx]) hid
  exact⟨b,es,by rw [hρ id (.inl rfl)];exact h1,h2,h3,h4,h5,fun i e x he hx=>⟨(h6 i e x he hx).1,(h6 i e x he hx).2.1,(h6 i e x he hx).2.2.agree hI (fun j hj=>hρ j (.inr (hm hx j hj))) (fun j hj=>hκ j (.inr (hm hx j hj)))⟩⟩
 |it kv seen=>
  obtain⟨b,h1,h2⟩:=h
  refine⟨b,by rw [hρ id (.inl rfl)];exact h1, ?_⟩
  rcases h2 with h2|⟨mb,kt,kv',es,ix,h2,h3,h4⟩
  ·exact .inl h2
  ·exact .inr ⟨mb,kt,kv',es,ix,h2,hI _ h3,h4⟩
theorem blk_agree {id:Nat} {o:Ob} (hρ:g1.ρ id=g.ρ id) (hκ:g1.κ id=g.κ id):g1.blk id o=g.blk id o:=by
 cases o<;>simp [G.blk,hρ,hκ]
def pickL {α:Type}:List Nat→List (Nat×α)→List (Nat×α)
 |[],_=>[]
 |k::ks,l=>match lk k l with
  |some x=>(k,x)::pickL ks l
  |none=>pickL ks l
theorem lk_pickL {α:Type} {k:Nat} {l:List (Nat×α)}:∀{ks:List Nat},lk k (pickL ks l)=if k∈ks then lk k l else none
 |[]=>by simp [pickL,lk]
 |i::ks=>by
  rw [pickL]
  cases hl:lk i l with
  |none=>
   simp only []
   rw [lk_pickL]
   by_cases hk:k=i
   ·subst hk;simp [hl]
   ·simp [hk]
  |some x=>
   simp only [lk_cons]
   by_cases hk:k=i
   ·subst hk;simp [hl]
   ·simp [hk,lk_pickL]
theorem lk_app {α:Type} {k:Nat} {l':List (Nat×α)}:∀{l:List (Nat×α)},lk k (l++l')=(lk k l).or (lk k l')
 |[]=>by simp [lk]
 |(m,x)::l=>by
  simp only [List.cons_append,lk_cons]
  split
  ·rfl
  ·exact lk_app
theorem lk_without {α:Type} {k:Nat} {T:List Nat}:∀{l:List (Nat×α)},lk k (l.filter fun p=> !T.contains p.1)=if k∈T then none else lk k l
 |[]=>by simp [lk]
 |(m,x)::l=>by
  rw [List.filter_cons]
  by_cases hm:m∈T
  ·rw [if_neg (by simp [hm]),lk_without,lk_cons]
   by_cases hk:k=m
   ·subst hk;simp [hm]
   ·simp [hk]
  ·rw [if_pos (by simp [hm]),lk_cons,lk_cons,lk_without]
   by_cases hk:k=m
   ·subst hk;simp [hm]
   ·simp [hk]
def St.loc (rd T:List Nat) (B:Nat) (s:St):St:=⟨pickL rd s.tm,pickL T s.os,B⟩
def St.mrg (s:St) (T:List Nat) (d:Option Nat) (r:St):St:=
 ⟨(match d with|some t=>(t,r.get t)::s.tm|none=>s.tm),r.os++s.os.filter (fun p=> !T.contains p.1),r.nx⟩
structure Fit (rd T:List Nat) (B:Nat) (d:Option Nat) (s r:St):Prop where
 low:∀id∈T,id<B
 vals:∀t x,t∈rd→lk t s.tm=some x→∀id∈mids x,id∈T
 obs:∀i o,i∈T→lk i s.os=some o→∀id∈mob o,id∈T
 nx:B≤r.nx
 ros:∀i o,lk i r.os=some o→(i∈T∨B≤i∧i<r.nx)∧∀id∈mob o,id∈T∨B≤id∧id<r.nx
 rv:∀t,d=some t→∀id∈mids (r.get t),id∈T∨B≤id∧id<r.nx
theorem Oper.wp_put {o:Oper} {K:Act→World→Prop} {Q:Exit→Act→World→Prop} (h:o.wp P a w K Q):o.wp P a w (fun a' w'=>K a' w'∧∃v,a'.tmps=(a.put o.dst v).tmps) Q:=by
 unfold Oper.wp at*
 generalize (execOp a.eval o).run P w=r at*
 cases r with
 |ok n w'=>
  cases n<;>simp only [Oper.upon]at h⊢
  case value v=>exact⟨h,_,rfl⟩
  case skip=>exact⟨h,_,rfl⟩
  case defer x=>exact⟨h,undef,by cases o.dst<;>rfl⟩
  case enter f args=>exact h.mono fun e w'' he=>by cases e<;>first|exact⟨he,_,rfl⟩|exact he
  case row row args=>exact h.mono fun v w'' he=>⟨he,_,rfl⟩
 |halt x w'=>cases x<;>simp only [Oper.upon]at h⊢ <;>exact h
theorem put_tmps_ne {d:Option Nat} {v:Value} {t:Nat} (h:d≠some t):(a.put d v).tmps[t]? =a.tmps[t]? :=by
 cases d with
 |none=>rfl
 |some u=>
  have:u≠t:=fun e=>h (by rw [e])
  simp [Act.put,this]
def G.only (g:G) (T:List Nat):G:=⟨fun id=>if id∈T then g.ρ id else none,fun id=>if id∈T then g.κ id else none,g.I⟩
def G.mrg (g g':G) (T:List Nat) (B nx:Nat):G:=⟨fun id=>if id∈T∨B≤id∧id<nx then g'.ρ id else g.ρ id,fun id=>if id∈T∨B≤id∧id<nx then g'.κ id else g.κ id,g'.I⟩
theorem loc_rel {F:Nat→Prop} {rd Tr:List Nat} {B:Nat} {d:Option Nat} (hr:RelP F δ g s a w) (hf:Fit rd Tr B d s r):Rel δ (g.only Tr) (s.loc rd Tr B) a w:=by
 have hρ:∀id∈Tr,(g.only Tr).ρ id=g.ρ id:=fun id h=>by simp [G.only,h]
 have hκ:∀id∈Tr,(g.only Tr).κ id=g.κ id:=fun id h=>by simp [G.only,h]
 have hos:∀id o,lk id (s.loc rd Tr B).os=some o→id∈Tr∧lk id s.os=some o:=fun id o h=>by
  simp only [St.loc,lk_pickL]at h
  split at h
  ·exact⟨by assumption,h⟩
  ·cases h
 have hown:∀b,Own (g.only Tr) (s.loc rd Tr B) b→Own g s b:=fun b ⟨id,o,h1,h2⟩=>by
  obtain⟨h3,h4⟩:=hos id o h1
  exact⟨id,o,h4,by rwa [blk_agree (hρ id h3) (hκ id h3)]at h2⟩
 refine⟨fun t x ht=> ?_,hr.defers,⟨fun id o h=> ?_,fun id o id' o' b h1 h2 h3 h4=> ?_,fun id hid=> ?_,fun b hb=>⟨(hr.o.imm b hb).1,fun h=>(hr.o.imm b hb).2 (hown b h)⟩,hr.o.cel⟩⟩
 ·simp only [St.loc,lk_pickL]at ht
  split at ht
  ·rename_i hm
   obtain⟨v,h1,h2⟩:=hr.tm t x ht
   exact⟨v,h1,h2.agree (fun _ h=>h) (fun id hid=>hρ id (hf.vals t x hm ht id hid)) (fun id hid=>hκ id (hf.vals t x hm ht id hid))⟩
  ·cases ht
 ·obtain⟨h1,h2⟩:=hos id o h
  refine(hr.o.ok id o h2).agree (fun _ h=>h) (fun i hi=>hρ i ?_) (fun i hi=>hκ i ?_)<;>
  ·rcases hi with rfl|hi
   ·exact h1
   ·exact hf.obs id o h1 h2 i hi
 ·obtain⟨h5,h6⟩:=hos id o h1
  obtain⟨h7,h8⟩:=hos id' o' h2
  rw [blk_agree (hρ id h5) (hκ id h5)]at h3
  rw [blk_agree (hρ id' h7) (hκ id' h7)]at h4
  exact hr.o.apart id o id' o' b h6 h8 h3 h4
 ·have:id∉Tr:=fun h=>by
   have:=hf.low id h
   have hid':B≤id:=hid
   omega
  simp [G.only,this]
theorem mrg_rel {F F':Nat→Prop} {rd Tr:List Nat} {B:Nat} {d:Option Nat} (hr:RelP F δ g s a w) (hf:Fit rd Tr B d s r) (hF:∀id,B≤id→id<r.nx→F id) (hF':∀id,F' id→F id∧(id<B∨r.nx≤id)∧id∉Tr)
 (hr':Rel δ g' r a' w') (hst:Step (g.only Tr) (s.loc rd Tr B) w g' r w') (hput:∃v,a'.tmps=(a.put d v).tmps) (hd:∀t,d=some t→(lk t r.tm).isSome=true):
 RelP F' δ (g.mrg g' Tr B r.nx) (s.mrg Tr d r) a' w'∧Step g s w (g.mrg g' Tr B r.nx) (s.mrg Tr d r) w':=by
 have hl:=(loc_rel hr hf).o
 have hin:∀id,(id∈Tr∨B≤id∧id<r.nx)→(g.mrg g' Tr B r.nx).ρ id=g'.ρ id∧(g.mrg g' Tr B r.nx).κ id=g'.κ id:=fun id h=>by simp [G.mrg,h]
 have hout:∀id,¬(id∈Tr∨B≤id∧id<r.nx)→(g.mrg g' Tr B r.nx).ρ id=g.ρ id∧(g.mrg g' Tr B r.nx).κ id=g.κ id:=fun id h=>by simp only [G.mrg,h,if_false,and_self]
 have hle:g.Le (g.mrg g' Tr B r.nx):=by
  refine⟨fun id b hb=> ?_,fun id a l c hk=> ?_,fun b hb=>hst.le.I b hb⟩
  ·by_cases h:id∈Tr∨B≤id∧id<r.nx
   ·rw [(hin id h).1]
    rcases h with h|h
    ·exact hst.le.ρ id b (by simp [G.only,h,hb])
    ·rw [(hr.o.fresh id (hF id h.1 h.2)).1]at hb;cases hb
   ·rw [(hout id h).1];exact hb
  ·by_cases h:id∈Tr∨B≤id∧id<r.nx
   ·rw [(hin id h).2]
    rcases h with h|h
    ·exact hst.le.κ id a l c (by simp [G.only,h,hk])
    ·rw [(hr.o.fresh id (hF id h.1 h.2)).2]at hk;cases hk
   ·rw [(hout id h).2];exact⟨a,l,c,hk,Nat.le_refl _,fun _=>⟨rfl,rfl⟩⟩
 have hkeep:Keeps g.I w w':=fun b hb=>hst.same b (hr.o.imm b hb).1 (hl.imm b hb).2
 have hown:∀b,Own (g.only Tr) (s.loc rd Tr B) b→Own g s b:=fun b ⟨id,o,h1,h2⟩=>by
  simp only [St.loc,lk_pickL]at h1
  split at h1
  ·rename_i h3
   exact⟨id,o,h1,by rwa [blk_agree (g:=g) (by simp [G.only,h3]) (by simp [G.only,h3])]at h2⟩
  ·cases h1
 have hlk:∀id o,lk id (s.mrg Tr d r).os=some o→lk id r.os=some o∨(id∉Tr∧lk id s.os=some o):=fun id o h=>by
  simp only [St.mrg,lk_app,lk_without]at h
  cases hl:lk id r.os with
  |some x=>rw [hl]at h;exact .inl h
  |none=>
   rw [hl]at h
   by_cases hm:id∈Tr
   ·simp [hm]at h
   ·exact .inr ⟨hm,by simpa [hm]using h⟩
 have hrng2:∀id o,lk id s.os=some o→¬(B≤id∧id<r.nx):=fun id o ho h=>by
  obtain⟨h1,h2⟩:=hr.o.fresh id (hF id h.1 h.2)
  have:=hr.o.ok id o ho
  cases o with
  |box cs=>obtain⟨b,e,cells,h3,_⟩:=this;rw [h1]at h3;cases h3
  |map kt kv=>obtain⟨b,es,h3,_⟩:=this;rw [h1]at h3;cases h3
  |it kv seen=>obtain⟨b,h3,_⟩:=this;rw [h1]at h3;cases h3
  |vec hd sz e els=>obtain⟨a0,cap,h3,_⟩:=this;rw [h2]at h3;cases h3
 have hother:∀id o b,id∉Tr→lk id s.os=some o→g.blk id o=some b→b<w.heap.size∧¬Own (g.only Tr) (s.loc rd Tr B) b:=fun id o b hm ho hb=>by
  refine⟨?_,fun⟨id',o',h1,h2⟩=> ?_⟩
  ·exact(hr.o.ok id o ho).lt.1 b hb
  ·simp only [St.loc,lk_pickL]at h1
   split at h1
   ·rename_i h3
    rw [blk_agree (g:=g) (by simp [G.only,h3]) (by simp [G.only,h3])]at h2
    have:=hr.o.apart id o id' o' b ho h1 hb h2
    subst this
    exact hm h3
   ·cases h1
 have hblk1:∀id o,lk id r.os=some o→(g.mrg g' Tr B r.nx).blk id o=g'.blk id o:=fun id o h=>blk_agree (hin id (hf.ros id o h).1).1 (hin id (hf.ros id o h).1).2
 have hblk2:∀id o,id∉Tr→lk id s.os=some o→(g.mrg g' Tr B r.nx).blk id o=g.blk id o:=fun id o hm h=>by
  have hn:=hrng2 id o h
  exact blk_agree (hout id (fun h=>h.elim hm hn)).1 (hout id (fun h=>h.elim hm hn)).2
 have hownN:∀b,b<w.heap.size→¬Own g s b→¬Own (g.mrg g' Tr B r.nx) (s.mrg Tr d r) b:=fun b hb hno ⟨id,o,h1,h2⟩=>by
  rcases hlk id o h1 with h3|⟨h3,h4⟩
  ·rw [hblk1 id o h3]at h2
   exact hst.own b hb (fun h=>hno (hown b h)) ⟨id,o,h3,h2⟩
  ·rw [hblk2 id o h3 h4]at h2
   exact hno ⟨id,o,h4,h2⟩
 refine⟨⟨fun t x ht=> ?_,hr'.defers,⟨fun id o h=> ?_,fun id o id' o' b h1 h2 h3 h4=> ?_,fun id hid=> ?_,fun b hb=>⟨(hr'.o.imm b hb).1, ?_⟩,hr'.o.cel⟩⟩,
  ⟨hle,hst.size,fun b hb hno=>hst.same b hb (fun h=>hno (hown b h)),hownN,fun b hb hno hi=>hst.imm b hb (fun h=>hno (hown b h)) hi,hst.env⟩⟩
 ·
  have old:∀t x,lk t s.tm=some x→d≠some t→∃v,a'.tmps[t]? =some v∧VRel (g.mrg g' Tr B r.nx) w' v x:=fun t x h hne=>by
   obtain⟨v,h1,h2⟩:=hr.tm t x h
   obtain⟨u,hu⟩:=hput
   exact⟨v,by rw [hu,put_tmps_ne hne];exact h1,h2.mono hkeep hle⟩
  cases hdd:d with
  |none=>
   simp only [St.mrg,hdd]at ht
   exact old t x ht (by simp [hdd])
  |some u=>
   simp only [St.mrg,hdd,lk_cons]at ht
   split at ht
   ·rename_i htu
    subst htu
    cases ht
    have:=hd t hdd
    obtain⟨y,hy⟩:=Option.isSome_iff_exists.1 this
    have hg:r.get t=y:=by simp [St.get,hy]
    obtain⟨v,h1,h2⟩:=hr'.tm t y hy
    rw [hg]
    have hm:=hf.rv t hdd
    rw [hg]at hm
    exact⟨v,h1,h2.agree (fun _ h=>h) (fun id hid=>(hin id (hm id hid)).1) (fun id hid=>(hin id (hm id hid)).2)⟩
   ·rename_i htu
    exact old t x ht (by rw [hdd];simpa using fun h=>htu h.symm)
 ·rcases hlk id o h with h1|⟨h1,h2⟩
  ·obtain⟨h3,h4⟩:=hf.ros id o h1
   refine(hr'.o.ok id o h1).agree (fun _ h=>h) (fun i hi=>(hin i ?_).1) (fun i hi=>(hin i ?_).2)<;>
   ·rcases hi with rfl|hi
    ·exact h3
    ·exact h4 i hi
  ·have hn:=hrng2 id o h2
   exact(hr.o.ok id o h2).mono hkeep hle (fun b hb=>hst.same b (hother id o b h1 h2 hb).1 (hother id o b h1 h2 hb).2) (hout id (fun h=>h.elim h1 hn)).2
 ·rcases hlk id o h1 with h5|⟨h5,h6⟩<;>rcases hlk id' o' h2 with h7|⟨h7,h8⟩
  ·rw [hblk1 id o h5]at h3
   rw [hblk1 id' o' h7]at h4
   exact hr'.o.apart id o id' o' b h5 h7 h3 h4
  ·rw [hblk1 id o h5]at h3
   rw [hblk2 id' o' h7 h8]at h4
   obtain⟨h9,h10⟩:=hother id' o' b h7 h8 h4
   exact absurd ⟨id,o,h5,h3⟩ (hst.own b h9 h10)
  ·rw [hblk2 id o h5 h6]at h3
   rw [hblk1 id' o' h7]at h4
   obtain⟨h9,h10⟩:=hother id o b h5 h6 h3
   exact absurd ⟨id',o',h7,h4⟩ (hst.own b h9 h10)
  ·rw [hblk2 id o h5 h6]at h3
   rw [hblk2 id' o' h7 h8]at h4
   exact hr.o.apart id o id' o' b h6 h8 h3 h4
 ·obtain⟨h1,h2,h3⟩:=hF' id hid
  have:¬(id∈Tr∨B≤id∧id<r.nx):=fun h=>h.elim h3 (fun h=>by omega)
  rw [(hout id this).1,(hout id this).2]
  exact hr.o.fresh id h1
 ·rintro⟨id,o,h1,h2⟩
  rcases hlk id o h1 with h3|⟨h3,h4⟩
  ·rw [hblk1 id o h3]at h2
   exact(hr'.o.imm b hb).2 ⟨id,o,h3,h2⟩
  ·rw [hblk2 id o h3 h4]at h2
   obtain⟨h5,h6⟩:=hother id o b h3 h4 h2
   exact(hr.o.imm b (hst.imm b h5 h6 hb)).2 ⟨id,o,h4,h2⟩
end
open Go
section
variable {δ:List Deferred} {P:Program} {T:Tab} {all:Array Oper} {s s' s'' e:St}
def opT (o:Oper):List Nat:=o.op.operands.toList.filterMap fun| .tmp t=>some t|_=>none
structure Ent where
 i:Nat
 o:Oper
 T:List Nat
 W:List Nat
 B:Nat
 r:St
def Ent.app (x:Ent) (s:St):St:=s.mrg x.T x.o.dst x.r
def Ex (P:Program) (T:Tab) (x:Ent) (s:St):Prop:=
 aop P T x.o (s.loc (opT x.o) x.T x.B) (fun r=>r=x.r)∧Fit (opT x.o) x.T x.B x.o.dst s x.r∧(∀id∈x.T,id∉x.W→lk id x.r.os=lk id s.os)∧∀t,x.o.dst=some t→(lk t x.r.tm).isSome=true
def Sk (x:Ent):Prop:=x.T=[]∧x.r=(⟨[],[],x.B⟩:St).put x.o.dst .skip
def Good (P:Program) (T:Tab) (all:Array Oper) (x:Ent) (s:St):Prop:=
 match x.o.guard with
 |none=>Ex P T x s
 |some (j,w)=>match s.gd (gtmp all j)with
  | .bool b=>(b=w→Ex P T x s)∧(b= !w→Sk x)
  | .skip=>Sk x
  |_=>False
def Eqv (s s':St):Prop:=(∀t,lk t s.tm=lk t s'.tm)∧∀id,lk id s.os=lk id s'.os
theorem Eqv.symm (h:Eqv s s'):Eqv s' s:=⟨fun t=>(h.1 t).symm,fun i=>(h.2 i).symm⟩
theorem Eqv.trans (h:Eqv s s') (h':Eqv s' s''):Eqv s s'':=⟨fun t=>(h.1 t).trans (h'.1 t),fun i=>(h.2 i).trans (h'.2 i)⟩
theorem pickL_congr {α:Type} {l l':List (Nat×α)}:∀{ks:List Nat},(∀k∈ks,lk k l=lk k l')→pickL ks l=pickL ks l'
 |[],_=>rfl
 |k::ks,h=>by
  rw [pickL,pickL,h k (by simp),pickL_congr fun k hk=>h k (by simp [hk])]
theorem opT_looks {o:Oper} {t:Nat} (h:t∈opT o):t∈o.looksAt all:=by
 unfold Oper.looksAt
 exact List.mem_append_left _ h
theorem gtmp_looks {o:Oper} {j:Nat} {w:Bool} (h:o.guard=some (j,w)) {t:Nat} (ht:gtmp all j=some t):t∈o.looksAt all:=by
 unfold Oper.looksAt
 refine List.mem_append_right _ ?_
 rw [h]
 unfold gtmp at ht
 cases hj:all[j]? with
 |none=>rw [hj]at ht;cases ht
 |some x=>
  rw [hj]at ht
  have ht':x.dst=some t:=ht
  simp [hj,ht']
theorem Ex.of {x:Ent} (h:Ex P T x s) (h1:∀t∈opT x.o,lk t s.tm=lk t s'.tm) (h2:∀id∈x.T,lk id s.os=lk id s'.os):Ex P T x s':=by
 obtain⟨h3,h4,h5,h6⟩:=h
 have e:s.loc (opT x.o) x.T x.B=s'.loc (opT x.o) x.T x.B:=by
  unfold St.loc
  rw [pickL_congr h1,pickL_congr h2]
 refine⟨by rw [←e];exact h3,⟨h4.low,fun t y ht hy=>h4.vals t y ht (by rw [h1 t ht];exact hy),fun i o hi ho=>h4.obs i o hi (by rw [h2 i hi];exact ho),h4.nx,h4.ros,h4.rv⟩,fun id hi hw=>(h5 id hi hw).trans (h2 id hi),h6⟩
theorem Good.of {x:Ent} (h:Good P T all x s) (h1:∀t∈x.o.looksAt all,lk t s.tm=lk t s'.tm) (h2:∀id∈x.T,lk id s.os=lk id s'.os):Good P T all x s':=by
 have hE:Ex P T x s→Ex P T x s':=fun h=>h.of (fun t ht=>h1 t (opT_looks ht)) h2
 unfold Good at*
 cases hg:x.o.guard with
 |none=>rw [hg]at h;exact hE h
 |some jw=>
  obtain⟨j,w⟩:=jw
  rw [hg]at h
  have e:s.gd (gtmp all j)=s'.gd (gtmp all j):=by
   cases ht:gtmp all j with
   |none=>rfl
   |some t=>simp [St.gd,St.get,h1 t (gtmp_looks hg ht)]
  simp only at h⊢
  rw [←e]
  split at h<;>simp_all
theorem Good.facts {x:Ent} (h:Good P T all x s):(∀i o,lk i x.r.os=some o→i∈x.T∨x.B≤i∧i<x.r.nx)∧(∀id∈x.T,id∉x.W→lk id x.r.os=lk id s.os)∧(∀id∈x.T,id<x.B):=by
 have hE:Ex P T x s→_:=fun⟨_,h4,h5,_⟩=>(⟨fun i o hi=>(h4.ros i o hi).1,h5,h4.low⟩:(∀i o,lk i x.r.os=some o→i∈x.T∨x.B≤i∧i<x.r.nx)∧(∀id∈x.T,id∉x.W→lk id x.r.os=lk id s.os)∧(∀id∈x.T,id<x.B))
 have hS:Sk x→(∀i o,lk i x.r.os=some o→i∈x.T∨x.B≤i∧i<x.r.nx)∧(∀id∈x.T,id∉x.W→lk id x.r.os=lk id s.os)∧(∀id∈x.T,id<x.B):=fun⟨h1,h2⟩=>by
  rw [h1,h2]
  refine⟨fun i o hi=> ?_,by simp,by simp⟩
  cases hd:x.o.dst<;>rw [hd]at hi<;>cases hi
 unfold Good at h
 cases hg:x.o.guard with
 |none=>rw [hg]at h;exact hE h
 |some jw=>
  obtain⟨j,w⟩:=jw
  rw [hg]at h
  simp only at h
  generalize s.gd (gtmp all j)=v at h
  split at h
  ·rename_i b
   by_cases hb:b=w
   ·exact hE (h.1 hb)
   ·exact hS (h.2 (by cases b<;>cases w<;>simp_all))
  ·exact hS h
  ·cases h
theorem mrg_tm {x:Ent} {t:Nat}:lk t (x.app s).tm=if x.o.dst=some t then some (x.r.get t)else lk t s.tm:=by
 unfold Ent.app St.mrg
 cases x.o.dst with
 |none=>simp
 |some u=>
  simp only [lk_cons,Option.some.injEq]
  by_cases h:t=u
  ·subst h;simp
  ·have h':¬u=t:=fun e=>h e.symm
   simp [h,h']
theorem mrg_os {x:Ent} {i:Nat}:lk i (x.app s).os=(lk i x.r.os).or (if i∈x.T then none else lk i s.os):=by
 unfold Ent.app St.mrg
 simp only [lk_app,lk_without]
theorem Eqv.app {x:Ent} (h:Eqv s s'):Eqv (x.app s) (x.app s'):=by
 refine⟨fun t=> ?_,fun i=> ?_⟩
 ·rw [mrg_tm,mrg_tm,h.1]
 ·rw [mrg_os,mrg_os,h.2]
structure Ind (all:Array Oper) (y x:Ent):Prop where
 a:y.o.apart all x.o=true
 w1:∀id∈y.W,id∉x.T
 w2:∀id∈x.W,id∉y.T
 n1:∀id∈x.T,¬(y.B≤id∧id<y.r.nx)
 n3:y.r.nx≤x.B
 n4:y.B≤y.r.nx
theorem swap {x y:Ent} (hy:Good P T all y s) (hx:Good P T all x (y.app s)) (hi:Ind all y x):Good P T all x s∧Good P T all y (x.app s)∧Eqv (y.app (x.app s)) (x.app (y.app s)):=by
 obtain⟨a1,a2,a3⟩:=Oper.apart_spec hi.a
 obtain⟨y1,y2,y3⟩:=hy.facts
 obtain⟨x1,x2,x3⟩:=hx.facts
 have hyx:∀id∈x.T,lk id (y.app s).os=lk id s.os:=fun id hid=>by
  rw [mrg_os]
  by_cases h:id∈y.T
  ·rw [y2 id h (fun hw=>hi.w1 id hw hid),if_pos h]
   simp
  ·cases hl:lk id y.r.os with
   |none=>simp [h]
   |some o=>exact absurd ((y1 id o hl).resolve_left h) (hi.n1 id hid)
 have hgx:Good P T all x s:=hx.of (fun t ht=>by
  rw [mrg_tm,if_neg]
  exact fun hd=>a1 t hd ht) hyx
 have hxy:∀id∈y.T,lk id (x.app s).os=lk id s.os:=fun id hid=>by
  rw [mrg_os]
  by_cases h:id∈x.T
  ·rw [x2 id h (fun hw=>hi.w2 id hw hid),if_pos h,hyx id h]
   simp
  ·cases hl:lk id x.r.os with
   |none=>simp [h]
   |some o=>
    have h1:=(x1 id o hl).resolve_left h
    have h2:=y3 id hid
    have h3:=hi.n3
    have h4:=hi.n4
    omega
 refine⟨hgx,hy.of (fun t ht=> ?_) (fun id hid=>(hxy id hid).symm),fun t=> ?_,fun id=> ?_⟩
 ·rw [mrg_tm,if_neg]
  exact fun hd=>a3 t hd ht
 ·rw [mrg_tm,mrg_tm,mrg_tm,mrg_tm]
  by_cases h1:y.o.dst=some t
  ·have h2:x.o.dst≠some t:=a2 t h1
   rw [if_pos h1,if_neg h2,if_pos h1]
  ·rw [if_neg h1,if_neg h1]
 ·rw [mrg_os,mrg_os (x:=x) (s:=s),mrg_os (x:=x),mrg_os (x:=y) (s:=s)]
  by_cases hT:id∈y.T
  ·by_cases hT':id∈x.T
   ·have e1:=y2 id hT (fun hw=>hi.w1 id hw hT')
    have e2:=x2 id hT' (fun hw=>hi.w2 id hw hT)
    rw [hyx id hT']at e2
    simp [hT,hT',e1,e2]
   ·have:lk id x.r.os=none:=by
     cases hl:lk id x.r.os with
     |none=>rfl
     |some o=>
      have h1:=(x1 id o hl).resolve_left hT'
      have h2:=y3 id hT
      have h3:=hi.n3
      have h4:=hi.n4
      omega
    simp [hT,hT',this]
  ·by_cases hT':id∈x.T
   ·have:lk id y.r.os=none:=by
     cases hl:lk id y.r.os with
     |none=>rfl
     |some o=>exact absurd ((y1 id o hl).resolve_left hT) (hi.n1 id hT')
    simp [hT,hT',this]
   ·cases hly:lk id y.r.os with
    |none=>simp [hT,hT']
    |some o=>
     have h1:=(y1 id o hly).resolve_left hT
     cases hlx:lk id x.r.os with
     |none=>simp [hT']
     |some o'=>
      have h2:=(x1 id o' hlx).resolve_left hT'
      have h3:=hi.n3
      omega
def Tr (P:Program) (T:Tab) (all:Array Oper):List Ent→St→St→Prop
 |[],s,e=>Eqv s e
 |x::l,s,e=>Good P T all x s∧Tr P T all l (x.app s) e
theorem Tr.eqv:∀{l:List Ent} {s s':St},Tr P T all l s e→Eqv s s'→Tr P T all l s' e
 |[],_,_,h,h'=>h'.symm.trans h
 |_::_,_,_,h,h'=>⟨h.1.of (fun t _=>h'.1 t) (fun i _=>h'.2 i),h.2.eqv h'.app⟩
def cmB (all:Array Oper) (y x:Oper):Bool:=match y.op,x.op with
 | .lookup t (.tmp m) (.tmp k) false, .mapEntry t' (.tmp m') (.tmp k')=>Nat.beq t t'&&(Nat.beq m m'&&(Nat.beq k k'&&(y.guard.isNone&&(x.guard.isNone&&y.apart all x))))
 |_,_=>false
structure Sh where
 i:Nat
 o:Oper
 T:List Nat
 W:List Nat
 B:Nat
 nx:Nat
def Ent.sh (x:Ent):Sh:=⟨x.i,x.o,x.T,x.W,x.B,x.r.nx⟩
theorem sh_eq {x y:Ent} (h:x.sh=y.sh):x.i=y.i∧x.o=y.o∧x.T=y.T∧x.W=y.W∧x.B=y.B∧x.r.nx=y.r.nx:=by
 simp only [Ent.sh,Sh.mk.injEq]at h
 exact h
theorem swapC {x y:Ent} (hy:Good P T all y s) (hx:Good P T all x (y.app s)) (hi:cmB all y.o x.o=true):Good P T all x s∧∃y':Ent,y'.sh=y.sh∧Good P T all y' (x.app s)∧Eqv (y'.app (x.app s)) (x.app (y.app s)):=by
 unfold cmB at hi
 split at hi
 case h_2=>cases hi
 rename_i t m k t' m' k' hyo hxo
 simp only [Bool.and_eq_true]at hi
 obtain⟨i1,i2,i3,i4,i5,i6⟩:=hi
 have i1:=Nat.eq_of_beq_eq_true i1
 have i2:=Nat.eq_of_beq_eq_true i2
 have i3:=Nat.eq_of_beq_eq_true i3
 subst i1;subst i2;subst i3
 obtain⟨a1,a2,a3⟩:=Oper.apart_spec i6
 have gy:y.o.guard=none:=by simpa using i4
 have gx:x.o.guard=none:=by simpa using i5
 have ey:∀z:Ent,z.o=y.o→∀s,Good P T all z s=Ex P T z s:=fun z hz s=>by unfold Good;rw [hz,gy]
 have ex:∀s,Good P T all x s=Ex P T x s:=fun s=>by unfold Good;rw [gx]
 rw [ey y rfl]at hy
 rw [ex]at hx
 obtain⟨y1,y2,y3,y4⟩:=hy
 have hym:m∈opT y.o:=by unfold opT;rw [hyo];simp [Op.operands]
 have hyk:k∈opT y.o:=by unfold opT;rw [hyo];simp [Op.operands]
 have hxm:m∈opT x.o:=by unfold opT;rw [hxo];simp [Op.operands]
 have hxk:k∈opT x.o:=by unfold opT;rw [hxo];simp [Op.operands]
 have y1':okL (lkD P (s.loc (opT y.o) y.T y.B) t ((s.loc (opT y.o) y.T y.B).get m) ((s.loc (opT y.o) y.T y.B).get k)) false y.o.dst (s.loc (opT y.o) y.T y.B) (fun r=>r=y.r):=by
  have:=y1
  unfold aop at this
  rw [hyo]at this
  exact this
 have hget:∀{s:St} {rd T':List Nat} {B t:Nat},t∈rd→(s.loc rd T' B).get t=s.get t:=fun{s rd T' B t} ht=>by
  simp only [St.get,St.loc,lk_pickL,if_pos ht]
 rw [hget hym,hget hyk]at y1'
 have hsos:∀id,lk id (s.loc (opT y.o) y.T y.B).os=if id∈y.T then lk id s.os else none:=fun id=>lk_pickL
 obtain⟨v,hv⟩:∃v,y.r=(s.loc (opT y.o) y.T y.B).put y.o.dst v:=by
  unfold okL at y1'
  split at y1'
  ·exact⟨_,y1'.symm⟩
  ·exact⟨_,y1'.symm⟩
  ·cases y1'
 have hros:∀{s:St} {d:Option Nat} {v:D},(s.put d v).os=s.os:=fun{s d v}=>by cases d<;>rfl
 have hrnx:∀{s:St} {d:Option Nat} {v:D},(s.put d v).nx=s.nx:=fun{s d v}=>by cases d<;>rfl
 have yos:∀id,lk id (y.app s).os=lk id s.os:=fun id=>by
  rw [mrg_os,hv,hros,hsos]
  by_cases h:id∈y.T
  ·rw [if_pos h,if_pos h];cases lk id s.os<;>rfl
  ·rw [if_neg h,if_neg h];rfl
 have hxs:Ex P T x s:=hx.of (fun t ht=>by
  rw [mrg_tm,if_neg]
  exact fun hd=>a1 t hd (opT_looks ht)) (fun id _=>yos id)
 obtain⟨x1,x2,x3,x4⟩:=hxs
 have x1':okE (mpE P (s.loc (opT x.o) x.T x.B) t ((s.loc (opT x.o) x.T x.B).get m) ((s.loc (opT x.o) x.T x.B).get k)) x.o.dst (fun r=>r=x.r):=by
  have:=x1
  unfold aop at this
  rw [hxo]at this
  exact this
 rw [hget hxm,hget hxk]at x1'
 cases hE:mpE P (s.loc (opT x.o) x.T x.B) t (s.get m) (s.get k)with
 |none=>rw [hE]at x1';cases x1'
 |some p=>
 obtain⟨sx,dx⟩:=p
 rw [hE]at x1'
 have hxr:x.r=sx.put x.o.dst dx:=x1'.symm
 unfold mpE at hE
 split at hE
 case h_2=>cases hE
 rename_i ks z kk id h1 h2 hm
 split at hE
 case h_2=>cases hE
 rename_i kt kv zc hl
 split at hE
 case isFalse=>cases hE
 rename_i hc
 obtain⟨rfl,hfit⟩:=hc
 cases hE
 rw [show(s.loc (opT x.o) x.T x.B).os=pickL x.T s.os from rfl,lk_pickL]at hl
 split at hl
 case isFalse=>cases hl
 rename_i hidT
 have hmv:lk m s.tm=some (.mp id):=by
  simp only [St.get]at hm
  cases hq:lk m s.tm with
  |none=>rw [hq]at hm;cases hm
  |some d=>rw [hq]at hm;exact congrArg some hm
 have hidY:id∈y.T:=y2.vals m _ hym hmv id (by simp [mids])
 have xos:∀j,lk j (x.app s).os=if j=id then some (.map kt (mzero kk (.c zc) kv))else lk j s.os:=fun j=>by
  rw [mrg_os,hxr,hros]
  show(lk j (upd id _ (pickL x.T s.os))).or _=_
  rw [lk_upd,lk_pickL]
  by_cases hj:j=id
  ·subst hj
   rw [lk_pickL,if_pos hidT,hl,if_pos ⟨rfl,rfl⟩,if_pos rfl];rfl
  ·rw [if_neg (fun h=>hj h.1),if_neg hj,lk_pickL]
   by_cases hT:j∈x.T
   ·rw [if_pos hT,if_pos hT];cases lk j s.os<;>rfl
   ·rw [if_neg hT,if_neg hT];rfl
 have xget:∀t',t'∈opT y.o→(x.app s).get t'=s.get t':=fun t' ht=>by
  simp only [St.get]
  rw [mrg_tm,if_neg]
  exact fun hd=>a3 t' hd (opT_looks ht)
 have hvv:v=(mlk kk kv).getD (.c zc)∨y.o.dst=none:=by
  have hlk:lkD P (s.loc (opT y.o) y.T y.B) t (s.get m) (s.get k)=some (mlk kk kv, .c zc):=by
   unfold lkD
   rw [h1,h2]
   simp only [hfit,if_true,hm,hsos,if_pos hidY,hl]
  rw [hlk]at y1'
  rw [hv]at y1'
  cases hd:y.o.dst with
  |none=>exact .inr rfl
  |some dd=>
   left
   rw [hd]at y1'
   have key:∀u,(s.loc (opT y.o) y.T y.B).put (some dd) u=(s.loc (opT y.o) y.T y.B).put (some dd) v→v=u:=fun u hu=>by
    simp only [St.put,St.mk.injEq,List.cons.injEq,Prod.mk.injEq,true_and,and_true]at hu
    exact hu.symm
   cases ho:mlk kk kv with
   |none=>rw [ho]at y1';exact key _ y1'
   |some u=>rw [ho]at y1';exact key _ y1'
 refine⟨by rw [ex];exact⟨x1,x2,x3,x4⟩,⟨y.i,y.o,y.T,y.W,y.B,((x.app s).loc (opT y.o) y.T y.B).put y.o.dst v⟩, ?_, ?_, ?_⟩
 ·simp only [Ent.sh,hrnx,hv];rfl
 ·rw [ey (⟨y.i,y.o,y.T,y.W,y.B,((x.app s).loc (opT y.o) y.T y.B).put y.o.dst v⟩:Ent) rfl]
  refine⟨?_,⟨y2.low,fun t' d' ht hd=> ?_,fun j o hj ho=> ?_,by rw [hrnx];exact Nat.le_refl _,fun j o ho=> ?_,fun t' ht=> ?_⟩,fun j hj _=> ?_,fun t' ht=> ?_⟩
  ·have hlk:lkD P ((x.app s).loc (opT y.o) y.T y.B) t (((x.app s).loc (opT y.o) y.T y.B).get m) (((x.app s).loc (opT y.o) y.T y.B).get k)=some (some ((mlk kk kv).getD (.c zc)), .c zc):=by
    rw [hget hym,hget hyk,xget m hym,xget k hyk]
    unfold lkD
    rw [h1,h2]
    have:lk id ((x.app s).loc (opT y.o) y.T y.B).os=some (.map kt (mzero kk (.c zc) kv)):=by
     show lk id (pickL y.T (x.app s).os)=_
     rw [lk_pickL,if_pos hidY,xos,if_pos rfl]
    simp only [hfit,if_true,hm,this,mlk_mzero]
   unfold aop
   simp only [hyo]
   show okL (lkD P ((x.app s).loc (opT y.o) y.T y.B) t (((x.app s).loc (opT y.o) y.T y.B).get m) (((x.app s).loc (opT y.o) y.T y.B).get k)) false y.o.dst ((x.app s).loc (opT y.o) y.T y.B) _
   rw [hlk]
   show((x.app s).loc (opT y.o) y.T y.B).put y.o.dst _=_
   rcases hvv with h|h
   ·rw [h];rfl
   ·rw [h];rfl
  ·refine y2.vals t' d' ht ?_
   rw [mrg_tm,if_neg (fun hd=>a3 t' hd (opT_looks ht))]at hd
   exact hd
  ·have ho':lk j (x.app s).os=some o:=ho
   rw [xos]at ho'
   split at ho'
   ·rename_i e
    cases ho'
    intro q hq
    have h0:=y2.obs id (.map kt kv) hidY hl
    refine h0 q ?_
    have hmz:∀{l:List (List C×D)},midsL ((mzero kk (.c zc) l).map (·.2))=midsL (l.map (·.2)):=by
     intro l
     induction l with
     |nil=>rfl
     |cons p l ih=>
      rw [mzero]
      split
      ·rfl
      ·rw [List.map_cons,List.map_cons,midsL,midsL,ih]
    simp only [mob]at hq⊢
    rwa [hmz]at hq
   ·exact y2.obs j o hj ho'
  ·rw [hros]at ho
   have ho':lk j (pickL y.T (x.app s).os)=some o:=ho
   rw [lk_pickL]at ho'
   split at ho'
   case isFalse=>cases ho'
   rename_i hj
   refine⟨.inl hj,fun q hq=> .inl ?_⟩
   rw [xos]at ho'
   split at ho'
   ·cases ho'
    have h0:=y2.obs id (.map kt kv) hidY hl
    refine h0 q ?_
    have hmz:∀{l:List (List C×D)},midsL ((mzero kk (.c zc) l).map (·.2))=midsL (l.map (·.2)):=by
     intro l
     induction l with
     |nil=>rfl
     |cons p l ih=>
      rw [mzero]
      split
      ·rfl
      ·rw [List.map_cons,List.map_cons,midsL,midsL,ih]
    simp only [mob]at hq⊢
    rwa [hmz]at hq
   ·exact y2.obs j o hj ho' q hq
  ·have h0:=y2.rv t' ht
   rw [hv]at h0
   have ht':y.o.dst=some t':=ht
   rw [hrnx]
   rw [hrnx]at h0
   have e:∀s':St,(s'.put y.o.dst v).get t'=v:=fun s'=>by
    simp only [St.get,St.put,ht',lk_cons,if_true,Option.getD_some]
   rw [e]at h0⊢
   exact h0
  ·rw [hros]
   show lk j (pickL y.T (x.app s).os)=_
   rw [lk_pickL,if_pos hj]
  ·have ht':y.o.dst=some t':=ht
   simp only [St.put,ht',lk_cons,if_true];rfl
 ·refine⟨fun t'=> ?_,fun j=> ?_⟩
  ·rw [mrg_tm,mrg_tm,mrg_tm,mrg_tm]
   by_cases h1:y.o.dst=some t'
   ·have h2:x.o.dst≠some t':=a2 t' h1
    rw [if_pos h1,if_neg h2,if_pos h1,hv]
    simp only [St.get,St.put,h1,lk_cons,if_true]
   ·rw [if_neg h1,if_neg h1]
  ·have e1:∀j,lk j ((⟨y.i,y.o,y.T,y.W,y.B,((x.app s).loc (opT y.o) y.T y.B).put y.o.dst v⟩:Ent).app (x.app s)).os=lk j (x.app s).os:=fun j=>by
    rw [mrg_os]
    show(lk j (((x.app s).loc (opT y.o) y.T y.B).put y.o.dst v).os).or (if j∈y.T then none else _)=_
    rw [hros]
    show(lk j (pickL y.T (x.app s).os)).or _=_
    rw [lk_pickL]
    by_cases h:j∈y.T
    ·rw [if_pos h,if_pos h];cases lk j (x.app s).os<;>rfl
    ·rw [if_neg h,if_neg h];rfl
   rw [e1,mrg_os,mrg_os (x:=x) (s:=y.app s),yos]
theorem Tr.front {x:Ent} {post:List Ent}:∀{pre:List Ent} {s:St},(∀y∈pre,Ind all y x∨cmB all y.o x.o=true)→Tr P T all (pre++x::post) s e→Good P T all x s∧∃pre':List Ent,pre'.map Ent.sh=pre.map Ent.sh∧Tr P T all (pre'++post) (x.app s) e
 |[],_,_,h=>⟨h.1,[],rfl,h.2⟩
 |y::pre,_,hi,h=>by
  obtain⟨h1,h2⟩:=h
  obtain⟨h3,pre',hp,h4⟩:=Tr.front (fun z hz=>hi z (by simp [hz])) h2
  rcases hi y (by simp)with h|h
  ·obtain⟨h5,h6,h7⟩:=swap h1 h3 h
   exact⟨h5,y::pre',by simp [hp],h6,h4.eqv h7.symm⟩
  ·obtain⟨h5,y',hy,h6,h7⟩:=swapC h1 h3 h
   exact⟨h5,y'::pre',by simp [hp,hy],h6,h4.eqv h7.symm⟩
theorem lookup_nx {y x:Oper} {z:Ent} (hz:z.o=y) (h:cmB all y x=true) (hg:Good P T all z s):z.r.nx=z.B:=by
 unfold cmB at h
 split at h
 case h_2=>cases h
 rename_i t m k t' m' k' hyo hxo
 simp only [Bool.and_eq_true]at h
 obtain⟨_,_,_,i4,_,_⟩:=h
 have gy:z.o.guard=none:=by rw [hz];simpa using i4
 unfold Good at hg
 rw [gy]at hg
 obtain⟨y1,_⟩:=hg
 unfold aop at y1
 rw [hz,hyo]at y1
 have hrnx:∀{s:St} {d:Option Nat} {v:D},(s.put d v).nx=s.nx:=fun{s d v}=>by cases d<;>rfl
 have y1':okL (lkD P (s.loc (opT y) z.T z.B) t ((s.loc (opT y) z.T z.B).get m) ((s.loc (opT y) z.T z.B).get k)) false y.dst (s.loc (opT y) z.T z.B) (fun r=>r=z.r):=y1
 unfold okL at y1'
 split at y1'
 ·rw [←show _=z.r from y1'];exact hrnx
 ·rw [←show _=z.r from y1'];exact hrnx
 ·cases y1'
theorem Tr.good:∀{l:List Ent} {s:St},Tr P T all l s e→∀x∈l,∃s',Good P T all x s'
 |[],_,_,x,hx=>by cases hx
 |y::l,s,h,x,hx=>by
  rcases List.mem_cons.1 hx with rfl|hx
  ·exact⟨s,h.1⟩
  ·exact h.2.good x hx
end
end Dm
