import Derived.Laws.BytesString
import Derived.Laws.StructEq
import Derived.WalkKit
set_option linter.unusedSimpArgs false
set_option linter.unusedVariables false
set_option linter.unusedSectionVars false
set_option linter.defProp false
set_option maxRecDepth 20000
set_option maxHeartbeats 4000000
noncomputable section
namespace Dm
def glv (_:Nat):Option (List Int):=none
open Go
inductive KK where
 |int (k:IntKind)
 |bool
 |str
deriving DecidableEq
inductive C where
 |bool (b:Bool)
 |int (k:IntKind) (n:Int)
 |flt (k:FloatKind) (x:Option Nat)
 |str (s:ByteArray)
 |sl (els:List (List C))
 |map (kt:List KK) (kv:List (List C×List C))
 |junk
def flo (k:FloatKind) (n:Nat):Option Nat:=if n=0 then some 0 else if(k.format.read n).isNaN=true then none else some n
def C.flat:C→Bool
 | .bool _=>true
 | .int _ _=>true
 | .str _=>true
 |_=>false
def cval:C→Value
 | .bool b=> .bool b
 | .int k n=> .int k n
 | .str s=> .string s
 |_=>undef
def valOf:List C→Value
 |[c]=>cval c
 |cs=> .agg (cs.map cval).toArray
def KK.fit:KK→C→Bool
 | .int k, .int k' _=>decide (k=k')
 | .bool, .bool _=>true
 | .str, .str _=>true
 |_,_=>false
def kfit:List KK→List C→Bool
 |[],[]=>true
 |k::ks,c::cs=>k.fit c&&kfit ks cs
 |_,_=>false
def EsOf (es:Array MapEntry) (kv:List (List C×List C)):Prop:=es.size=kv.length∧∀(i:Nat) (e:MapEntry) (x:List C×List C),es[i]? =some e→kv[i]? =some x→e.key=valOf x.1∧e.val=valOf x.2∧e.born=i
structure MapAt (w:World) (b:Nat) (kt:List KK) (kv kv':List (List C×List C)) (es:Array MapEntry):Prop where
 heap:w.heap[b]? =some (.map es es.size)
 es:EsOf es kv'
 perm:List.Perm kv' kv
 nd:(kv.map (·.1)).Nodup
 fit:∀x∈kv,kfit kt x.1=true∧x.2.all C.flat=true
inductive D where
 |undef
 |skip
 |c (x:C)
 |ref (id off:Nat)
 |eref (id n sz i off:Nat)
 |rp (cs:List C)
 |nilp
 |nilf
 |fn (f:Fn) (first captured:List D)
 |nil
 |csl (els:List (List C))
 |vec (id n:Nat)
 |view (id c sz lo hi:Nat)
 |mp (id:Nat)
 |nilm
 |agg (cs:List D)
 |tup (l:List D)
@[match_pattern] abbrev D.int (k:IntKind) (n:Int):D:= .c (.int k n)
@[match_pattern] abbrev D.bool (b:Bool):D:= .c (.bool b)
@[match_pattern] abbrev D.sl (els:List (List C)):D:= .c (.sl els)
inductive Ob where
 |box (cs:List D)
 |vec (hd:Bool) (sz:Nat) (e:TypeId) (els:List (List C))
 |map (kt:List KK) (kv:List (List C×D))
 |it (kv seen:List (List C×List C))
structure St where
 tm:List (Nat×D)
 os:List (Nat×Ob)
 nx:Nat
def lk {α:Type}:Nat→List (Nat×α)→Option α
 |_,[]=>none
 |n,(m,x)::l=>if n=m then some x else lk n l
inductive CRel (I:Nat→Prop) (w:World):Value→C→Prop where
 |bool (b:Bool):CRel I w (.bool b) (.bool b)
 |int (k:IntKind) (n:Int):CRel I w (.int k n) (.int k n)
 |flt (k:FloatKind) (n:Nat):CRel I w (.float k n) (.flt k (flo k n))
 |str (s:ByteArray):CRel I w (.string s) (.str s)
 |slnil (a:Option Addr) (cap:Nat) (hc:cap≤maxLen):CRel I w (.slice a 0 cap) (.sl [])
 |junk (v:Value) (h:v.oneCell'=true) (h':v.cells= #[v]):CRel I w v .junk
 |mapnil (kt:List KK):CRel I w (.map none) (.map kt [])
 |map (b:Nat) (kt:List KK) (kv kv':List (List C×List C)) (es:Array MapEntry) (hI:I b) (h:MapAt w b kt kv kv' es):CRel I w (.map (some b)) (.map kt kv)
 |sl (b off cap sz:Nat) (els:List (List C)) (vs:Nat→Nat→Value) (hI:I b) (hl:els.length≤cap) (hc:cap≤maxLen)
  (hsz:∀x∈els,x.length=sz)
  (hcell:∀(i j:Nat) (x:List C) (y:C),els[i]? =some x→x[j]? =some y→w.cell? ⟨b,off+i*sz+j,none⟩=some (vs i j))
  (hrel:∀(i j:Nat) (x:List C) (y:C),els[i]? =some x→x[j]? =some y→CRel I w (vs i j) y):
  CRel I w (.slice (some ⟨b,off,none⟩) els.length cap) (.sl els)
structure G where
 ρ:Nat→Option Nat
 κ:Nat→Option (Option Addr×Nat×Nat)
 I:Nat→Prop
inductive VRel (g:G) (w:World):Value→D→Prop where
 |undef (v:Value):VRel g w v .undef
 |skip:VRel g w undef .skip
 |c (v:Value) (x:C) (h:CRel g.I w v x):VRel g w v (.c x)
 |ref (b id off:Nat) (h:g.ρ id=some b):VRel g w (.pointer (some ⟨b,off,none⟩)) (.ref id off)
 |eref (b o id n sz i off:Nat) (a:Option Addr) (len cap:Nat) (h:g.κ id=some (a,len,cap)) (hn:n≤len)
  (hv:n=len→∃o',a=some ⟨b,o',none⟩∧o=o'+i*sz+off):VRel g w (.pointer (some ⟨b,o,none⟩)) (.eref id n sz i off)
 |rp (b off:Nat) (cs:List C) (vs:Nat→Value) (hI:g.I b)
  (hcell:∀(j:Nat) (y:C),cs[j]? =some y→w.cell? ⟨b,off+j,none⟩=some (vs j)∧CRel g.I w (vs j) y):VRel g w (.pointer (some ⟨b,off,none⟩)) (.rp cs)
 |nilp:VRel g w (.pointer none) .nilp
 |nilf:VRel g w .nilFunc .nilf
 |fn (f:Fn) (fi ca:Array Value) (dfi dca:List D) (h1:fi.size=dfi.length) (h2:ca.size=dca.length)
  (hfi:∀(i:Nat) (v:Value) (d:D),fi[i]? =some v→dfi[i]? =some d→VRel g w v d) (hca:∀(i:Nat) (v:Value) (d:D),ca[i]? =some v→dca[i]? =some d→VRel g w v d):
  VRel g w (.func f fi ca) (.fn f dfi dca)
 |nil:VRel g w (.slice none 0 0) .nil
 |csl (a:Option Addr) (els:List (List C)) (h:CRel g.I w (.slice a els.length els.length) (.sl els)):
  VRel g w (.slice a els.length els.length) (.csl els)
 |vec (a':Option Addr) (cap' id n:Nat) (a:Option Addr) (len cap:Nat) (h:g.κ id=some (a,len,cap)) (hn:n≤len) (hm:n≤maxLen)
  (ha:n=0∨∃b o,a'=some ⟨b,o,none⟩) (hv:n=len→a'=a∧cap'=cap):VRel g w (.slice a' n cap') (.vec id n)
 |view (a':Option Addr) (cap' id c sz lo hi:Nat) (a:Option Addr) (len cap:Nat) (h:g.κ id=some (a,len,cap)) (hc:c≤len) (hl:lo≤hi) (hh:hi≤c) (hm:c≤maxLen)
  (hv:c=len→cap=c∧cap'=c - lo∧(a=none→a'=none)∧∀b o,a=some ⟨b,o,none⟩→(lo<c∨lo=0→a'=some ⟨b,o+lo*sz,none⟩)∧∃o',a'=some ⟨b,o',none⟩):VRel g w (.slice a' (hi - lo) cap') (.view id c sz lo hi)
 |mp (b id:Nat) (h:g.ρ id=some b):VRel g w (.map (some b)) (.mp id)
 |nilm:VRel g w (.map none) .nilm
 |agg (vs:Array Value) (ds:List D) (h:vs.size=ds.length) (hp:∀(i:Nat) (v:Value) (d:D),vs[i]? =some v→ds[i]? =some d→VRel g w v d):VRel g w (.agg vs) (.agg ds)
 |tup (vs:Array Value) (ds:List D) (h:vs.size=ds.length) (hp:∀(i:Nat) (v:Value) (d:D),vs[i]? =some v→ds[i]? =some d→VRel g w v d):VRel g w (.tuple vs) (.tup ds)
structure G.Le (g g':G):Prop where
 ρ:∀id b,g.ρ id=some b→g'.ρ id=some b
 κ:∀id a l c,g.κ id=some (a,l,c)→∃a' l' c',g'.κ id=some (a',l',c')∧l≤l'∧(l=l'→a=a'∧c=c')
 I:∀b,g.I b→g'.I b
theorem G.Le.refl (g:G):g.Le g:=⟨fun _ _ h=>h,fun _ a l c h=>⟨a,l,c,h,Nat.le_refl _,fun _=>⟨rfl,rfl⟩⟩,fun _ h=>h⟩
theorem G.Le.trans {g g' g'':G} (h:g.Le g') (h':g'.Le g''):g.Le g'' where
 ρ id b hb:=h'.ρ id b (h.ρ id b hb)
 κ id a l c hk:=by
  obtain⟨a',l',c',h1,h2,h3⟩:=h.κ id a l c hk
  obtain⟨a'',l'',c'',h4,h5,h6⟩:=h'.κ id a' l' c' h1
  refine⟨a'',l'',c'',h4,Nat.le_trans h2 h5,fun e=> ?_⟩
  have e1:l=l':=by omega
  have e2:l'=l'':=by omega
  exact⟨(h3 e1).1.trans (h6 e2).1,(h3 e1).2.trans (h6 e2).2⟩
 I b hb:=h'.I b (h.I b hb)
def Keeps (I:Nat→Prop) (w w':World):Prop:=∀b,I b→w'.heap[b]? =w.heap[b]?
theorem Keeps.cell {I:Nat→Prop} {w w':World} (h:Keeps I w w') {b off:Nat} (hb:I b):w'.cell? ⟨b,off,none⟩=w.cell? ⟨b,off,none⟩:=by
 simp only [World.cell?,h b hb]
theorem CRel.mono {I I':Nat→Prop} {w w':World} {v:Value} {x:C} (h:CRel I w v x) (hk:Keeps I w w') (hI:∀b,I b→I' b):CRel I' w' v x:=by
 induction h with
 |bool b=>exact .bool b
 |int k n=>exact .int k n
 |flt k n=>exact .flt k n
 |str s=>exact .str s
 |slnil a cap hc=>exact .slnil a cap hc
 |junk v h h'=>exact .junk v h h'
 |mapnil kt=>exact .mapnil kt
 |map b kt kv kv' es hb h=>exact .map b kt kv kv' es (hI b hb) ⟨by rw [hk b hb];exact h.heap,h.es,h.perm,h.nd,h.fit⟩
 |sl b off cap sz els vs hb hl hc hsz hcell hrel ih=>
  exact .sl b off cap sz els vs (hI b hb) hl hc hsz (fun i j x y h1 h2=>by rw [hk.cell hb];exact hcell i j x y h1 h2) ih
theorem VRel.mono {g g':G} {w w':World} {v:Value} {d:D} (h:VRel g w v d) (hk:Keeps g.I w w') (hg:g.Le g'):VRel g' w' v d:=by
 induction h with
 |undef v=>exact .undef v
 |skip=>exact .skip
 |c v x h=>exact .c v x (h.mono hk hg.I)
 |ref b id off h=>exact .ref b id off (hg.ρ _ _ h)
 |eref b o id n sz i off a len cap h hn hv=>
  obtain⟨a',l',c',h1,h2,h3⟩:=hg.κ _ _ _ _ h
  refine .eref b o id n sz i off a' l' c' h1 (Nat.le_trans hn h2) fun e=> ?_
  have e1:n=len:=by omega
  have e2:len=l':=by omega
  rw [←(h3 e2).1]
  exact hv e1
 |rp b off cs vs hI hcell=>
  exact .rp b off cs vs (hg.I _ hI) fun j y hy=>⟨by rw [hk.cell hI];exact(hcell j y hy).1,(hcell j y hy).2.mono hk hg.I⟩
 |nilp=>exact .nilp
 |nilf=>exact .nilf
 |fn f fi ca dfi dca h1 h2 _ _ ih1 ih2=>exact .fn f fi ca dfi dca h1 h2 ih1 ih2
 |nil=>exact .nil
 |csl a els h=>exact .csl a els (h.mono hk hg.I)
 |vec x y id n a len cap h hn hm ha hv=>
  obtain⟨a',l',c',h1,h2,h3⟩:=hg.κ _ _ _ _ h
  refine .vec x y id n a' l' c' h1 (Nat.le_trans hn h2) hm ha fun e=> ?_
  have e1:n=len:=by omega
  have e2:len=l':=by omega
  rw [←(h3 e2).1,←(h3 e2).2]
  exact hv e1
 |view x y id c sz lo hi a len cap h hc hl hh hm hv=>
  obtain⟨a',l',c',h1,h2,h3⟩:=hg.κ _ _ _ _ h
  refine .view x y id c sz lo hi a' l' c' h1 (Nat.le_trans hc h2) hl hh hm fun e=> ?_
  have e1:c=len:=by omega
  have e2:len=l':=by omega
  rw [←(h3 e2).1,←(h3 e2).2]
  exact hv e1
 |mp b id h=>exact .mp b id (hg.ρ _ _ h)
 |nilm=>exact .nilm
 |agg vs ds h _ ih=>exact .agg vs ds h ih
 |tup vs ds h _ ih=>exact .tup vs ds h ih
structure Env (w w':World):Prop where
 os:w'.os=w.os
 out:w'.output=w.output
 tape:w'.tape=w.tape
 drw:w.drawn≤w'.drawn
theorem Env.refl (w:World):Env w w:=⟨rfl,rfl,rfl,Nat.le_refl _⟩
theorem Env.trans {w w' w'':World} (h:Env w w') (h':Env w' w''):Env w w'':=⟨h'.os.trans h.os,h'.out.trans h.out,h'.tape.trans h.tape,Nat.le_trans h.drw h'.drw⟩
def Ext (w w':World):Prop:=w.heap.size≤w'.heap.size∧(∀b,b<w.heap.size→w'.heap[b]? =w.heap[b]?)∧Env w w'
theorem Ext.refl (w:World):Ext w w:=⟨Nat.le_refl _,fun _ _=>rfl, .refl w⟩
theorem Ext.cell {w w':World} (h:Ext w w') {b off:Nat} {v:Value} (hc:w.cell? ⟨b,off,none⟩=some v):w'.cell? ⟨b,off,none⟩=some v:=by
 have hb:b<w.heap.size:=by
  rcases Nat.lt_or_ge b w.heap.size with h1|h1
  ·exact h1
  ·simp [World.cell?,Array.getElem?_eq_none h1]at hc
 rw [←hc]
 simp only [World.cell?,h.2.1 b hb]
def Runs {α:Type} (P:Program) (e:Sem α) (w:World) (r:α):Prop:=∀w',Ext w w'→e.run P w'= .ok r w'
theorem Runs.here {α:Type} {P:Program} {e:Sem α} {w:World} {r:α} (h:Runs P e w r):e.run P w= .ok r w:=h w (.refl w)
def G.blk (g:G) (id:Nat):Ob→Option Nat
 | .box _=>g.ρ id
 | .map _ _=>g.ρ id
 | .it _ _=>g.ρ id
 | .vec .. =>match g.κ id with
  |some (some a,_,_)=>some a.block
  |_=>none
def OK (g:G) (w:World) (id:Nat):Ob→Prop
 | .box cs=>∃b e cells,g.ρ id=some b∧w.heap[b]? =some (.cells cells e (0,0))∧cells.size=cs.length∧∀(i:Nat) (v:Value) (d:D),cells[i]? =some v→cs[i]? =some d→VRel g w v d
 | .vec hd sz e els=>∃a cap,g.κ id=some (a,els.length,cap)∧els.length≤cap∧cap≤maxLen∧(∀x∈els,x.length=sz)∧
  ((a=none∧cap=0)∨∃(b off:Nat) (cells:Array Value) (vs:Nat→Nat→Value),a=some ⟨b,off,none⟩∧w.heap[b]? =some (.cells cells e (0,0))∧off+cap*sz≤cells.size∧((hd=true→off=0∧cells.size=cap*sz)∧∀v∈cells.toList,v.oneCell'=true)∧
    ∀(i j:Nat) (x:List C) (y:C),els[i]? =some x→x[j]? =some y→cells[off+i*sz+j]? =some (vs i j)∧CRel g.I w (vs i j) y)
 | .map kt kv=>∃b es,g.ρ id=some b∧w.heap[b]? =some (.map es es.size)∧es.size=kv.length∧(kv.map (·.1)).Nodup∧(∀x∈kv,kfit kt x.1=true)∧
  ∀(i:Nat) (e:MapEntry) (x:List C×D),es[i]? =some e→kv[i]? =some x→e.key=valOf x.1∧e.born=i∧VRel g w e.val x.2
 | .it kv seen=>∃b,g.ρ id=some b∧((kv=[]∧seen=[]∧w.heap[b]? =some (.mapIter none 0 #[] 0))∨
  ∃mb kt kv' es ix,w.heap[b]? =some (.mapIter (some mb) es.size ix es.size)∧g.I mb∧MapAt w mb kt kv kv' es∧ix.size=seen.length∧
   ∀(i j:Nat) (x:List C×List C),ix[i]? =some j→seen[i]? =some x→kv'[j]? =some x)
def Own (g:G) (s:St) (b:Nat):Prop:=∃id o,lk id s.os=some o∧g.blk id o=some b
def plainOb:Obj→Bool
 | .cells _ _ _=>true
 | .map _ _=>true
 | .mapIter _ _ _ _=>true
 |_=>false
def Cel (w:World) (b:Nat):Prop:=∃o,w.heap[b]? =some o∧plainOb o=true
theorem Cel.of {w:World} {b:Nat} {cells:Array Value} {e:TypeId} {fz:Nat×Nat} (h:w.heap[b]? =some (.cells cells e fz)):Cel w b:=⟨_,h,rfl⟩
theorem Cel.lt {w:World} {b:Nat} (h:Cel w b):b<w.heap.size:=by
 obtain⟨o,h,_⟩:=h
 exact(Array.getElem?_eq_some_iff.1 h).1
theorem Cel.keep {w w':World} {b:Nat} (h:Cel w b) (hk:w'.heap[b]? =w.heap[b]?):Cel w' b:=by
 obtain⟨o,h,h'⟩:=h
 exact⟨o,hk.trans h,h'⟩
structure Cels (I:Nat→Prop) (w:World):Prop where
 cel:∀b,I b→Cel w b
 gl:∀n ns,glv n=some ns→I n∧∀(j:Nat) (x:Int),ns[j]? =some x→w.cell? ⟨n,j,none⟩=some (.int .i64 x)
instance {I:Nat→Prop} {w:World}:CoeFun (Cels I w) (fun _=>∀b,I b→Cel w b):=⟨Cels.cel⟩
theorem Cels.keep {I I':Nat→Prop} {w w':World} (h:Cels I w) (hI:∀b,I b→I' b) (hk:∀b,I b→w'.heap[b]? =w.heap[b]?) (hc:∀b,I' b→Cel w' b):Cels I' w':=
 ⟨hc,fun n ns hn=>⟨hI n (h.gl n ns hn).1,fun j x hx=>by
  have:=(h.gl n ns hn).2 j x hx
  simp only [World.cell?,hk n (h.gl n ns hn).1]at this⊢
  exact this⟩⟩
theorem Cels.same {I:Nat→Prop} {w w':World} (h:Cels I w) (hk:∀b,I b→w'.heap[b]? =w.heap[b]?):Cels I w':=h.keep (fun _ hb=>hb) hk fun b hb=>(h.cel b hb).keep (hk b hb)
structure RelO (g:G) (s:St) (w:World):Prop where
 ok:∀id o,lk id s.os=some o→OK g w id o
 apart:∀id o id' o' b,lk id s.os=some o→lk id' s.os=some o'→g.blk id o=some b→g.blk id' o'=some b→id=id'
 fresh:∀id,s.nx≤id→g.ρ id=none∧g.κ id=none
 imm:∀b,g.I b→b<w.heap.size∧¬Own g s b
 cel:Cels g.I w
structure Rel (δ:List Deferred) (g:G) (s:St) (a:Act) (w:World):Prop where
 tm:∀t d,lk t s.tm=some d→∃v,a.tmps[t]? =some v∧VRel g w v d
 defers:a.defers=δ
 o:RelO g s w
structure Step (g:G) (s:St) (w:World) (g':G) (s':St) (w':World):Prop where
 le:g.Le g'
 size:w.heap.size≤w'.heap.size
 same:∀b,b<w.heap.size→¬Own g s b→w'.heap[b]? =w.heap[b]?
 own:∀b,b<w.heap.size→¬Own g s b→¬Own g' s' b
 imm:∀b,b<w.heap.size→¬Own g s b→g'.I b→g.I b
 env:Env w w'
theorem Step.refl (g:G) (s:St) (w:World):Step g s w g s w:=⟨.refl g,Nat.le_refl _,fun _ _ _=>rfl,fun _ _ h=>h,fun _ _ _ h=>h, .refl w⟩
theorem Step.trans {g g' g'':G} {s s' s'':St} {w w' w'':World} (h:Step g s w g' s' w') (h':Step g' s' w' g'' s'' w''):Step g s w g'' s'' w'' where
 le:=h.le.trans h'.le
 size:=Nat.le_trans h.size h'.size
 same b hb ho:=(h'.same b (Nat.lt_of_lt_of_le hb h.size) (h.own b hb ho)).trans (h.same b hb ho)
 own b hb ho:=h'.own b (Nat.lt_of_lt_of_le hb h.size) (h.own b hb ho)
 imm b hb ho hi:=h.imm b hb ho (h'.imm b (Nat.lt_of_lt_of_le hb h.size) (h.own b hb ho) hi)
 env:=h.env.trans h'.env
theorem Step.keeps {g g':G} {s s':St} {w w':World} (h:Step g s w g' s' w') (ho:RelO g s w):Keeps g.I w w':=
 fun b hb=>h.same b (ho.imm b hb).1 (ho.imm b hb).2
theorem Step.vrel {g g':G} {s s':St} {w w':World} {v:Value} {d:D} (h:Step g s w g' s' w') (ho:RelO g s w) (hv:VRel g w v d):VRel g' w' v d:=
 hv.mono (h.keeps ho) h.le
open Go
def tyOf (P:Program) (t:TypeId):Option (Bool×Nat):=
 match P.underlying t,P.info? t with
 |some (.struct _),some i=>some (true,i.size)
 |some (.array _ _),some i=>some (true,i.size)
 |some _,some i=>some (false,i.size)
 |_,_=>none
def fldOf (P:Program) (t:TypeId) (f:Nat):Option Nat:=
 match P.underlying t with
 |some (.struct fs)=>match fs[f]? with
  |some d=>match P.info? d.type with
   |some i=>if i.size=0 then none else some d.offset
   |none=>none
  |none=>none
 |_=>none
def prtOf (P:Program) (t:TypeId) (f:Nat):Option (TypeId×Nat):=
 match P.underlying t with
 |some (.struct fs)=>match fs[f]? with
  |some d=>some (d.type,d.offset)
  |none=>none
 |_=>none
def elOf (P:Program) (t:TypeId):Option (TypeId×Nat×Nat):=
 match P.underlying t with
 |some (.slice e)=>match P.info? e with
  |some i=>some (e,i.size,i.bytes)
  |none=>none
 |_=>none
def arOf (P:Program) (t:TypeId):Option (Nat×TypeId×Nat):=
 match P.underlying t with
 |some (.array n e)=>match P.info? e with
  |some i=>some (n,e,i.size)
  |none=>none
 |_=>none
def inOf (P:Program) (t:TypeId):Option IntKind:=
 match P.underlying t with
 |some (.int k)=>some k
 |_=>none
def kdOf (P:Program) (t:TypeId):Option TypeDesc:=P.underlying t
def D.cells?:D→Option (List D)
 | .agg cs=>some cs
 | .undef=>none
 | .skip=>none
 | .tup _=>none
 |d=>some [d]
def D.one:D→Bool
 | .undef=>false
 | .skip=>false
 | .agg _=>false
 | .tup _=>false
 |_=>true
def D.toC:D→Option C
 | .c x=>some x
 | .nil=>some (.sl [])
 | .csl els=>some (.sl els)
 |_=>none
def D.toCs:List D→Option (List C)
 |[]=>some []
 |d::l=>match d.toC,D.toCs l with
  |some x,some xs=>some (x::xs)
  |_,_=>none
def valD1:Value→D
 | .bool b=> .bool b
 | .int k n=> .int k n
 | .float k n=> .c (.flt k (flo k n))
 | .string s=> .c (.str s)
 | .pointer none=> .nilp
 | .slice none 0 0=> .nil
 | .map none=> .nilm
 | .nilFunc=> .nilf
 |_=> .undef
def valD:Value→D
 | .agg cs=> .agg (cs.toList.map valD1)
 |v=>valD1 v
def zOf (P:Program) (t:TypeId):Option D:=
 match P.info? t with
 |some i=>match i.zero with
  |some v=>some (valD v)
  |none=>none
 |none=>none
def upd {α:Type}:Nat→α→List (Nat×α)→List (Nat×α)
 |_,_,[]=>[]
 |n,y,(m,x)::l=>if n=m then(m,y)::l else(m,x)::upd n y l
def St.get (s:St) (t:Nat):D:=(lk t s.tm).getD .undef
def St.put (s:St) (d:Option Nat) (v:D):St:=
 match d with
 |some t=>{s with tm:=(t,v)::s.tm}
 |none=>s
def St.ev (s:St):Operand→D
 | .tmp t=>s.get t
 | .const v=>valD v
 | .global n=>match glv n with
  |some ns=> .rp (ns.map (C.int .i64))
  |none=> .undef
 | .func f=> .fn (.func f) [] []
def setAt {α:Type} (cs:List α) (off:Nat) (vs:List α):List α:=cs.take off++vs++cs.drop (off+vs.length)
def zcOf (P:Program) (e:TypeId):Option (List C):=
 match zOf P e with
 |some d=>match d.cells? with
  |some vs=>D.toCs vs
  |none=>none
 |none=>none
def zc0 (P:Program) (e:TypeId):List C:=match zcOf P e with
 |some l=>l
 |none=>[]
def ldc (ty:Bool×Nat) (cs:List D) (off:Nat):Option D:=
 match ty with
 |(true,n)=>if off+n≤cs.length then some (.agg ((cs.drop off).take n))else none
 |(false,_)=>cs[off]?
def ldD (P:Program) (s:St) (t:TypeId):D→Option D
 | .ref id off=>match tyOf P t,lk id s.os with
  |some ty,some (.box cs)=>ldc ty cs off
  |_,_=>none
 | .eref id n sz i off=>match tyOf P t,lk id s.os with
  |some ty,some (.vec _ sz' e els)=>if n=els.length∧sz=sz'∧i<n then ldc ty ((els.getD i (zc0 P e)).map .c) off else none
  |_,_=>none
 | .rp cs=>match tyOf P t with
  |some ty=>ldc ty (cs.map .c) 0
  |none=>none
 |_=>none
def fadD (P:Program) (t:TypeId) (f:Nat):D→Option D
 | .ref id off=>match fldOf P t f with
  |some o=>some (.ref id (off+o))
  |none=>none
 | .eref id n sz i off=>match fldOf P t f with
  |some o=>some (.eref id n sz i (off+o))
  |none=>none
 | .rp cs=>match fldOf P t f with
  |some o=>some (.rp (cs.drop o))
  |none=>none
 |_=>none
def fieldD (P:Program) (t:TypeId) (f:Nat):D→Option D
 | .agg cs=>match prtOf P t f with
  |some (ty,o)=>match tyOf P ty with
   |some z=>ldc z cs o
   |none=>none
  |none=>none
 |_=>none
def Wide (z:Nat) (els:List (List C)):Prop:=∀x∈els,x.length=z
def iaD (P:Program) (t:TypeId):D→D→Option (Prop×D)
 | .c (.sl els), .int _ i=>match elOf P t with
  |some (e,z,_)=>some ((0≤i∧i<els.length)∧Wide z els, .rp (els.getD i.toNat (zc0 P e)))
  |none=>none
 | .csl els, .int _ i=>match elOf P t with
  |some (e,z,_)=>some ((0≤i∧i<els.length)∧Wide z els, .rp (els.getD i.toNat (zc0 P e)))
  |none=>none
 | .vec id n, .int _ i=>match elOf P t with
  |some (_,z,_)=>some (0≤i∧i<n, .eref id n z i.toNat 0)
  |none=>none
 | .ref id off, .int _ i=>match arOf P t with
  |some (n,_,z)=>some (0≤i∧i<n, .ref id (off+i.toNat*z))
  |none=>none
 | .rp cs, .int _ i=>match arOf P t with
  |some (n,_,z)=>some (0≤i∧i<n, .rp (cs.drop (i.toNat*z)))
  |none=>none
 |_,_=>none
def indexD (P:Program) (t:TypeId):D→D→Option (Prop×D)
 | .agg cs, .int _ i=>match arOf P t with
  |some (n,ty,z)=>match tyOf P ty with
   |some zz=>match ldc zz cs (i.toNat*z)with
    |some d=>some (0≤i∧i<n,d)
    |none=>none
   |none=>none
  |none=>none
 |_,_=>none
def iand (k:IntKind) (a b:Int):Int:=k.wrap (BitVec.ofInt k.bits a&&& BitVec.ofInt k.bits b).toNat
def ior (k:IntKind) (a b:Int):Int:=k.wrap (BitVec.ofInt k.bits a|||BitVec.ofInt k.bits b).toNat
def ixor (k:IntKind) (a b:Int):Int:=k.wrap (BitVec.ofInt k.bits a^^^BitVec.ofInt k.bits b).toNat
def iandn (k:IntKind) (a b:Int):Int:=k.wrap (BitVec.ofInt k.bits a&&& ~~~BitVec.ofInt k.bits b).toNat
def ibin (op:BinOp) (k:IntKind) (a b:Int):Option (Prop×D):=
 match op with
 | .add=>some (True, .int k (k.wrap (a+b)))
 | .sub=>some (True, .int k (k.wrap (a - b)))
 | .mul=>some (True, .int k (k.wrap (a*b)))
 | .quo=>some (b≠0, .int k (k.wrap (a.tdiv b)))
 | .rem=>some (b≠0, .int k (a.tmod b))
 | .and=>some (True, .int k (iand k a b))
 | .or=>some (True, .int k (ior k a b))
 | .xor=>some (True, .int k (ixor k a b))
 | .andNot=>some (True, .int k (iandn k a b))
 | .eql=>some (True, .bool (decide (a=b)))
 | .neq=>some (True, .bool (!decide (a=b)))
 | .lss=>some (True, .bool (decide (a<b)))
 | .leq=>some (True, .bool (decide (a≤b)))
 | .gtr=>some (True, .bool (decide (b<a)))
 | .geq=>some (True, .bool (decide (b≤a)))
 |_=>none
def ishift (op:BinOp) (k:IntKind) (a b:Int):Option (Prop×D):=
 match op with
 | .shl=>some (0≤b, .int k (k.wrap (a*2^(min b.toNat k.bits))))
 | .shr=>some (0≤b, .int k (a.fdiv (2^(min b.toNat k.bits))))
 |_=>none
def isShift:BinOp→Bool
 | .shl=>true
 | .shr=>true
 |_=>false
def eqC:Nat→C→C→Option Bool
 |0, .int k a, .int k' b=>if k=k' then some (a==b)else none
 |1, .bool a, .bool b=>some (a==b)
 |2, .str a, .str b=>some (a==b)
 |_,_,_=>none
def eqCells:List (Nat×Nat)→List D→List D→Option Bool
 |[],_,_=>some true
 |(o,k)::l,xs,ys=>match xs[o]?,ys[o]? with
  |some (.c x),some (.c y)=>match eqC k x y,eqCells l xs ys with
   |some b,some b'=>some (b&&b')
   |_,_=>none
  |_,_=>none
def leafK (P:Program) (t:TypeId):Option Nat:=match P.underlying t,tyOf P t with
 |some (.int _),some (false,_)=>some 0
 |some .bool,some (false,_)=>some 1
 |some .string,some (false,_)=>some 2
 |_,_=>none
def leafs (P:Program):List Field→Option (List (Nat×Nat))
 |[]=>some []
 |f::l=>match leafK P f.type,leafs P l with
  |some k,some ks=>if f.name= "_" then none else some ((f.offset,k)::ks)
  |_,_=>none
def eqOf (P:Program) (t:TypeId):Option (List (Nat×Nat)):=match P.underlying t with
 |some (.struct fs)=>if P.stoodInHeld t=false∧P.eqGuardType P.depth t=false then leafs P fs.toList else none
 |_=>none
def eqD (P:Program) (t:TypeId) (xs ys:List D):Option Bool:=match eqOf P t with
 |some l=>eqCells l xs ys
 |none=>none
def far (op:BinOp) (a b:Option Nat):Option Nat:=match a,b with
 |some x,some y=>match op with
  | .add=>(FloatKind.f64.format.add x y).bind (flo .f64)
  | .sub=>(FloatKind.f64.format.sub x y).bind (flo .f64)
  | .mul=>(FloatKind.f64.format.mul x y).bind (flo .f64)
  |_=>(FloatKind.f64.format.div x y).bind (flo .f64)
 |_,_=>none
def faD (op:BinOp) (x y:D):Option D:=match x,y with
 | .c (.flt .f64 a), .c (.flt .f64 b)=>match op with
  | .add=>some (.c (.flt .f64 (far .add a b)))
  | .sub=>some (.c (.flt .f64 (far .sub a b)))
  | .mul=>some (.c (.flt .f64 (far .mul a b)))
  | .quo=>some (.c (.flt .f64 (far .quo a b)))
  |_=>none
 |_,_=>none
def ford (a b:Option Nat):Option Ordering:=match a,b with
 |some x,some y=>FloatKind.f64.format.order x y
 |_,_=>none
def fcmp (op:BinOp) (a b:Option Nat):Option Bool:=match op with
 | .eql=>some (ford a b==some .eq)
 | .neq=>some (ford a b != some .eq)
 | .lss=>some (ford a b==some .lt)
 | .leq=>some (ford a b==some .lt||ford a b==some .eq)
 | .gtr=>some (ford a b==some .gt)
 | .geq=>some (ford a b==some .gt||ford a b==some .eq)
 |_=>none
def fneg (a:Option Nat):Option Nat:=match a with
 |some x=>flo .f64 (Op.negFloat .f64 x)
 |none=>none
def fofi (n:Int):Option Nat:=flo .f64 (FloatKind.f64.nearest n)
def binD (P:Program) (op:BinOp) (t:TypeId) (x y:D):Option (Prop×D):=
 match x,y with
 | .int k a, .int k' b=>if isShift op=true then ishift op k a b else if k=k' then ibin op k a b else none
 | .bool a, .bool b=>match kdOf P t,op with
  |some .bool, .eql=>some (True, .bool (a==b))
  |some .bool, .neq=>some (True, .bool (!(a==b)))
  |_,_=>none
 | .agg xs, .agg ys=>match eqD P t xs ys,op with
  |some b, .eql=>some (True, .bool b)
  |some b, .neq=>some (True, .bool (!b))
  |_,_=>none
 | .c (.flt .f64 a), .c (.flt .f64 b)=>match fcmp op a b with
  |some b=>some (True, .bool b)
  |none=>none
 | .c (.str a), .c (.str b)=>match op with
  | .eql=>some (True, .bool (a==b))
  | .neq=>some (True, .bool (!(a==b)))
  |_=>none
 |_,_=>none
def octs:List (List C)→Option (List UInt8)
 |[]=>some []
 |[.int .u8 n]::l=>match octs l with
  |some bs=>some (UInt8.ofNat n.toNat::bs)
  |none=>none
 |_::_=>none
def b2sOf (P:Program) (a b:TypeId):Bool:=match P.underlying a,P.underlying b with
 |some (.slice e),some .string=>match P.underlying e,P.info? e with
  |some (.int .u8),some i=>decide (i.size=1)
  |_,_=>false
 |_,_=>false
def b2sD (P:Program) (a b:TypeId) (els:List (List C)):Option D:=match b2sOf P a b with
 |true=>match octs els with
  |some bs=>some (.c (.str ⟨bs.toArray⟩))
  |none=>none
 |false=>none
def unD (op:UnOp) (x:D):Option D:=
 match op,x with
 | .not, .bool b=>some (.bool (!b))
 | .neg, .int k n=>some (.int k (k.wrap (0 - n)))
 | .neg, .c (.flt .f64 a)=>some (.c (.flt .f64 (fneg a)))
 |_,_=>none
def convD (P:Program) (a b:TypeId) (x:D):Option D:=
 match x with
 | .int _ n=>match kdOf P a,inOf P b with
  |some _,some k=>some (.int k (k.wrap n))
  |some _,none=>match kdOf P b with
   |some (.float .f64)=>some (.c (.flt .f64 (fofi n)))
   |_=>none
  |_,_=>none
 | .c (.sl els)=>b2sD P a b els
 | .csl els=>b2sD P a b els
 | .nil=>b2sD P a b []
 |_=>none
def extD (x:D) (i:Nat):Option D:=
 match x with
 | .tup l=>l[i]?
 |_=>none
def lenD (x:D):Option (Prop×D):=
 match x with
 | .c (.sl els)=>some ((els.length:Int)≤9223372036854775807, .int .i64 els.length)
 | .csl els=>some ((els.length:Int)≤9223372036854775807, .int .i64 els.length)
 | .nil=>some (True, .int .i64 0)
 | .vec _ n=>some ((n:Int)≤9223372036854775807, .int .i64 n)
 | .view _ _ _ lo hi=>some (((hi - lo:Nat):Int)≤9223372036854775807, .int .i64 ((hi - lo:Nat):Int))
 |_=>none
def minD (l:List D):Option D:=
 match l with
 |[.int k a, .int _ b]=>some (.int k (if b<a then b else a))
 |_=>none
def maxD (l:List D):Option D:=
 match l with
 |[.int k a, .int _ b]=>some (.int k (if b>a then b else a))
 |_=>none
def sliceD (P:Program) (t:TypeId) (x:D) (lo hi mx:Option D):Option (Prop×D):=
 match x,elOf P t with
 | .c (.sl els),some (_,z,_)=>
  match lo,hi,mx with
  |none,none,none=>some (True, .c (.sl els))
  |none,some (.int _ h),none=>some (0≤h∧h≤els.length, .c (.sl (els.take h.toNat)))
  |some (.int _ l),none,none=>some ((0≤l∧l≤els.length)∧Wide z els, .c (.sl (els.drop l.toNat)))
  |some (.int _ l),some (.int _ h),none=>some ((0≤l∧l≤h∧h≤els.length)∧Wide z els, .c (.sl ((els.take h.toNat).drop l.toNat)))
  |none,some (.int _ h),some (.int _ m)=>some (0≤h∧h≤els.length∧m=h, .csl (els.take h.toNat))
  |_,_,_=>none
 | .nil,some _=>
  match lo,hi,mx with
  |none,some (.int _ h),none=>some (h=0, .nil)
  |some (.int _ l),none,none=>some (l=0, .nil)
  |_,_,_=>none
 |_,_=>none
def rmv (os:List (Nat×Ob)):List Nat→List (Nat×Ob)
 |[]=>os
 |i::l=>rmv (os.filter fun x=>x.1 != i) l
def layFs (ok:TypeId→Option (List KK)):Nat→List Field→Option (List KK)
 |_,[]=>some []
 |o,f::l=>if f.name= "_" ∨f.offset≠o then none else match ok f.type with
  |some ks=>if ks.length=0 then none else match layFs ok (o+ks.length) l with
   |some r=>some (ks++r)
   |none=>none
  |none=>none
def klay (P:Program):Nat→TypeId→Option (List KK)
 |0,_=>none
 |n+1,t=>match P.underlying t,tyOf P t with
  |some (.int k),some (false,1)=>some [.int k]
  |some .bool,some (false,1)=>some [.bool]
  |some .string,some (false,1)=>some [.str]
  |some (.struct fs),some (true,m)=>if P.stoodInHeld t=false then match layFs (klay P n) 0 fs.toList with
   |some ks=>if ks.length=m then some ks else none
   |none=>none
   else none
  |_,_=>none
def kkOf (P:Program) (t:TypeId):Option (List KK):=match klay P 20 t,tyOf P t with
 |some ks,some (ag,_)=>if ag= !decide (ks.length=1)then some ks else none
 |_,_=>none
def mapOf (P:Program) (t:TypeId):Option (List KK×D):=match P.underlying t with
 |some (.map k e)=>match kkOf P k,zOf P e with
  |some ks,some z=>some (ks,z)
  |_,_=>none
 |_=>none
def dOf:List C→D
 |[c]=> .c c
 |cs=> .agg (cs.map .c)
def keyD:D→Option (List C)
 | .c x=>some [x]
 | .agg l=>match D.toCs l with
  |some cs=>if cs.length=1 then none else some cs
  |none=>none
 |_=>none
open Classical in
noncomputable def mlk (k:List C):List (List C×D)→Option D
 |[]=>none
 |(k',d)::l=>if k=k' then some d else mlk k l
open Classical in
noncomputable def mset (k:List C) (v:D):List (List C×D)→List (List C×D)
 |[]=>[(k,v)]
 |(k',d)::l=>if k=k' then(k',v)::l else(k',d)::mset k v l
def kvD (kv:List (List C×List C)):List (List C×D):=kv.map fun x=>(x.1,dOf x.2)
def flatD (d:D):Option (List C):=match keyD d with
 |some cs=>if cs.all C.flat=true then some cs else none
 |none=>none
def kvC:List (List C×D)→Option (List (List C×List C))
 |[]=>some []
 |(k,d)::l=>match flatD d,kvC l with
  |some v,some r=>some ((k,v)::r)
  |_,_=>none
noncomputable def lkD (P:Program) (s:St) (t:TypeId) (m key:D):Option (Option D×D):=
 match mapOf P t,keyD key with
 |some (ks,z),some k=>if kfit ks k=true then match m with
  | .mp id=>match lk id s.os with
   |some (.map kt kv)=>if kt=ks then some (mlk k kv,z)else none
   |_=>none
  | .c (.map kt kv)=>if kt=ks then some (mlk k (kvD kv),z)else none
  | .nilm=>some (none,z)
  |_=>none
  else none
 |_,_=>none
noncomputable def mpU (P:Program) (s:St) (t:TypeId) (m key v:D):Option St:=
 match mapOf P t,keyD key,m with
 |some (ks,_),some k, .mp id=>match lk id s.os,v.cells? with
  |some (.map kt kv),some _=>if kt=ks∧kfit ks k=true then some {s with os:=upd id (.map kt (mset k v kv)) s.os}else none
  |_,_=>none
 |_,_,_=>none
open Classical in
noncomputable def mpos (k:List C):List (List C×D)→Nat
 |[]=>0
 |(k',_)::l=>if k=k' then 0 else mpos k l+1
open Classical in
noncomputable def mzero (k:List C) (z:D):List (List C×D)→List (List C×D)
 |[]=>[(k,z)]
 |(k',d)::l=>if k=k' then(k',d)::l else(k',d)::mzero k z l
def mputAt:Nat→D→List (List C×D)→List (List C×D)
 |_,_,[]=>[]
 |0,v,(k,_)::l=>(k,v)::l
 |n+1,v,x::l=>x::mputAt n v l
noncomputable def mpE (P:Program) (s:St) (t:TypeId) (m key:D):Option (St×D):=
 match mapOf P t,keyD key,m with
 |some (ks,z),some k, .mp id=>match lk id s.os,z with
  |some (.map kt kv), .c _=>if kt=ks∧kfit ks k=true then some ({s with os:=upd id (.map kt (mzero k z kv)) s.os}, .tup [(mlk k kv).getD z, .int .i64 (mpos k kv:Nat)])else none
  |_,_=>none
 |_,_,_=>none
def esU (s:St) (m st v:D):Option St:=match m,st,v.cells? with
 | .mp id, .c (.int .i64 i),some _=>match lk id s.os with
  |some (.map kt kv)=>if 0≤i∧i<kv.length then some {s with os:=upd id (.map kt (mputAt i.toNat v kv)) s.os}else none
  |_=>none
 |_,_,_=>none
def St.nw (s:St) (d:Option Nat) (o:Ob) (v:D):St:=(⟨s.tm,(s.nx,o)::s.os,s.nx+1⟩:St).put d v
def mkM (P:Program) (s:St) (t:TypeId) (d:Option Nat) (r:Option D):Option St:=
 match mapOf P t,r with
 |some (ks,_),none=>some (s.nw d (.map ks []) (.mp s.nx))
 |some (ks,_),some (.c (.int _ _))=>some (s.nw d (.map ks []) (.mp s.nx))
 |_,_=>none
def rngM (P:Program) (s:St) (t:TypeId) (d:Option Nat) (m:D):Option St:=
 match mapOf P t with
 |some _=>match m with
  | .nilm=>some (s.nw d (.it [] []) (.ref s.nx 0))
  | .c (.map _ kv)=>some (s.nw d (.it kv []) (.ref s.nx 0))
  | .mp id=>match lk id s.os with
   |some (.map _ kv)=>match kvC kv with
    |some kv'=>some ((⟨s.tm,rmv s.os [id],s.nx⟩:St).nw d (.it kv' []) (.ref s.nx 0))
    |none=>none
   |_=>none
  |_=>none
 |none=>none
def itM (s:St) (x:D):Option (Nat×List (List C×List C)×List (List C×List C)):=match x with
 | .ref id 0=>match lk id s.os with
  |some (.it kv seen)=>some (id,kv,seen)
  |_=>none
 |_=>none
def enM (s:St) (x:D):Option D:=match itM s x with
 |some (_,_,seen)=>match seen.getLast? with
  |some y=>some (.tup [dOf y.1,dOf y.2])
  |none=>none
 |none=>none
def stD (P:Program) (s:St) (t:TypeId) (p v:D):Option St:=
 match p with
 | .ref id off=>match tyOf P t,lk id s.os,v.cells? with
  |some (_,n),some (.box cs),some vs=>if vs.length=n∧off+n≤cs.length∧vs.all D.one=true then some {s with os:=upd id (.box (setAt cs off vs)) s.os}else none
  |_,_,_=>none
 | .eref id n sz i off=>match tyOf P t,lk id s.os,v.cells? with
  |some (_,m),some (.vec hd sz' e els),some vs=>match D.toCs vs with
   |some xs=>if xs.length=m∧n=els.length∧sz=sz'∧i<n∧off+m≤sz then some {s with os:=upd id (.vec hd sz' e (els.set i (setAt (els.getD i (zc0 P e)) off xs))) s.os}else none
   |none=>none
  |_,_,_=>none
 |_=>none
def St.bx (s:St) (d:Option Nat) (cs:List D):St:=
 {tm:=match d with|some t=>(t, .ref s.nx 0)::s.tm|none=>s.tm,os:=(s.nx, .box cs)::s.os,nx:=s.nx+1}
def St.vc (s:St) (d:Option Nat) (sz:Nat) (e:TypeId) (els:List (List C)):St:=
 {tm:=match d with|some t=>(t, .vec s.nx els.length)::s.tm|none=>s.tm,os:=(s.nx, .vec true sz e els)::s.os,nx:=s.nx+1}
open Go
def fillD (place:Nat→Option (Nat×Nat)) (cells:List D):List (Nat×D)→Option (List D)
 |[]=>some cells
 |(i,v)::rest=>match place i,v.cells? with
  |some (off,size),some vs=>if vs.length=size∧off+vs.length≤cells.length then fillD place (setAt cells off vs) rest else none
  |_,_=>none
def plcOf (P:Program) (t:TypeId) (i:Nat):Option (Nat×Nat):=
 match P.underlying t with
 |some (.struct fs)=>match fs[i]? with
  |some d=>match P.info? d.type with
   |some k=>some (d.offset,k.size)
   |none=>none
  |none=>none
 |some (.array _ e)=>match P.info? e with
  |some k=>some (i*k.size,k.size)
  |none=>none
 |_=>none
def bldOk (P:Program) (t:TypeId):Bool:=
 match P.underlying t with
 |some (.struct fs)=>fs.toList.all fun d=>(P.info? d.type).isSome
 |some (.array _ e)=>(P.info? e).isSome
 |_=>false
def bldOf (P:Program) (t:TypeId):Option (List D):=
 match zOf P t with
 |some (.agg cs)=>if bldOk P t=true then some cs else none
 |_=>none
def buildD (P:Program) (t:TypeId) (ps:List (Nat×D)):Option D:=
 match bldOf P t with
 |some cs=>match fillD (plcOf P t) cs ps with
  |some ds=>some (.agg ds)
  |none=>none
 |none=>none
def fillS (z:Nat) (els:List (List C)):List (Nat×D)→Option (List (List C))
 |[]=>some els
 |(i,v)::rest=>match v.cells? with
  |some vs=>match D.toCs vs with
   |some xs=>if xs.length=z∧i<els.length then fillS z (els.set i xs) rest else none
   |none=>none
  |none=>none
def bslD (P:Program) (t:TypeId) (len:Nat) (ps:List (Nat×D)):Option (Nat×TypeId×List (List C)):=
 match elOf P t with
 |some (e,z,_)=>match zcOf P e with
  |some zc=>if len*z≤16777216∧zc.length=z∧z≠0 then match fillS z (List.replicate len zc) ps with
   |some els=>some (z,e,els)
   |none=>none
   else none
  |none=>none
 |none=>none
def St.els (s:St):D→Option (List (List C))
 | .nil=>some []
 | .c (.sl els)=>some els
 | .csl els=>some els
 | .vec id n=>match lk id s.os with
  |some (.vec _ _ _ els)=>if n=els.length then some els else none
  |_=>none
 | .view id c sz lo hi=>match lk id s.os with
  |some (.vec _ sz' _ els)=>if c=els.length∧sz=sz' then some ((els.take hi).drop lo)else none
  |_=>none
 |_=>none
def fit (c sz:Nat) (els:List (List C)):List (List C):=(els++List.replicate (c - els.length) (List.replicate sz C.junk)).take c
def appM (P:Program) (s:St) (t u:TypeId) (x y:D):Option (Prop×Nat×Nat×TypeId×List (List C)):=
 match x with
 | .view id c sz lo hi=>match y,elOf P t,inOf P u,lk id s.os with
  | .c (.int _ k),some (e,z,bytes),some _,some (.vec _ sz' _ els)=>match zcOf P e with
   |some zc=>some (c=els.length∧sz=z∧sz'=z∧zc.length=z∧z≠0∧bytes≠0∧(0≤k∧(c:Int)<hi+k∧((hi - lo:Nat)+k)*(bytes:Int)≤140737488355328),hi - lo+k.toNat,z,e,(els.take hi).drop lo++List.replicate k.toNat zc)
   |none=>none
  |_,_,_,_=>none
 |_=>none
def appD (P:Program) (s:St) (t:TypeId) (d:Option Nat) (x y:D):Option (Prop×St):=
 match elOf P t,s.els y with
 |some (e,z,bytes),some new=>
  match zcOf P e with
  |some zc=>if zc.length=z∧z≠0∧bytes≠0 then
   match x with
   | .nil=>some (Wide z new∧new.length*bytes≤140737488355328,s.vc d z e new)
   | .csl els=>some (Wide z els∧Wide z new∧new≠[]∧(els.length+new.length)*bytes≤140737488355328,s.vc d z e (els++new))
   | .vec id n=>match lk id s.os with
    |some (.vec hd sz e' els)=>some (hd=true∧n=els.length∧sz=z∧e=e'∧Wide z new∧(els.length+new.length)*bytes≤140737488355328,
     ({s with os:=upd id (.vec hd sz e' (els++new)) s.os}:St).put d (.vec id (n+new.length)))
    |_=>none
   | .view id c sz lo hi=>match lk id s.os with
    |some (.vec hd sz' e' els)=>some (c=els.length∧sz=z∧sz'=z∧Wide z new∧hi+new.length≤c,
     ({s with os:=upd id (.vec hd sz' e' (fit c z (setAt els hi new))) s.os}:St).put d (.view id c sz lo (hi+new.length)))
    |_=>none
   |_=>none
   else none
  |none=>none
 |_,_=>none
def frzS (u:Nat) (s:St):St:=match lk u s.tm with
 |some (.vec id n)=>match lk id s.os with
  |some (.vec _ _ _ els)=>if n=els.length then⟨upd u (.c (.sl els)) s.tm,rmv s.os [id],s.nx⟩else s
  |_=>s
 |_=>s
def app8 (P:Program) (t:TypeId) (x:D) (d:Option Nat) (s:St):St:=match x with
 | .nil=>match elOf P t with
  |some (_,_,b)=>if b=1 then(match d with|some u=>frzS u s|none=>s)else s
  |none=>s
 |_=>s
def mkD (P:Program) (s:St) (t:TypeId) (d:Option Nat) (l c:D):Option (Prop×St):=
 match l,c,elOf P t with
 | .int _ l, .int _ c,some (e,z,bytes)=>match zcOf P e with
  |some zc=>some (0≤l∧l≤c∧c*bytes≤140737488355328∧zc.length=z∧z≠0∧bytes≠0,s.vc d z e (List.replicate l.toNat zc))
  |none=>none
 |_,_,_=>none
def okD (x:Option D) (d:Option Nat) (s:St) (K:St→Prop):Prop:=match x with|some v=>K (s.put d v)|none=>False
def okP (x:Option (Prop×D)) (d:Option Nat) (s:St) (K:St→Prop):Prop:=match x with|some (p,v)=>p∧K (s.put d v)|none=>False
def okH (x:Option (Prop×D)) (d:Option Nat) (s:St) (K:St→Prop):Prop:=match x with|some (h,v)=>h→K (s.put d v)|none=>False
def nilq (P:Program) (op:BinOp) (t:TypeId) (x y:D):Option (Bool×Prop):=
 match y,kdOf P t,op with
 | .nil,some (.slice _), .eql=>match x with
  | .c (.sl els)=>some (false,els=[])
  | .csl els=>some (false,els=[])
  | .vec _ n=>some (false,n=0)
  | .nil=>some (false,True)
  |_=>none
 | .nil,some (.slice _), .neq=>match x with
  | .c (.sl els)=>some (true,els=[])
  | .csl els=>some (true,els=[])
  | .vec _ n=>some (true,n=0)
  | .nil=>some (true,True)
  |_=>none
 |_,_,_=>none
def okU (x:Option (Bool×Prop)) (d:Option Nat) (s:St) (K:St→Prop) (A:Prop):Prop:=match x with
 |some (neg,p)=>∀b:Bool,(b=true→p)→K (s.put d (.bool (b^^neg)))
 |none=>A
def okA (x:Option D) (d:Option Nat) (s:St) (K:St→Prop) (A:Prop):Prop:=match x with|some v=>K (s.put d v)|none=>A
def okS (x:Option St) (K:St→Prop):Prop:=match x with|some s=>K s|none=>False
def okT (x:Option (Prop×St)) (K:St→Prop):Prop:=match x with|some (p,s)=>p∧K s|none=>False
def okV (x:Option (Nat×TypeId×List (List C))) (d:Option Nat) (s:St) (K:St→Prop):Prop:=match x with|some (z,e,els)=>K (s.vc d z e els)|none=>False
def okB (x:Option D) (d:Option Nat) (s:St) (K:St→Prop):Prop:=match x with
 |some v=>match v.cells? with
  |some cs=>K (s.bx d cs)
  |none=>False
 |none=>False
def pk (c a b:D) (d:Option Nat) (s:St) (K:St→Prop):Prop:=match c with
 | .bool x=>(x=true→K (s.put d a))∧(x=false→K (s.put d b))
 |_=>False
def nchk (x:D) (d:Option Nat) (s:St) (K:St→Prop):Prop:=match x with
 | .ref id off=>K (s.put d (.ref id off))
 | .eref id n sz i off=>K (s.put d (.eref id n sz i off))
 | .rp cs=>K (s.put d (.rp cs))
 | .fn (.func f) fi ca=>K (s.put d (.fn (.func f) fi ca))
 |_=>False
def cd (c:D) (A B:St→Prop) (s:St):Prop:=match c with
 | .bool b=>(b=true→A s)∧(b=false→B s)
 |_=>False
def St.rep (s:St) (t:Option Nat) (v:D):St:=match t with|some t=>{s with tm:=upd t v s.tm}|none=>s
def gtmp (all:Array Oper) (j:Nat):Option Nat:=match all[j]? with|some o=>o.dst|none=>none
def St.gd (s:St) (t:Option Nat):D:=match t with|some t=>s.get t|none=> .undef
def grd (t:Option Nat) (v:D) (w:Bool) (A B:St→Prop) (s:St):Prop:=match v with
 | .bool b=>(b=w→A (s.rep t (.bool w)))∧(b= !w→B (s.rep t (.bool !w)))
 | .skip=>B s
 |_=>False
def St.prune (s:St) (l:Option (List Nat)):St:=match l with
 |some l=>{s with tm:=l.filterMap fun t=>match lk t s.tm with|some d=>some (t,d)|none=>none}
 |none=>s
def ACall (P:Program) (f:FuncId) (ds:List D) (os:List (Nat×Ob)) (nx:Nat) (Q:D→List (Nat×Ob)→Nat→Prop):Prop:=
 (∃fn,P.funcs[f]? =some fn∧(fn.name== "runtime.NumGoroutine")=false∧fn.body.isNone=false)∧
 ∀(g:G) (w:World) (vs:Array Value),RelO g ⟨[],os,nx⟩ w→vs.size=ds.length→
  (∀(i:Nat) (v:Value) (d:D),vs[i]? =some v→ds[i]? =some d→VRel g w v d)→
  Calls P f vs w fun e w'=>∃v d g' os' nx',e= .returned v∧Q d os' nx'∧RelO g' ⟨[],os',nx'⟩ w'∧VRel g' w' v d∧Step g ⟨[],os,nx⟩ w g' ⟨[],os',nx'⟩ w'
structure StepN (N:Nat) (g:G) (s:St) (w:World) (g':G) (s':St) (w':World):Prop where
 ρ:∀id b,id<N→g.ρ id=some b→g'.ρ id=some b
 κ:∀id a l c,id<N→g.κ id=some (a,l,c)→∃a' l' c',g'.κ id=some (a',l',c')∧l≤l'∧(l=l'→a=a'∧c=c')
 I:∀b,g.I b→g'.I b
 size:w.heap.size≤w'.heap.size
 same:∀b,b<w.heap.size→¬Own g s b→w'.heap[b]? =w.heap[b]?
 own:∀b,b<w.heap.size→¬Own g s b→¬Own g' s' b
 imm:∀b,b<w.heap.size→¬Own g s b→g'.I b→g.I b
 env:Env w w'
def SWp (P:Program) (n N:Nat) (c:Code) (Q:Exit→St→Prop) (s:St):Prop:=
 ∀(δ:List Deferred) (g:G) (a:Act) (w:World),Rel δ g s a w→a.tmps.size=n→
  c.wp P (fun e a' w'=>∃g' s',Q e s'∧Rel δ g' s' a' w'∧a'.tmps.size=n∧StepN N g s w g' s' w') a w
def frz (s:St) (d:D):D×St:=match d with
 | .vec id n=>match lk id s.os with
  |some (.vec _ _ _ els)=>if n=els.length then(.c (.sl els),⟨s.tm,rmv s.os [id],s.nx⟩)else(.vec id n,s)
  |_=>(.vec id n,s)
 |d=>(d,s)
def cutV (P:Program) (s:St) (t:TypeId) (x:D) (lo hi mx:Option D):Option (Prop×D×St):=match x,lo,hi,mx with
 | .vec id n,some (.c (.int _ l)),none,none=>match elOf P t,lk id s.os with
  |some (_,z,_),some (.vec _ sz e els)=>if n=els.length∧sz=z then some (0≤l∧l≤els.length, .vec s.nx (els.drop l.toNat).length,⟨s.tm,(s.nx, .vec false sz e (els.drop l.toNat))::rmv s.os [id],s.nx+1⟩)else none
  |_,_=>none
 | .view id c sz lo hi,l,h,m=>match elOf P t,lk id s.os with
  |some (_,z,_),some (.vec _ sz' _ els)=>match l,h,m with
   |none,none,none=>some (c=els.length∧sz=z∧sz'=z, .view id c sz lo hi,s)
   |none,some (.c (.int _ b)),none=>some (c=els.length∧sz=z∧sz'=z∧0≤b∧(lo:Int)+b≤c, .view id c sz lo (lo+b.toNat),s)
   |some (.c (.int _ a)),none,none=>some (c=els.length∧sz=z∧sz'=z∧0≤a∧(lo:Int)+a≤hi, .view id c sz (lo+a.toNat) hi,s)
   |some (.c (.int _ a)),some (.c (.int _ b)),none=>some (c=els.length∧sz=z∧sz'=z∧0≤a∧a≤b∧(lo:Int)+b≤c, .view id c sz (lo+a.toNat) (lo+b.toNat),s)
   |_,_,_=>none
  |_,_=>none
 |_,_,_,_=>none
def bndV (P:Program) (s:St) (t:TypeId) (x:D) (lo hi mx:Option D):Option Prop:=match x,lo,hi,mx with
 | .vec id n,some (.c (.int _ l)),none,none=>match elOf P t,lk id s.os with
  |some _,some (.vec _ _ _ els)=>some (n=els.length∧0≤l∧l≤n)
  |_,_=>none
 | .view id c sz lo _,some (.c (.int _ l)),some (.c (.int _ h)),some (.c (.int _ m))=>match elOf P t,lk id s.os with
  |some _,some (.vec _ sz' _ els)=>some (c=els.length∧sz=sz'∧0≤l∧l≤h∧h≤m∧(lo:Int)+m≤c)
  |_,_=>none
 |_,_,_,_=>none
def St.vw (s:St) (d:Option Nat) (z:Nat) (e:TypeId) (c n:Nat) (els:List (List C)):St:=
 {tm:=match d with|some t=>(t, .view s.nx c z 0 n)::s.tm|none=>s.tm,os:=(s.nx, .vec true z e (fit c z els))::s.os,nx:=s.nx+1}
def okM (x:Option (Prop×Nat×Nat×TypeId×List (List C))) (d:Option Nat) (s:St) (K:St→Prop) (A:Prop):Prop:=match x with
 |some (p,n,z,e,els)=>p∧∀c:Nat,n≤c→c≤9223372036854775807→K (s.vw d z e c n els)
 |none=>A
def capD (s:St) (x:D):Option (Prop×D):=match x with
 | .view id c _ lo _=>match lk id s.os with
  |some (.vec _ _ _ els)=>some (c=els.length, .c (.int .i64 ((c - lo:Nat):Int)))
  |_=>none
 |_=>none
def lay (els:List (List C)) (lo:Nat) (new:List (List C)):List (List C):=setAt els lo new
def cpyD (P:Program) (s:St) (t:TypeId) (x y:D):Option (Prop×D×St):=match x with
 | .view id c sz lo hi=>match elOf P t,lk id s.os,s.els y with
  |some (_,z,_),some (.vec hd sz' e els),some new=>some (c=els.length∧sz=z∧sz'=z∧z≠0∧Wide z new, .c (.int .i64 ((min new.length (hi - lo):Nat):Int)),
   {s with os:=upd id (.vec hd sz' e (fit c z (lay els lo (new.take (hi - lo))))) s.os})
  |_,_,_=>none
 |_=>none
def clrD (P:Program) (s:St) (t:TypeId) (x:D):Option (Prop×D×St):=match x with
 | .view id c sz lo hi=>match elOf P t,lk id s.os with
  |some (e,z,_),some (.vec hd sz' e' els)=>match zcOf P e with
   |some zc=>some (c=els.length∧sz=z∧sz'=z∧z≠0∧zc.length=z, .tup [],
    {s with os:=upd id (.vec hd sz' e' (fit c z (setAt els lo (List.replicate (hi - lo) zc)))) s.os})
   |none=>none
  |_,_=>none
 |_=>none
def ovO (os:List (Nat×Ob)):D→Option Nat
 | .vec id n=>match lk id os with
  |some (.vec _ sz _ els)=>if n=els.length∧sz≠0 then some id else none
  |_=>none
 | .view id c sz' _ _=>match lk id os with
  |some (.vec _ sz _ els)=>if c=els.length∧sz'=sz∧sz≠0 then some id else none
  |_=>none
 |_=>none
def ovC (P:Program) (f:FuncId) (os:List (Nat×Ob)) (ds:List D):Prop:=match ds with
 |[x,y]=>match ovO os x,ovO os y with
  |some i,some j=>i≠j∧∃(fn:Func) (t r:TypeId) (e:TypeId×Nat×Nat),P.funcs[f]? =some fn∧(fn.name== "runtime.NumGoroutine")=false∧fn.body.isNone=true∧(Extern.findNext fn).isNone=true∧Extern.find fn=some (Extern.SlicesOverlaps.overlaps #[t,t] #[r])∧elOf P t=some e
  |_,_=>False
 |_=>False
def frb (P:Program) (f:FuncId):Prop:=∃(fn:Func),P.funcs[f]? =some fn∧(fn.name== "runtime.NumGoroutine")=false∧fn.body.isNone=true∧(Extern.findNext fn).isNone=true∧Extern.find fn=some (Extern.MathFloatBits.float64frombits)
def sub64F:Array Value→Sem Value:=(Extern.MathBitsCarry.rows.getD 1 ("",fun _=>pure undef)).2
def sb64 (P:Program) (f:FuncId):Prop:=∃(fn:Func),P.funcs[f]? =some fn∧(fn.name== "runtime.NumGoroutine")=false∧fn.body.isNone=true∧(Extern.findNext fn).isNone=true∧Extern.find fn=some sub64F
def xtK (P:Program) (f:FuncId) (ds:List D) (d:Option Nat) (s:St) (K:St→Prop):Prop:=match ds with
 |[.c (.int .u64 n)]=>frb P f∧K (s.put d (.c (.flt .f64 (flo .f64 n.toNat))))
 |[.c (.int .u64 x), .c (.int .u64 y), .c (.int .u64 b)]=>sb64 P f∧b=0∧K (s.put d (.tup [.c (.int .u64 (((x.toNat+18446744073709551616 - y.toNat - b.toNat) % 18446744073709551616:Nat):Int)), .c (.int .u64 (if x.toNat<y.toNat+b.toNat then 1 else 0))]))
 |ds=>ovC P f s.os ds∧K (s.put d (.c (.bool false)))
def okF (b:Bool) (p:Option Prop) (d:Option Nat) (s:St) (K:St→Prop) (A:Prop):Prop:=match b with
 |true=>match p with
  |some p=>p∧K (s.put d .undef)
  |none=>False
 |false=>A
def okQ (x:Option (Prop×D×St)) (d:Option Nat) (K:St→Prop) (A:Prop):Prop:=match x with
 |some (p,v,s)=>p∧K (s.put d v)
 |none=>A
def okE (x:Option (St×D)) (d:Option Nat) (K:St→Prop):Prop:=match x with
 |some (s',v)=>K (s'.put d v)
 |none=>False
def okL (x:Option (Option D×D)) (ok:Bool) (d:Option Nat) (s:St) (K:St→Prop):Prop:=match x with
 |some (some v,_)=>K (s.put d (if ok=true then .tup [v, .bool true]else v))
 |some (none,z)=>K (s.put d (if ok=true then .tup [z, .bool false]else z))
 |none=>False
def okN (x:Option (Nat×List (List C×List C)×List (List C×List C))) (d:Option Nat) (s:St) (K:St→Prop):Prop:=match x with
 |some (id,kv,seen)=>(∀y,y∈kv→y∉seen→K (({s with os:=upd id (.it kv (seen++[y])) s.os}:St).put d (.tup [.bool true,dOf y.1,dOf y.2])))∧((∀y,y∈kv→y∈seen)→K (s.put d (.tup [.bool false])))
 |none=>False
def pure1 (os:List (Nat×Ob)):D→Option D
 | .c x=>some (.c x)
 | .nil=>some (.c (.sl []))
 | .csl els=>some (.c (.sl els))
 | .vec id n=>match lk id os with
  |some (.vec _ _ _ els)=>if n=els.length then some (.c (.sl els))else none
  |_=>none
 | .mp id=>match lk id os with
  |some (.map kt kv)=>match kvC kv with
   |some kv'=>some (.c (.map kt kv'))
   |none=>none
  |_=>none
 |_=>none
def pures1 (os:List (Nat×Ob)):List D→Option (List D)
 |[]=>some []
 |d::l=>match pure1 os d,pures1 os l with
  |some x,some xs=>some (x::xs)
  |_,_=>none
def pure2 (os:List (Nat×Ob)):D→Option D
 | .agg l=>match pures1 os l with
  |some xs=>some (.agg xs)
  |none=>none
 | .fn f [] []=>some (.fn f [] [])
 |d=>pure1 os d
def pures2 (os:List (Nat×Ob)):List D→Option (List D)
 |[]=>some []
 |d::l=>match pure2 os d,pures2 os l with
  |some x,some xs=>some (x::xs)
  |_,_=>none
def vid1:D→List Nat
 | .vec id _=>[id]
 | .ref id _=>[id]
 | .mp id=>[id]
 |_=>[]
def vids1:List D→List Nat
 |[]=>[]
 |d::l=>vid1 d++vids1 l
def vid2:D→List Nat
 | .agg l=>vids1 l
 | .fn _ _ l=>vids1 l
 |d=>vid1 d
def vids2:List D→List Nat
 |[]=>[]
 |d::l=>vid2 d++vids2 l
def D.scal1:D→Bool
 | .c (.bool _)=>true
 | .c (.int _ _)=>true
 | .c (.flt _ _)=>true
 | .c (.str _)=>true
 |_=>false
def D.scal:D→Bool
 | .tup l=>l.all D.scal1
 | .agg l=>l.all D.scal1
 |d=>d.scal1
abbrev Fr:=List (Nat×TypeId×Bool×List (List C))
def news (nx:Nat):Fr→List (Nat×Ob)→List (Nat×Ob)
 |[],os=>os
 |(z,e,b,els)::l,os=>news (nx+1) l ((nx, .vec b z e els)::os)
def D.sh1 (k:Nat):D→D
 | .c x=> .c x
 | .nil=> .nil
 | .csl els=> .csl els
 | .vec id n=> .vec (id+k) n
 |_=> .undef
def D.sh2 (k:Nat):D→D
 | .agg l=> .agg (l.map (D.sh1 k))
 |d=>d.sh1 k
def D.sh3 (k:Nat):D→D
 | .tup l=> .tup (l.map (D.sh2 k))
 |d=>d.sh2 k
abbrev Tab:=List (Nat×(List D→Option (Prop×D×Fr)))
def shf (nx:Nat) (r:D):Fr→D
 |[]=>r
 |_::_=>r.sh3 nx
def D.fr1:D→Bool
 | .vec _ _=>true
 |d=>d.scal1
def D.fr2:D→Bool
 | .agg l=>l.all D.fr1
 |d=>d.fr1
def D.fr3:D→Bool
 | .tup l=>l.all D.fr2
 |d=>d.fr2
def C.sc:C→Bool
 | .bool _=>true
 | .int _ _=>true
 | .flt _ _=>true
 | .str _=>true
 |_=>false
def flatE (els:List (List C)):Prop:=∀x∈els,∀c∈x,c.sc=true
def flatF:Fr→Prop
 |[]=>True
 |(_,_,_,els)::l=>flatE els∧flatF l
def lnd (T:Tab) (f:FuncId):Bool:=(lk (3000000000+f) T).isSome
def look (T:Tab) (os:List (Nat×Ob)) (nx:Nat) (f:FuncId) (ds:List D):Option (Prop×D×List (Nat×Ob)×Nat):=
 match lk f T with
 |some sp=>match pures2 os ds with
  |some rs=>match sp rs with
   |some (p,r,fr)=>match lnd T f with
    |true=>some (p∧(r.fr3=true∧flatF fr∧fr≠[]),shf nx r fr,news nx fr os,nx+fr.length)
    |false=>some (p,shf nx r fr,news nx fr (if r.scal=true then os else rmv os (vids2 ds)),nx+fr.length)
   |none=>none
  |none=>none
 |none=>none
def fgt (T:Tab) (d:Option Nat):Bool:=match d with
 |some t=>(lk (1000000000+t) T).isSome
 |none=>false
def ovm (T:Tab) (f:FuncId):Bool:=(lk (2000000000+f) T).isSome
def XCall (P:Program) (T:Tab) (f:FuncId) (ds:List D) (os:List (Nat×Ob)) (nx:Nat) (Q:D→List (Nat×Ob)→Nat→Prop):Prop:=
 match look T os nx f ds with
 |some (p,r,os',nx')=>p∧Q r os' nx'
 |none=>ACall P f ds os nx Q
def TabS (P:Program) (T:Tab):Prop:=∀f ds os nx Q,XCall P T f ds os nx Q→ACall P f ds os nx Q
noncomputable def aop (P:Program) (T:Tab) (o:Oper) (s:St) (K:St→Prop):Prop:=
 match o.op with
 | .move x=>K (s.put o.dst (s.ev x))
 | .assign x=>K (s.put o.dst (s.ev x))
 | .pick c a b=>pk (s.ev c) (s.ev a) (s.ev b) o.dst s K
 | .alloc t=>okB (zOf P t) o.dst s K
 | .box _ x=>okB (some (s.ev x)) o.dst s K
 | .build t ps=>okD (buildD P t (ps.toList.map fun(i,x)=>(i,s.ev x))) o.dst s K
 | .buildSlice t n ps=>okV (bslD P t n (ps.toList.map fun(i,x)=>(i,s.ev x))) o.dst s K
 | .load t x=>okD (ldD P s t (s.ev x)) o.dst s K
 | .store t p x=>okS (stD P s t (s.ev p) (s.ev x)) fun s'=>K (s'.put o.dst .skip)
 | .nilCheck x=>nchk (s.ev x) o.dst s K
 | .binOp op t x y _=>okU (nilq P op t (s.ev x) (s.ev y)) o.dst s K (okA (faD op (s.ev x) (s.ev y)) o.dst s K (okP (binD P op t (s.ev x) (s.ev y)) o.dst s K))
 | .unOp op _ x=>okD (unD op (s.ev x)) o.dst s K
 | .convert a b x=>okD (convD P a b (s.ev x)) o.dst s K
 | .makeFunc f fi ca=>K (s.put o.dst (.fn f (fi.toList.map s.ev) (ca.toList.map s.ev)))
 | .makeSlice t l c=>okT (mkD P s t o.dst (s.ev l) (s.ev c)) K
 | .slice t x lo hi mx=>okF (fgt T o.dst) (bndV P s t (s.ev x) (lo.map s.ev) (hi.map s.ev) (mx.map s.ev)) o.dst s K <| okQ (cutV P s t (s.ev x) (lo.map s.ev) (hi.map s.ev) (mx.map s.ev)) o.dst K (okP (sliceD P t (frz s (s.ev x)).1 (lo.map s.ev) (hi.map s.ev) (mx.map s.ev)) o.dst (frz s (s.ev x)).2 K)
 | .fieldAddr t x f=>okD (fadD P t f (s.ev x)) o.dst s K
 | .field t x f=>okD (fieldD P t f (s.ev x)) o.dst s K
 | .indexAddr t x i=>okP (iaD P t (s.ev x) (s.ev i)) o.dst s K
 | .index t x i=>okP (indexD P t (s.ev x) (s.ev i)) o.dst s K
 | .extract x i=>okD (extD (s.ev x) i) o.dst s K
 | .makeMap t r=>okS (mkM P s t o.dst (r.map s.ev)) K
 | .lookup t x i ok=>okL (lkD P s t (s.ev x) (s.ev i)) ok o.dst s K
 | .mapUpdate t m k x=>okS (mpU P s t (s.ev m) (s.ev k) (s.ev x)) fun s'=>K (s'.put o.dst .skip)
 | .insert t m k x=>okS (mpU P s t (s.ev m) (s.ev k) (s.ev x)) fun s'=>K (s'.put o.dst .skip)
 | .mapEntry t m k=>okE (mpE P s t (s.ev m) (s.ev k)) o.dst K
 | .entryStore _ m i x=>okS (esU s (s.ev m) (s.ev i) (s.ev x)) fun s'=>K (s'.put o.dst .skip)
 | .range t x=>okS (rngM P s t o.dst (s.ev x)) K
 | .next x str=>str=false∧okN (itM s (s.ev x)) o.dst s K
 | .entry x=>okD (enM s (s.ev x)) o.dst s K
 | .call c=>match c.callee with
  | .builtin .len=>match c.args.toList,c.argTypes.toList with
   |[x],[t]=>(elOf P t).isSome=true∧okH (lenD (s.ev x)) o.dst s K
   |_,_=>False
  | .builtin .min=>okD (minD (c.args.toList.map s.ev)) o.dst s K
  | .builtin .max=>okD (maxD (c.args.toList.map s.ev)) o.dst s K
  | .builtin .append=>match c.args.toList,c.argTypes.toList with
   |[x,y],[t,u]=>okM (appM P s t u (s.ev x) (s.ev y)) o.dst s K (t=u∧okT (appD P s t o.dst (s.ev x) (s.ev y)) fun s'=>K (app8 P t (s.ev x) o.dst s'))
   |_,_=>False
  | .builtin .cap=>match c.args.toList,c.argTypes.toList with
   |[x],[t]=>(elOf P t).isSome=true∧okP (capD s (s.ev x)) o.dst s K
   |_,_=>False
  | .builtin .clear=>match c.args.toList,c.argTypes.toList with
   |[x],[t]=>okQ (clrD P s t (s.ev x)) o.dst K False
   |_,_=>False
  | .builtin .copy=>match c.args.toList,c.argTypes.toList with
   |[x,y],[t,_]=>okQ (cpyD P s t (s.ev x) (s.ev y)) o.dst K False
   |_,_=>False
  | .value f=>match s.ev f with
   | .fn (.func g) fi ca=>match ovm T g with
    |true=>xtK P g (fi++c.args.toList.map s.ev++ca) o.dst s K
    |false=>XCall P T g (fi++c.args.toList.map s.ev++ca) s.os s.nx fun v os nx=>K (St.put ⟨s.tm,os,nx⟩ o.dst v)
   |_=>False
  |_=>False
 |_=>False
def aops (P:Program) (T:Tab) (all:Array Oper):List Oper→St→(St→Prop)→Prop
 |[],s,K=>K s
 |o::rest,s,K=>match o.guard with
  |none=>aop P T o s fun s'=>aops P T all rest s' K
  |some (j,w)=>grd (gtmp all j) (s.gd (gtmp all j)) w (fun s=>aop P T o s fun s'=>aops P T all rest s' K) (fun s=>aops P T all rest (s.put o.dst .skip) K) s
def ADraw (P:Program) (n N:Nat) (i:Nat) (ops:Array Oper) (Q:Exit→St→Prop) (s:St):Prop:=SWp P n N (.region i ops true) Q s
def sq (A:St→Prop) (Q:Exit→St→Prop):Exit→St→Prop
 | .normal,s=>A s
 |e,s=>Q e s
def bl (id:Nat) (Q:Exit→St→Prop):Exit→St→Prop
 | .exit i,s=>if i=id then Q .normal s else Q (.exit i) s
 |e,s=>Q e s
def rg (l:Option (List Nat)) (Q:Exit→St→Prop) (s:St):Prop:=Q .normal (s.prune l)
def awp (P:Program) (T:Tab) (n N:Nat) (lv:Nat→Option (List Nat)):Code→(Exit→St→Prop)→St→Prop
 | .skip,Q,s=>Q .normal s
 | .label _,Q,s=>Q .normal s
 | .region i ops false,Q,s=>aops P T ops ops.toList s (rg (lv i) Q)
 | .region i ops true,Q,s=>ADraw P n N i ops (sq (rg (lv i) Q) Q) s
 | .seq a b,Q,s=>awp P T n N lv a (sq (awp P T n N lv b Q) Q) s
 | .cond c x y,Q,s=>cd (s.ev c) (awp P T n N lv x Q) (awp P T n N lv y Q) s
 | .block id c,Q,s=>awp P T n N lv c (bl id Q) s
 | .exit id,Q,s=>Q (.exit id) s
 | .ret,Q,s=>Q .ret s
 |c,Q,s=>SWp P n N c Q s
def rd1 (P:Program) (s:St):ResultVar→Option D
 | .tmp t=>some (s.get t)
 | .cell a t=>ldD P s t (s.get a)
def rds (P:Program) (s:St):List ResultVar→Option (List D)
 |[]=>some []
 |r::l=>match rd1 P s r,rds P s l with
  |some d,some ds=>some (d::ds)
  |_,_=>none
def rdD (P:Program) (s:St) (rs:List ResultVar):Option D:=
 match rds P s rs with
 |some [d]=>some d
 |some ds=>some (.tup ds)
 |none=>none
def rto (x:Option D) (s:St) (Q:D→List (Nat×Ob)→Nat→Prop):Prop:=match x with
 |some d=>Q d s.os s.nx
 |none=>False
def fin (P:Program) (rs:List ResultVar) (Q:D→List (Nat×Ob)→Nat→Prop):Exit→St→Prop
 | .normal,s=>rto (rdD P s rs) s Q
 | .ret,s=>rto (rdD P s rs) s Q
 |_,_=>False
def prm:Nat→List D→List (Nat×D)
 |_,[]=>[]
 |k,d::l=>(k,d)::prm (k+1) l
def dstOk1 (n:Nat) (o:Oper):Bool:=match o.dst with
 |some t=>decide (t<n)
 |none=>true
def dstOk (n:Nat):Code→Bool
 | .region _ ops _=>ops.toList.all (dstOk1 n)
 | .seq a b=>dstOk n a&&dstOk n b
 | .cond _ a b=>dstOk n a&&dstOk n b
 | .block _ c=>dstOk n c
 | .loop c=>dstOk n c
 | .scope c=>dstOk n c
 |_=>true
open Go
theorem lk_cons {α:Type} (n m:Nat) (x:α) (l:List (Nat×α)):lk n ((m,x)::l)=if n=m then some x else lk n l:=rfl
section
variable {δ:List Deferred} {P:Program} {g:G} {s:St} {a:Act} {w:World}
theorem valD1_rel (v:Value):VRel g w v (valD1 v):=by
 unfold valD1
 split
 ·exact .c _ _ (.bool _)
 ·exact .c _ _ (.int _ _)
 ·exact .c _ _ (.flt _ _)
 ·exact .c _ _ (.str _)
 ·exact .nilp
 ·exact .nil
 ·exact .nilm
 ·exact .nilf
 ·exact .undef _
theorem valD_rel (v:Value):VRel g w v (valD v):=by
 unfold valD
 split
 ·rename_i cs
  refine .agg cs _ (by simp) fun i v d hv hd=> ?_
  simp at hd
  obtain⟨u,hu,rfl⟩:=hd
  rw [hv]at hu
  cases hu
  exact valD1_rel v
 ·exact valD1_rel _
theorem Rel.ev (h:Rel δ g s a w) (x:Operand):VRel g w (a.eval x) (s.ev x):=by
 cases x with
 |tmp t=>
  show VRel g w (a.tmps.getD t Go.undef) ((lk t s.tm).getD .undef)
  cases hl:lk t s.tm with
  |none=>exact .undef _
  |some d=>
   obtain⟨v,hv,hr⟩:=h.tm t d hl
   simp [Array.getD,Option.getD]
   simp [Array.getElem?_eq_some_iff]at hv
   obtain⟨h1,h2⟩:=hv
   simp [h1,h2,hr]
 |const v=>exact valD_rel v
 |global n=>
  show VRel g w _ (match glv n with|some ns=>D.rp (ns.map (C.int .i64))|none=> .undef)
  cases hn:glv n with
  |none=>exact .undef _
  |some ns=>
   obtain⟨h1,h2⟩:=h.o.cel.gl n ns hn
   refine .rp n 0 _ (fun j=> .int .i64 (ns.getD j 0)) h1 fun j y hy=> ?_
   simp only [List.getElem?_map,Option.map_eq_some_iff]at hy
   obtain⟨x,hx,rfl⟩:=hy
   rw [Nat.zero_add,List.getD_eq_getElem?_getD,hx]
   exact⟨h2 j x hx, .int _ _⟩
 |func f=>exact .fn _ _ _ _ _ rfl rfl (fun i v d h=>by simp at h) (fun i v d h=>by simp at h)
theorem Rel.put (h:Rel δ g s a w) (t:Option Tmp) {v:Value} {d:D} (hv:VRel g w v d) (ht:∀x,t=some x→x<a.tmps.size):Rel δ g (s.put t d) (a.put t v) w:=by
 cases t with
 |none=>exact h
 |some t=>
  refine⟨fun u e hu=> ?_,h.defers,⟨h.o.ok,h.o.apart,h.o.fresh,h.o.imm,h.o.cel⟩⟩
  simp only [St.put,lk_cons]at hu
  by_cases e1:u=t
  ·rw [if_pos e1]at hu
   cases hu
   refine⟨v, ?_,hv⟩
   simp [Act.put,e1,ht t rfl]
  ·rw [if_neg e1]at hu
   obtain⟨v',h1,h2⟩:=h.tm u e hu
   refine⟨v', ?_,h2⟩
   simp [Act.put,Array.getElem?_setIfInBounds,Ne.symm e1,h1]
theorem put_size (a:Act) (t:Option Tmp) (v:Value):(a.put t v).tmps.size=a.tmps.size:=by cases t<;>simp [Act.put]
theorem tyOf_spec {t:TypeId} {z:Bool×Nat} (h:tyOf P t=some z) (w:World):(isAgg t).run P w= .ok z.1 w∧(Go.sizeOf t).run P w= .ok z.2 w:=by
 unfold tyOf at h
 cases hu:P.underlying t with
 |none=>simp [hu]at h
 |some d=>
  cases hi:P.info? t with
  |none=>simp [hu,hi]at h
  |some i=>
   rw [hu,hi]at h
   constructor
   ·cases d<;>simp at h<;>subst h<;>simp [isAgg,underlying,hu]
   ·cases d<;>simp at h<;>subst h<;>simp [Go.sizeOf,typeInfo,hi]
def At (g:G) (w:World) (b off:Nat) (cs:List D):Prop:=∀(j:Nat) (d:D),cs[j]? =some d→∃v,w.cell? ⟨b,off+j,none⟩=some v∧VRel g w v d
theorem run_cells {b off:Nat} {cs:List D} (h:At g w b off cs):∃vs:List Value,vs.length=cs.length∧
 Runs P (loadCells ⟨b,off,none⟩ cs.length) w vs.toArray∧∀(i:Nat) (v:Value) (d:D),vs[i]? =some v→cs[i]? =some d→VRel g w v d:=by
 have hc:∀j,j<cs.length→∃v,w.cell? ⟨b,off+j,none⟩=some v∧∀d,cs[j]? =some d→VRel g w v d:=by
  intro j hj
  obtain⟨v,h1,h2⟩:=h j cs[j] (List.getElem?_eq_getElem hj)
  exact⟨v,h1,fun d hd=>by rw [List.getElem?_eq_getElem hj]at hd;cases hd;exact h2⟩
 let f:Nat→Value:=fun j=>if hj:j<cs.length then(hc j hj).choose else .nilFunc
 have hf:∀j (hj:j<cs.length),f j=(hc j hj).choose:=fun j hj=>by simp only [f,dif_pos hj]
 refine⟨(List.range cs.length).map f,by simp, ?_, ?_⟩
 ·intro w' hw'
  have:=run_loadCells (P:=P) (w:=w') ⟨b,off,none⟩ cs.length f (fun j hj=>by
   have e:(Addr.add ⟨b,off,none⟩ j)=⟨b,off+j,none⟩:=by
    unfold Addr.add;split
    ·subst_vars;rfl
    ·rfl
   rw [e,hf j hj]
   exact hw'.cell (hc j hj).choose_spec.1)
  exact this
 ·intro i v d hv hd
  simp only [List.getElem?_map,Option.map_eq_some_iff]at hv
  obtain⟨j,hj,rfl⟩:=hv
  have hi:i<cs.length:=by
   rcases Nat.lt_or_ge i cs.length with h|h
   ·exact h
   ·rw [List.getElem?_eq_none h]at hd;cases hd
  rw [List.getElem?_range hi]at hj
  cases hj
  rw [hf _ hi]
  exact(hc _ hi).choose_spec.2 d hd
theorem run_loadVar_at {t:TypeId} {z:Bool×Nat} (ht:tyOf P t=some z) {b off:Nat} {cs:List D} (h:At g w b off cs) {o:Nat} {d:D} (hd:ldc z cs o=some d):
 ∃v,Runs P (loadVar t ⟨b,off+o,none⟩) w v∧VRel g w v d:=by
 obtain⟨ag,n⟩:=z
 cases ag with
 |true=>
  simp only [ldc]at hd
  split at hd
  ·rename_i hle
   cases hd
   have h':At g w b (off+o) ((cs.drop o).take n):=fun j d hj=>by
    have hj2:(cs.drop o)[j]? =some d:=by
     rw [List.getElem?_take]at hj
     split at hj
     ·exact hj
     ·cases hj
    rw [List.getElem?_drop]at hj2
    obtain⟨v,hv,hr⟩:=h (o+j) d hj2
    exact⟨v,by rw [show off+o+j=off+(o+j) by omega];exact hv,hr⟩
   obtain⟨vs,hl,hrun,hrel⟩:=run_cells (P:=P) h'
   have hn:((cs.drop o).take n).length=n:=by simp;omega
   rw [hn]at hrun
   refine⟨.agg vs.toArray,fun w' hw'=> ?_, .agg _ _ (by simpa using hl) (by simpa using hrel)⟩
   obtain⟨h1,h2⟩:=tyOf_spec ht w'
   simp only [loadVar]
   simp [h1,h2,hrun w' hw']
  ·cases hd
 |false=>
  simp only [ldc]at hd
  obtain⟨v,hv,hr⟩:=h o d hd
  refine⟨v,fun w' hw'=> ?_,hr⟩
  obtain⟨h1,h2⟩:=tyOf_spec ht w'
  simp only [loadVar]
  simp [h1,hw'.cell hv]
theorem At.of_box {id:Nat} {cs:List D} (h:OK g w id (.box cs)):∃b,g.ρ id=some b∧At g w b 0 cs:=by
 obtain⟨b,e,cells,h1,h2,h3,h4⟩:=h
 refine⟨b,h1,fun j d hj=> ?_⟩
 have hj':j<cells.size:=by
  rw [h3]
  rcases Nat.lt_or_ge j cs.length with h|h
  ·exact h
  ·rw [List.getElem?_eq_none h]at hj;cases hj
 refine⟨cells[j], ?_,h4 j _ d (Array.getElem?_eq_getElem hj') hj⟩
 simp [World.cell?,h2,hj']
theorem At.of_rp {b off:Nat} {cs:List C} {vs:Nat→Value} (hcell:∀(j:Nat) (y:C),cs[j]? =some y→w.cell? ⟨b,off+j,none⟩=some (vs j)∧CRel g.I w (vs j) y):
 At g w b off (cs.map .c):=fun j d hj=>by
 simp only [List.getElem?_map,Option.map_eq_some_iff]at hj
 obtain⟨y,hy,rfl⟩:=hj
 exact⟨_,(hcell j y hy).1, .c _ _ (hcell j y hy).2⟩
theorem Rel.load (h:Rel δ g s a w) {t:TypeId} {p d:D} {v:Value} (hv:VRel g w v p) (hd:ldD P s t p=some d):
 ∃u,Runs P (Instr.loadAt t v) w u∧VRel g w u d:=by
 cases p<;>simp only [ldD]at hd<;>try cases hd
 case ref id off=>
  split at hd
  ·rename_i z cs hz ho
   cases hv with
   |ref b _ _ hb=>
    obtain⟨b',h1,h2⟩:=At.of_box (h.o.ok id _ ho)
    rw [hb]at h1;cases h1
    obtain⟨u,hu,hr⟩:=run_loadVar_at hz h2 hd
    rw [Nat.zero_add]at hu
    exact⟨u,fun w' hw'=>by simp [Instr.loadAt,Instr.sureAddr,hu w' hw'],hr⟩
  ·cases hd
 case eref id n sz i off=>
  split at hd
  ·rename_i z hd0 sz' e els hz ho
   split at hd
   ·rename_i hc
    obtain⟨hc1,rfl,hc3⟩:=hc
    cases hv with
    |eref b _ _ _ _ _ _ a0 len cap hk hn hv=>
     obtain⟨a1,cap1,h1,h2,h3,h4,h5⟩:=h.o.ok id _ ho
     rw [hk]at h1;cases h1
     obtain⟨o,rfl,rfl⟩:=hv hc1
     rcases h5 with⟨h5,_⟩|⟨b',o',cells,vs,h5,h6,h7,_,h8⟩
     ·cases h5
     ·cases h5
      have hi:i<els.length:=by omega
      have hat:At g w b (o+i*sz) ((els.getD i (zc0 P e)).map .c):=fun j d hj=>by
       simp only [List.getElem?_map,Option.map_eq_some_iff]at hj
       obtain⟨y,hy,rfl⟩:=hj
       have hx:els[i]? =some (els.getD i (zc0 P e)):=by simp [List.getD,List.getElem?_eq_getElem hi]
       obtain⟨h9,h10⟩:=h8 i j _ y hx hy
       exact⟨vs i j,by simp [World.cell?,h6,h9], .c _ _ h10⟩
      obtain⟨u,hu,hr⟩:=run_loadVar_at hz hat hd
      exact⟨u,fun w' hw'=>by simp [Instr.loadAt,Instr.sureAddr,hu w' hw'],hr⟩
   ·cases hd
  ·cases hd
 case rp cs=>
  split at hd
  ·rename_i z hz
   cases hv with
   |rp b off _ vs hI hcell=>
    obtain⟨u,hu,hr⟩:=run_loadVar_at hz (At.of_rp hcell) hd
    rw [Nat.add_zero]at hu
    exact⟨u,fun w' hw'=>by simp [Instr.loadAt,Instr.sureAddr,hu w' hw'],hr⟩
  ·cases hd
end
open Go
section
variable {P:Program} {g:G} {s:St} {a:Act} {w:World}
theorem fldOf_spec {t:TypeId} {f o:Nat} (h:fldOf P t f=some o) (b off:Nat) (w:World):
 (Instr.fieldAt t (.pointer (some ⟨b,off,none⟩)) f).run P w= .ok (.pointer (some ⟨b,off+o,none⟩)) w:=by
 unfold fldOf at h
 cases hu:P.underlying t with
 |none=>simp [hu]at h
 |some d=>
  rw [hu]at h
  cases d<;>simp only [reduceCtorEq]at h
  rename_i fs
  cases hf:fs[f]? with
  |none=>simp [hf]at h
  |some d=>
   simp only [hf]at h
   cases hi:P.info? d.type with
   |none=>simp [hi]at h
   |some i=>
    simp only [hi]at h
    split at h
    ·cases h
    ·rename_i hz
     cases h
     have e:(Addr.add ⟨b,off,none⟩ d.offset)=⟨b,off+d.offset,none⟩:=by
      unfold Addr.add;split
      ·rename_i h0;rw [h0];rfl
      ·rfl
     simp [Instr.fieldAt,Go.underlying,hu,hf,Instr.sureAddr,fieldPlace,Go.sizeOf,typeInfo,hi,hz,e]
theorem fad_sound {t:TypeId} {f:Nat} {p d:D} {v:Value} (hv:VRel g w v p) (hd:fadD P t f p=some d):
 ∃u,Runs P (Instr.fieldAt t v f) w u∧VRel g w u d:=by
 cases p<;>simp only [fadD,reduceCtorEq]at hd
 case ref id off=>
  split at hd<;>cases hd
  rename_i o ho
  cases hv with
  |ref b _ _ hb=>exact⟨_,fun w' _=>fldOf_spec ho _ _ w', .ref b id _ hb⟩
 case eref id n sz i off=>
  split at hd<;>cases hd
  rename_i o ho
  cases hv with
  |eref b o1 _ _ _ _ _ a0 len cap hk hn hv=>
   refine⟨_,fun w' _=>fldOf_spec ho _ _ w', .eref _ _ _ _ _ _ _ _ _ _ hk hn fun e=> ?_⟩
   obtain⟨o',h1,rfl⟩:=hv e
   exact⟨o',h1,by omega⟩
 case rp cs=>
  split at hd<;>cases hd
  rename_i o ho
  cases hv with
  |rp b off _ vs hI hcell=>
   refine⟨_,fun w' _=>fldOf_spec ho _ _ w', .rp b (off+o) _ (fun j=>vs (o+j)) hI fun j y hy=> ?_⟩
   rw [List.getElem?_drop]at hy
   have:=hcell (o+j) y hy
   rwa [show off+(o+j)=off+o+j by omega]at this
theorem agg_cell {vs:Array Value} {ds:List D} (h:vs.size=ds.length) {i:Nat} {d:D} (hd:ds[i]? =some d):∃v,vs[i]? =some v:=by
 have:i<vs.size:=by
  rw [h]
  rcases Nat.lt_or_ge i ds.length with h|h
  ·exact h
  ·rw [List.getElem?_eq_none h]at hd;cases hd
 exact⟨vs[i],Array.getElem?_eq_getElem this⟩
theorem run_part {t:TypeId} {z:Bool×Nat} (ht:tyOf P t=some z) {vs:Array Value} {cs:List D} (hl:vs.size=cs.length)
 (hp:∀(i:Nat) (v:Value) (d:D),vs[i]? =some v→cs[i]? =some d→VRel g w v d) {o:Nat} {d:D} (hd:ldc z cs o=some d):
 ∃v,Runs P (part t vs o) w v∧VRel g w v d:=by
 obtain⟨ag,n⟩:=z
 cases ag with
 |true=>
  simp only [ldc]at hd
  split at hd
  ·rename_i hle
   cases hd
   refine⟨.agg (vs.extract o (o+n)),fun w' _=>by obtain⟨h1,h2⟩:=tyOf_spec ht w';simp [part,h1,h2], .agg _ _ (by simp [hl];omega) fun i v d hv hd=> ?_⟩
   rw [List.getElem?_take]at hd
   split at hd
   ·rw [List.getElem?_drop]at hd
    rw [Array.getElem?_extract]at hv
    split at hv
    ·exact hp _ _ _ hv hd
    ·cases hv
   ·cases hd
  ·cases hd
 |false=>
  simp only [ldc]at hd
  obtain⟨v,hv⟩:=agg_cell hl hd
  exact⟨v,fun w' _=>by obtain⟨h1,h2⟩:=tyOf_spec ht w';simp [part,h1,hv],hp _ _ _ hv hd⟩
theorem field_sound {t:TypeId} {f:Nat} {p d:D} {v:Value} (hv:VRel g w v p) (hd:fieldD P t f p=some d):
 ∃u,Runs P (Instr.field t v f) w u∧VRel g w u d:=by
 cases p<;>simp only [fieldD,reduceCtorEq]at hd
 rename_i cs
 split at hd<;>try cases hd
 rename_i ty o ho
 split at hd<;>try cases hd
 rename_i z hz
 cases hv with
 |agg vs _ hl hp=>
  unfold prtOf at ho
  cases hu:P.underlying t with
  |none=>simp [hu]at ho
  |some d=>
   rw [hu]at ho
   cases d<;>simp only [reduceCtorEq]at ho
   rename_i fs
   cases hf:fs[f]? with
   |none=>simp [hf]at ho
   |some fd=>
    simp only [hf,Option.some.injEq,Prod.mk.injEq]at ho
    obtain⟨rfl,rfl⟩:=ho
    obtain⟨u,h1,h2⟩:=run_part hz hl hp hd
    exact⟨u,fun w' hw'=>by simp [Instr.field,Go.underlying,hu,hf,asAgg,h1 w' hw'],h2⟩
theorem elOf_spec {t:TypeId} {x:TypeId×Nat×Nat} (h:elOf P t=some x):P.underlying t=some (.slice x.1)∧∃i,P.info? x.1=some i∧i.size=x.2.1∧i.bytes=x.2.2:=by
 unfold elOf at h
 cases hu:P.underlying t with
 |none=>simp [hu]at h
 |some d=>
  rw [hu]at h
  cases d<;>simp only [reduceCtorEq]at h
  rename_i e
  cases hi:P.info? e with
  |none=>simp [hi]at h
  |some i=>
   simp only [hi,Option.some.injEq]at h
   subst h
   exact⟨rfl,i,hi,rfl,rfl⟩
theorem elOf_size {t:TypeId} {x:TypeId×Nat×Nat} (h:elOf P t=some x) (w:World):(Go.sizeOf x.1).run P w= .ok x.2.1 w:=by
 obtain⟨_,i,hi,hs,_⟩:=elOf_spec h
 simp [Go.sizeOf,typeInfo,hi,hs]
theorem arOf_spec {t:TypeId} {x:Nat×TypeId×Nat} (h:arOf P t=some x):P.underlying t=some (.array x.1 x.2.1)∧∀w,(Go.sizeOf x.2.1).run P w= .ok x.2.2 w:=by
 unfold arOf at h
 cases hu:P.underlying t with
 |none=>simp [hu]at h
 |some d=>
  rw [hu]at h
  cases d<;>simp only [reduceCtorEq]at h
  rename_i n e
  cases hi:P.info? e with
  |none=>simp [hi]at h
  |some i=>
   simp only [hi,Option.some.injEq]at h
   subst h
   exact⟨rfl,fun w=>by simp [Go.sizeOf,typeInfo,hi]⟩
theorem addr_add (b off n:Nat):Addr.add ⟨b,off,none⟩ n=⟨b,off+n,none⟩:=by
 unfold Addr.add;split
 ·rename_i h0;rw [h0];rfl
 ·rfl
theorem run_indexAt_sl {t:TypeId} {x:TypeId×Nat×Nat} (h:elOf P t=some x) (b off n cap:Nat) (k:IntKind) (i:Int) (h0:0≤i) (h1:i<n) (w:World):
 (Instr.indexAt t (.slice (some ⟨b,off,none⟩) n cap) (.int k i)).run P w= .ok (.pointer (some ⟨b,off+i.toNat*x.2.1,none⟩)) w:=by
 obtain⟨hu,j,hj,hs,_⟩:=elOf_spec h
 simp [Instr.indexAt,asIntOf,Go.underlying,hu,h0,h1,Go.sizeOf,typeInfo,hj,hs,addr_add]
theorem run_indexAt_ar {t:TypeId} {x:Nat×TypeId×Nat} (h:arOf P t=some x) (b off:Nat) (k:IntKind) (i:Int) (h0:0≤i) (h1:i<x.1) (w:World):
 (Instr.indexAt t (.pointer (some ⟨b,off,none⟩)) (.int k i)).run P w= .ok (.pointer (some ⟨b,off+i.toNat*x.2.2,none⟩)) w:=by
 obtain⟨hu,hs⟩:=arOf_spec h
 simp [Instr.indexAt,asIntOf,Go.underlying,hu,h0,h1,Instr.sureAddr,hs,addr_add]
theorem elem_rp (z0:List C) {I:Nat→Prop} {n cap:Nat} {a0:Option Addr} {els:List (List C)} (hI:g.I=I) (h:CRel I w (.slice a0 n cap) (.sl els)) {i:Nat} (hi:i<els.length) {z:Nat} (hz:Wide z els):
 ∃b off,a0=some ⟨b,off,none⟩∧n=els.length∧VRel g w (.pointer (some ⟨b,off+i*z,none⟩)) (.rp (els.getD i z0)):=by
 subst hI
 cases h with
 |slnil a cap hc=>simp at hi
 |sl b off cap sz _ vs hb hl hc hsz hcell hrel=>
  refine⟨b,off,rfl,rfl, .rp b _ _ (fun j=>vs i j) hb fun j y hy=> ?_⟩
  have hx:els[i]? =some (els.getD i z0):=by simp [List.getD,List.getElem?_eq_getElem hi]
  have he:sz=z:=by
   have h1:=hsz els[i] (List.getElem_mem hi)
   have h2:=hz els[i] (List.getElem_mem hi)
   omega
  rw [←he]
  exact⟨hcell i j _ y hx hy,hrel i j _ y hx hy⟩
theorem ia_sound {t:TypeId} {p q d:D} {C0:Prop} {v u:Value} (hv:VRel g w v p) (hu:VRel g w u q) (hd:iaD P t p q=some (C0,d)) (hc:C0):
 ∃x,Runs P (Instr.indexAt t v u) w x∧VRel g w x d:=by
 unfold iaD at hd
 split at hd<;>try cases hd
 ·rename_i els k i
  split at hd<;>cases hd
  rename_i e z y he
  obtain⟨⟨h0,h1⟩,hw⟩:=hc
  cases hu with
  |c _ _ hu=>cases hu with
   |int k i=>
   cases hv with
   |c _ _ hv=>
    have hv':=hv
    cases hv' with
    |slnil a cap hc=>simp at h1;omega
    |sl b off cap sz _ vs hb hl hc hsz hcell hrel=>
     obtain⟨b',off',h2,h3,h4⟩:=elem_rp (g:=g) _ rfl hv (i:=i.toNat) (by omega) hw
     cases h2
     exact⟨_,fun w' _=>run_indexAt_sl he _ _ _ _ _ _ h0 h1 w',h4⟩
 ·rename_i els k i
  split at hd<;>cases hd
  rename_i e z y he
  obtain⟨⟨h0,h1⟩,hw⟩:=hc
  cases hu with
  |c _ _ hu=>cases hu with
   |int k i=>
   cases hv with
   |csl a0 _ hv=>
    obtain⟨b',off',h2,h3,h4⟩:=elem_rp (g:=g) _ rfl hv (i:=i.toNat) (by omega) hw
    cases h2
    exact⟨_,fun w' _=>run_indexAt_sl he _ _ _ _ _ _ h0 h1 w',h4⟩
 ·rename_i id n k i
  split at hd<;>cases hd
  rename_i e z y he
  obtain⟨h0,h1⟩:=hc
  cases hu with
  |c _ _ hu=>cases hu with
   |int k i=>
   cases hv with
   |vec a' cap' _ _ a0 len cap hk hn hm ha hv=>
    rcases ha with ha|⟨b,o,rfl⟩
    ·omega
    ·refine⟨_,fun w' _=>run_indexAt_sl he _ _ _ _ _ _ h0 h1 w', .eref _ _ _ _ _ _ _ _ _ _ hk hn fun e=> ?_⟩
     obtain⟨e1,_⟩:=hv e
     exact⟨o,e1.symm,by simp⟩
 ·rename_i id off k i
  split at hd<;>cases hd
  rename_i n e z he
  obtain⟨h0,h1⟩:=hc
  cases hu with
  |c _ _ hu=>cases hu with
   |int k i=>
   cases hv with
   |ref b _ _ hb=>exact⟨_,fun w' _=>run_indexAt_ar he _ _ _ _ h0 h1 w', .ref b id _ hb⟩
 ·rename_i cs k i
  split at hd<;>cases hd
  rename_i n e z he
  obtain⟨h0,h1⟩:=hc
  cases hu with
  |c _ _ hu=>cases hu with
   |int k i=>
   cases hv with
   |rp b off _ vs hI hcell=>
    refine⟨_,fun w' _=>run_indexAt_ar he _ _ _ _ h0 h1 w', .rp b _ _ (fun j=>vs (i.toNat*z+j)) hI fun j y hy=> ?_⟩
    rw [List.getElem?_drop]at hy
    have:=hcell (i.toNat*z+j) y hy
    rwa [show off+(i.toNat*z+j)=off+i.toNat*z+j by omega]at this
theorem index_sound {t:TypeId} {p q d:D} {C0:Prop} {v u:Value} (hv:VRel g w v p) (hu:VRel g w u q) (hd:indexD P t p q=some (C0,d)) (hc:C0):
 ∃x,Runs P (Instr.index t v u) w x∧VRel g w x d:=by
 unfold indexD at hd
 split at hd<;>try cases hd
 rename_i cs k i
 split at hd<;>try cases hd
 rename_i n ty z he
 split at hd<;>try cases hd
 rename_i zz hz
 split at hd<;>cases hd
 rename_i d hd
 obtain⟨h0,h1⟩:=hc
 cases hu with
 |c _ _ hu=>cases hu with
  |int k i=>
  cases hv with
  |agg vs _ hl hp=>
   obtain⟨x,h2,h3⟩:=run_part hz hl hp hd
   obtain⟨h4,h5⟩:=arOf_spec he
   simp only at h4 h5
   exact⟨x,fun w' hw'=>by simp [Instr.index,asIntOf,Go.underlying,h4,h0,h1,h5,h2 w' hw'],h3⟩
theorem vbool {a b:Bool} (h:a=b):VRel g w (.bool a) (.bool b):=by subst h;exact .c _ _ (.bool _)
theorem ibin_sound (op:BinOp) (k:IntKind) (a b:Int) {C0:Prop} {d:D} (h:ibin op k a b=some (C0,d)) (hc:C0) (hs:isShift op=false) (t:TypeId):
 ∃x,Runs P (binOp op t (.int k a) (.int k b)) w x∧VRel g w x d:=by
 cases op<;>simp only [ibin,iand,ior,ixor,iandn,reduceCtorEq,Option.some.injEq,Prod.mk.injEq,isShift]at h hs<;>obtain⟨rfl,rfl⟩:=h
 all_goals first
  |(refine⟨_, ?_, .c _ _ (.int _ _)⟩;intro w' _;simp only [binOp,ne_eq,not_true,if_false,Op.intArith,Op.intBits,Sem.run_pure];done)
  |(refine⟨_, ?_, .c _ _ (.int _ _)⟩;intro w' _;have hc':¬b=0:=hc;simp only [binOp,ne_eq,not_true,if_false,Op.intDiv,hc',Sem.run_pure];done)
  |(refine⟨_, ?_,vbool rfl⟩;intro w' _;simp only [binOp,ne_eq,not_true,if_false,Op.intCmp,Sem.run_pure];done)
  |(refine⟨_, ?_,vbool rfl⟩;intro w' _;simp only [binOp,ne_eq,not_true,if_false,Op.intCmp,Sem.run_pure];rfl)
theorem ishift_sound (op:BinOp) (k k':IntKind) (a b:Int) {C0:Prop} {d:D} (h:ishift op k a b=some (C0,d)) (hc:C0) (t:TypeId):
 ∃x,Runs P (binOp op t (.int k a) (.int k' b)) w x∧VRel g w x d:=by
 cases op<;>simp only [ishift,reduceCtorEq,Option.some.injEq,Prod.mk.injEq]at h<;>obtain⟨rfl,rfl⟩:=h
 all_goals
  have h0:¬b<0:=by omega
  refine⟨_,fun w' _=>by simp only [binOp];simp [Op.shift,h0];rfl, ?_⟩
  exact .c _ _ (.int _ _)
theorem guard_int (op:BinOp) (t:TypeId) (x y:Operand) {u v:Value} (h:(∀c,u≠ .agg c)∧u≠ .nilIface):(eqGuard op t x y u v).run P w= .ok () w:=by
 obtain⟨h1,h2⟩:=h
 unfold eqGuard
 cases u<;>first|exact absurd rfl h2|exact absurd rfl (h1 _)|(cases op<;>simp)
theorem VRel.int_inv {v:Value} {k:IntKind} {n:Int} (h:VRel g w v (.int k n)):v= .int k n:=by
 cases h with
 |c _ _ h=>cases h;rfl
theorem VRel.bool_inv {v:Value} {b:Bool} (h:VRel g w v (.bool b)):v= .bool b:=by
 cases h with
 |c _ _ h=>cases h;rfl
theorem equalIn_bool (d:Nat) (t:TypeId) (a b:Bool) (ht:P.underlying t=some .bool):(Op.equalIn (d+1) t (.bool a) (.bool b)).run P w= .ok (a==b) w:=by
 simp only [Op.equalIn,Sem.run_bind,Go.run_underlying ht,Result.andThen,Sem.run_pure]
theorem leafK_sound {t:TypeId} {k:Nat} (ht:leafK P t=some k) {x y:C} {b:Bool} (h:eqC k x y=some b) {v u:Value} (hv:VRel g w v (.c x)) (hu:VRel g w u (.c y)) (d:Nat) (w':World):(Op.equalIn (d+1) t v u).run P w'= .ok b w':=by
 cases hv with
 |c _ _ hv=>
 cases hu with
 |c _ _ hu=>
 unfold leafK at ht
 split at ht<;>cases ht
 ·rename_i hk _
  cases x<;>cases y<;>simp only [eqC,reduceCtorEq]at h
  split at h<;>cases h
  rename_i hk'
  subst hk'
  cases hv;cases hu
  exact run_equalIn_int w' d t _ _ _ _ hk
 ·rename_i hk _
  cases x<;>cases y<;>simp only [eqC,reduceCtorEq]at h
  cases h
  cases hv;cases hu
  exact run_equalIn_bool' w' d t _ _ hk
 ·rename_i hk _
  cases x<;>cases y<;>simp only [eqC,reduceCtorEq]at h
  cases h
  cases hv;cases hu
  rw [run_equalIn_string w' d t _ _ hk,beq_toListBytes]
theorem leafs_sound {vs us:Array Value} {xs ys:List D} (hl:vs.size=xs.length) (hl':us.size=ys.length)
 (hp:∀(i:Nat) (v:Value) (d:D),vs[i]? =some v→xs[i]? =some d→VRel g w v d) (hp':∀(i:Nat) (v:Value) (d:D),us[i]? =some v→ys[i]? =some d→VRel g w v d) (d:Nat) (w':World) (hw':Ext w w'):
 ∀(fs:List Field) (l:List (Nat×Nat)) (b:Bool),leafs P fs=some l→eqCells l xs ys=some b→(Op.eqFields (d+1) vs us fs).run P w'= .ok b w'
 |[],l,b,h1,h2=>by
  cases h1
  cases h2
  simp [Op.eqFields]
 |f::fs,l,b,h1,h2=>by
  simp only [leafs]at h1
  split at h1<;>try cases h1
  rename_i k ks hk hks
  split at h1<;>cases h1
  rename_i hname
  simp only [eqCells]at h2
  split at h2<;>try cases h2
  rename_i x y hx hy
  split at h2<;>cases h2
  rename_i b1 b2 hb1 hb2
  have ht:∃n,tyOf P f.type=some (false,n):=by
   unfold leafK at hk
   split at hk<;>cases hk
   all_goals rename_i ht;exact⟨_,ht⟩
  obtain⟨n,ht⟩:=ht
  obtain⟨u1,hu1,hu2⟩:=run_part (P:=P) ht hl hp (o:=f.offset) (d:= .c x) (by simpa [ldc]using hx)
  obtain⟨u3,hu3,hu4⟩:=run_part (P:=P) ht hl' hp' (o:=f.offset) (d:= .c y) (by simpa [ldc]using hy)
  have h5:=leafK_sound hk hb1 hu2 hu4 d w'
  simp only [Op.eqFields,ne_eq,hname,not_false_iff,if_true,Sem.run_bind,hu1 w' hw',hu3 w' hw',h5,Result.andThen_ok,Sem.run_ite]
  cases b1
  ·simp
  ·simpa using leafs_sound hl hl' hp hp' d w' hw' fs ks b2 hks hb2
theorem eqD_sound {t:TypeId} {xs ys:List D} {b:Bool} (h:eqD P t xs ys=some b) {v u:Value} (hv:VRel g w v (.agg xs)) (hu:VRel g w u (.agg ys)) (w':World) (hw':Ext w w'):
 ∃vs us,v= .agg vs∧u= .agg us∧P.eqGuardType P.depth t=false∧(Op.equalIn 10000 t (.agg vs) (.agg us)).run P w'= .ok b w':=by
 unfold eqD at h
 split at h<;>try cases h
 rename_i l hl
 unfold eqOf at hl
 split at hl<;>try cases hl
 rename_i fs hf
 split at hl<;>try cases hl
 rename_i hc
 cases hv with
 |agg vs _ h1 h2=>
 cases hu with
 |agg us _ h3 h4=>
 have e:P.fieldsOf t=fs:=by simp [Program.fieldsOf,hf]
 refine⟨vs,us,rfl,rfl,hc.2, ?_⟩
 rw [show(10000:Nat)=9999+1 from rfl,run_equalIn_struct w' 9999 t vs us (by rw [e];exact hf) hc.1,e]
 exact leafs_sound h1 h3 h2 h4 9998 w' hw' _ _ _ hl h
theorem flo_nan {n:Nat} (h:(FloatKind.f64.format.read n).isNaN=true):flo .f64 n=none:=by
 unfold flo
 have h0:¬n=0:=fun e=>by subst e;exact absurd h (by decide)
 rw [if_neg h0,if_pos h]
theorem flo_num {n:Nat} (h:¬(FloatKind.f64.format.read n).isNaN=true):flo .f64 n=some n:=by
 unfold flo
 by_cases e:n=0
 ·rw [if_pos e,e]
 ·rw [if_neg e,if_neg h]
theorem isNaN_iff {d:Ieee.Datum} (h:d.isNaN=true):∃s t,d= .nan s t:=by
 cases d with
 |nan s t=>exact⟨s,t,rfl⟩
 |_=>cases h
theorem read_nan {n:Nat} (h:FloatKind.f64.format.infRung<n % FloatKind.f64.format.signWeight):(FloatKind.f64.format.read n).isNaN=true:=by
 unfold Ieee.Format.read
 have hb:FloatKind.f64.format.binade≤FloatKind.f64.format.infRung:=by decide
 simp only
 rw [if_neg (by omega),if_neg (by omega),if_neg (by omega)]
 rfl
theorem nan_read {n:Nat} (h:(FloatKind.f64.format.read n).isNaN=true):FloatKind.f64.format.infRung<n % FloatKind.f64.format.signWeight:=by
 unfold Ieee.Format.read at h
 simp only at h
 split at h
 ·cases h
 ·split at h
  ·cases h
  ·split at h
   ·cases h
   ·omega
theorem ford_eq (a b:Nat):ford (flo .f64 a) (flo .f64 b)=FloatKind.f64.format.order a b:=by
 by_cases ha:(FloatKind.f64.format.read a).isNaN=true
 ·rw [flo_nan ha]
  obtain⟨s,t,hs⟩:=isNaN_iff ha
  simp [ford,Ieee.Format.order,hs,Ieee.Datum.order]
 ·by_cases hb:(FloatKind.f64.format.read b).isNaN=true
  ·rw [flo_nan hb]
   obtain⟨s,t,hs⟩:=isNaN_iff hb
   simp only [Ieee.Format.order,hs]
   have:∀d:Ieee.Datum,d.order (.nan s t)=none:=fun d=>by cases d<;>rfl
   rw [this]
   cases flo .f64 a<;>rfl
  ·rw [flo_num ha,flo_num hb];rfl
theorem fcmp_sound (op:BinOp) (a b:Nat) {r:Bool} (h:fcmp op (flo .f64 a) (flo .f64 b)=some r) (t:TypeId):∃x,Runs P (binOp op t (.float .f64 a) (.float .f64 b)) w x∧VRel g w x (.bool r):=by
 unfold fcmp at h
 simp only [ford_eq]at h
 cases op<;>simp only [reduceCtorEq,Option.some.injEq]at h<;>subst h
 all_goals
  refine⟨_, ?_,vbool rfl⟩
  intro w' _
  simp only [binOp,ne_eq,not_true,if_false,Op.floatCmp,Sem.run_pure]
theorem neg_eq (n:Nat):fneg (flo .f64 n)=flo .f64 (Op.negFloat .f64 n):=by
 have key:(Op.negFloat .f64 n) % FloatKind.f64.format.signWeight=n % FloatKind.f64.format.signWeight:=by
  show(n^^^2^63) % 2^63=n % 2^63
  rw [Nat.xor_mod_two_pow]
  simp
 by_cases h:(FloatKind.f64.format.read n).isNaN=true
 ·rw [flo_nan h,flo_nan (read_nan (by rw [key];exact nan_read h))];rfl
 ·rw [flo_num h];rfl
theorem cut_nan (x y t:Nat):flo .f64 ((Question.nanBits .f64 x y).cut t)=none:=by
 refine flo_nan (read_nan ?_)
 show 9218868437227405312<((t % 2)*2^63+0x7ff0000000000000+1+(t / 2) % (2^52 - 1)) % 9223372036854775808
 have:(t / 2) % (2^52 - 1)<2^52 - 1:=Nat.mod_lt _ (by decide)
 generalize (t / 2) % (2^52 - 1)=r at this⊢
 have h2:t % 2=0∨t % 2=1:=by omega
 rcases h2 with h2|h2<;>rw [h2]<;>omega
theorem fa_sound (op:BinOp) (t:TypeId) {p q d:D} {v u:Value} (hv:VRel g w v p) (hu:VRel g w u q) (hd:faD op p q=some d):
 ∃r w',(binOp op t v u).run P w= .ok r w'∧(w'=w∨w'={w with drawn:=w.drawn+1})∧(∀(x y:Operand) (w1:World),(eqGuard op t x y v u).run P w1= .ok () w1)∧∀(g':G) (w1:World),VRel g' w1 r d:=by
 unfold faD at hd
 split at hd
 ·rename_i a b
  cases hv with
  |c _ _ hv=>cases hv with
  |flt _ m=>cases hu with
  |c _ _ hu=>cases hu with
  |flt _ k=>
   have hg:∀(x y:Operand) (w1:World),(eqGuard op t x y (.float .f64 m) (.float .f64 k)).run P w1= .ok () w1:=fun x y w1=>guard_int (P:=P) (w:=w1) op t x y ⟨by simp,by simp⟩
   have gen:∀(f:Nat→Nat→Option Nat) (z:Sem (Option Nat)) (o:BinOp),(match flo .f64 m,flo .f64 k with|some x,some y=>(f x y).bind (flo .f64)|_,_=>none)=far o (flo .f64 m) (flo .f64 k)→
    ((FloatKind.f64.format.read m).isNaN=true∨(FloatKind.f64.format.read k).isNaN=true→f m k=none)→op=o→d= .c (.flt .f64 (far o (flo .f64 m) (flo .f64 k)))→
    (binOp op t (.float .f64 m) (.float .f64 k)).run P w=(match f m k with|some r=>(.ok (.float .f64 r) w:Result Value)|none=>(do pure (.float .f64 (←choose (.nanBits .f64 m k))):Sem Value).run P w)→
    ∃r w',(binOp op t (.float .f64 m) (.float .f64 k)).run P w= .ok r w'∧(w'=w∨w'={w with drawn:=w.drawn+1})∧(∀(x y:Operand) (w1:World),(eqGuard op t x y (.float .f64 m) (.float .f64 k)).run P w1= .ok () w1)∧∀(g':G) (w1:World),VRel g' w1 r d:=by
    intro f z o h1 h2 h3 h4 h5
    rw [h5]
    cases hf:f m k with
    |some r=>
     refine⟨_,_,rfl, .inl rfl,hg,fun g' w1=> ?_⟩
     rw [h4,←h1]
     have hm:¬(FloatKind.f64.format.read m).isNaN=true:=fun h=>by rw [h2 (.inl h)]at hf;cases hf
     have hk:¬(FloatKind.f64.format.read k).isNaN=true:=fun h=>by rw [h2 (.inr h)]at hf;cases hf
     rw [flo_num hm,flo_num hk]
     simp only [hf,Option.bind_some]
     exact .c _ _ (.flt _ _)
    |none=>
     have hno:(match flo .f64 m,flo .f64 k with|some x,some y=>(f x y).bind (flo .f64)|_,_=>none)=none:=by
      by_cases hm:(FloatKind.f64.format.read m).isNaN=true
      ·rw [flo_nan hm]
      ·by_cases hk:(FloatKind.f64.format.read k).isNaN=true
       ·rw [flo_nan hk];cases flo .f64 m<;>rfl
       ·rw [flo_num hm,flo_num hk];simp only [hf,Option.bind_none]
     have hrel:∀(b:Nat) (g':G) (w1:World),flo .f64 b=none→VRel g' w1 (.float .f64 b) d:=fun b g' w1 hb=>by
      rw [h4,←h1,hno,←hb]
      exact .c _ _ (.flt _ _)
     refine⟨.float .f64 ((Question.nanBits .f64 m k).cut (w.tape w.drawn (.nanBits .f64 m k))),{w with drawn:=w.drawn+1}, ?_, .inr rfl,hg,fun g' w1=>hrel _ g' w1 (cut_nan _ _ _)⟩
     rfl
   have hn1:∀d:Ieee.Datum,∀s t,(Ieee.Datum.nan s t).sum d=none∧d.sum (.nan s t)=none∧(Ieee.Datum.nan s t).product d=none∧d.product (.nan s t)=none∧∀e,(Ieee.Datum.nan s t).quotient e d=none∧d.quotient e (.nan s t)=none:=fun d s t=>by
    cases d<;>exact⟨rfl,rfl,rfl,rfl,fun _=>⟨rfl,rfl⟩⟩
   split at hd<;>cases hd
   ·refine gen FloatKind.f64.format.add (pure none) .add rfl ?_ rfl rfl ?_
    ·rintro(h|h)<;>obtain⟨s,t,h⟩:=isNaN_iff h<;>simp [Ieee.Format.add,h,hn1]
    ·simp only [binOp,ne_eq,not_true,if_false,Op.floatArith]
     cases FloatKind.f64.format.add m k<;>rfl
   ·refine gen FloatKind.f64.format.sub (pure none) .sub rfl ?_ rfl rfl ?_
    ·rintro(h|h)<;>obtain⟨s,t,h⟩:=isNaN_iff h<;>simp [Ieee.Format.sub,h,hn1,Ieee.Datum.opposite]
    ·simp only [binOp,ne_eq,not_true,if_false,Op.floatArith]
     cases FloatKind.f64.format.sub m k<;>rfl
   ·refine gen FloatKind.f64.format.mul (pure none) .mul rfl ?_ rfl rfl ?_
    ·rintro(h|h)<;>obtain⟨s,t,h⟩:=isNaN_iff h<;>simp [Ieee.Format.mul,h,hn1]
    ·simp only [binOp,ne_eq,not_true,if_false,Op.floatArith]
     cases FloatKind.f64.format.mul m k<;>rfl
   ·refine gen FloatKind.f64.format.div (pure none) .quo rfl ?_ rfl rfl ?_
    ·rintro(h|h)<;>obtain⟨s,t,h⟩:=isNaN_iff h<;>simp [Ieee.Format.div,h,hn1]
    ·simp only [binOp,ne_eq,not_true,if_false,Op.floatArith]
     cases FloatKind.f64.format.div m k<;>rfl
 ·cases hd
theorem bin_sound (op:BinOp) (t:TypeId) {p q d:D} {C0:Prop} {v u:Value} (hv:VRel g w v p) (hu:VRel g w u q) (hd:binD P op t p q=some (C0,d)) (hc:C0) (x y:Operand):
 ∃r,Runs P (do eqGuard op t x y v u;binOp op t v u:Sem Value) w r∧VRel g w r d:=by
 unfold binD at hd
 split at hd
 ·rename_i k a k' b
  obtain rfl:=hv.int_inv
  obtain rfl:=hu.int_inv
  have hg:=fun w'=>guard_int (P:=P) (w:=w') op t x y (u:= .int k a) (v:= .int k' b) ⟨by simp,by simp⟩
  split at hd
  ·obtain⟨r,h1,h2⟩:=ishift_sound (P:=P) (g:=g) (w:=w) op k k' a b hd hc t
   exact⟨r,fun w' hw'=>by simp [hg w',h1 w' hw'],h2⟩
  ·rename_i hs
   split at hd
   ·rename_i hk
    subst hk
    obtain⟨r,h1,h2⟩:=ibin_sound (P:=P) (g:=g) (w:=w) op k a b hd hc (by simpa using hs) t
    exact⟨r,fun w' hw'=>by simp [hg w',h1 w' hw'],h2⟩
   ·cases hd
 ·rename_i a b
  obtain rfl:=hv.bool_inv
  obtain rfl:=hu.bool_inv
  have hg:=fun w'=>guard_int (P:=P) (w:=w') op t x y (u:= .bool a) (v:= .bool b) ⟨by simp,by simp⟩
  split at hd<;>cases hd
  all_goals
   rename_i ht
   have he:∀w',(Op.equal t (.bool a) (.bool b)).run P w'= .ok (a==b) w':=fun w'=>equalIn_bool 9999 t a b ht
   refine⟨_, ?_,vbool rfl⟩
   intro w' _
   simp [hg w',binOp,he w']
 ·split at hd<;>cases hd
  all_goals
   rename_i hb
   obtain⟨vs,us,rfl,rfl,hg,_⟩:=eqD_sound hb hv hu w (.refl w)
   refine⟨_, ?_,vbool rfl⟩
   intro w' hw'
   obtain⟨_,_,e1,e2,_,he⟩:=eqD_sound hb hv hu w' hw'
   cases e1;cases e2
  ·simp only [Sem.run_bind,run_eqGuard_agg w' .eql t x y vs us hg,Result.andThen_ok,run_eql_struct,he]
  ·simp only [Sem.run_bind,run_eqGuard_agg w' .neq t x y vs us hg,Result.andThen_ok,run_neq_struct,he]
 ·split at hd<;>cases hd
  rename_i hf
  cases hv with
  |c _ _ hv=>cases hv with
  |flt _ m=>cases hu with
  |c _ _ hu=>cases hu with
  |flt _ k=>
   have hg:=fun w'=>guard_int (P:=P) (w:=w') op t x y (u:= .float .f64 m) (v:= .float .f64 k) ⟨by simp,by simp⟩
   obtain⟨r,h1,h2⟩:=fcmp_sound (P:=P) (g:=g) (w:=w) op m k hf t
   exact⟨r,fun w' hw'=>by simp [hg w',h1 w' hw'],h2⟩
 ·rename_i a b
  have e1:v= .string a:=by
   cases hv with
   |c _ _ hv=>cases hv with
   |str _=>rfl
  have e2:u= .string b:=by
   cases hu with
   |c _ _ hu=>cases hu with
   |str _=>rfl
  subst e1;subst e2
  have hg:=fun w'=>guard_int (P:=P) (w:=w') op t x y (u:= .string a) (v:= .string b) ⟨by simp,by simp⟩
  split at hd<;>cases hd
  all_goals exact⟨_,fun w' _=>by simp [hg w',binOp,Op.stringOp,beq_toListBytes],vbool rfl⟩
 ·cases hd
theorem nilq_sound (op:BinOp) (t:TypeId) {p q:D} {neg:Bool} {C0:Prop} {v u:Value} (hv:VRel g w v p) (hu:VRel g w u q) (hd:nilq P op t p q=some (neg,C0)) (x y:Operand):
 ∃b:Bool,(b=true→C0)∧Runs P (do eqGuard op t x y v u;binOp op t v u:Sem Value) w (.bool (b^^neg)):=by
 have key:∀(a:Option Addr) (n cap:Nat) (e:TypeId) (w':World),P.underlying t=some (.slice e)→(Op.equal t (.slice a n cap) (.slice none 0 0)).run P w'= .ok a.isNone w':=by
  intro a n cap e w' ht
  have go:∀d:Nat,(Op.equalIn (d+1) t (.slice a n cap) (.slice none 0 0)).run P w'= .ok a.isNone w':=by
   intro d
   cases a<;>simp only [Op.equalIn,Sem.run_bind,Go.run_underlying ht,Result.andThen_ok,Sem.run_pure]<;>rfl
  exact go 9999
 have hsl:∀{els:List (List C)} {v:Value},CRel g.I w v (.sl els)→∃a n cap,v= .slice a n cap∧(a.isNone=true→els=[]):=by
  intro els v h
  cases h with
  |slnil a cap hc=>exact⟨a,0,cap,rfl,fun _=>rfl⟩
  |sl b off cap sz _ vs hI hl hc=>exact⟨_,_,cap,rfl,fun h=>by cases h⟩
 have hcase:(∃a n cap,v= .slice a n cap∧(a.isNone=true→C0))∧q= .nil∧(∃e,P.underlying t=some (.slice e))∧((op= .eql∧neg=false)∨(op= .neq∧neg=true)):=by
  unfold nilq at hd
  split at hd
  ·rename_i e ht
   suffices h:(∃a n cap,v= .slice a n cap∧(a.isNone=true→C0))∧neg=false from⟨h.1,rfl,⟨e,ht⟩, .inl ⟨rfl,h.2⟩⟩
   split at hd<;>cases hd
   ·cases hv with
    |c _ _ hv=>exact⟨hsl hv,rfl⟩
   ·cases hv with
    |csl _ _ hv=>exact⟨hsl hv,rfl⟩
   ·cases hv with
    |vec a' cap' _ _ a0 len cap hk hle hm ha hvq=>
     refine⟨⟨_,_,_,rfl,fun hn=> ?_⟩,rfl⟩
     rcases ha with ha|⟨b,o,ha⟩
     ·exact ha
     ·rw [ha]at hn;cases hn
   ·cases hv
    exact⟨⟨_,_,_,rfl,fun _=>trivial⟩,rfl⟩
  ·rename_i e ht
   suffices h:(∃a n cap,v= .slice a n cap∧(a.isNone=true→C0))∧neg=true from⟨h.1,rfl,⟨e,ht⟩, .inr ⟨rfl,h.2⟩⟩
   split at hd<;>cases hd
   ·cases hv with
    |c _ _ hv=>exact⟨hsl hv,rfl⟩
   ·cases hv with
    |csl _ _ hv=>exact⟨hsl hv,rfl⟩
   ·cases hv with
    |vec a' cap' _ _ a0 len cap hk hle hm ha hvq=>
     refine⟨⟨_,_,_,rfl,fun hn=> ?_⟩,rfl⟩
     rcases ha with ha|⟨b,o,ha⟩
     ·exact ha
     ·rw [ha]at hn;cases hn
   ·cases hv
    exact⟨⟨_,_,_,rfl,fun _=>trivial⟩,rfl⟩
  ·cases hd
 obtain⟨⟨a,n,cap,rfl,hn⟩,rfl,⟨e,ht⟩,hop⟩:=hcase
 cases hu
 refine⟨a.isNone,hn,fun w' _=> ?_⟩
 have hg:=fun w'=>guard_int (P:=P) (w:=w') op t x y (u:= .slice a n cap) (v:= .slice none 0 0) ⟨by simp,by simp⟩
 rcases hop with⟨rfl,rfl⟩|⟨rfl,rfl⟩
 ·simp [hg w',binOp,key a n cap e w' ht]
 ·simp [hg w',binOp,key a n cap e w' ht]
theorem un_sound (op:UnOp) {p d:D} {v:Value} (hv:VRel g w v p) (hd:unD op p=some d):∃r,Runs P (Op.unary op v) w r∧VRel g w r d:=by
 unfold unD at hd
 split at hd<;>cases hd
 ·cases hv with
  |c _ _ hv=>cases hv with
  |bool b=>exact⟨_,fun w' _=>by simp [Op.unary], .c _ _ (.bool _)⟩
 ·cases hv with
  |c _ _ hv=>cases hv with
  |int k n=>exact⟨_,fun w' _=>by simp [Op.unary,Op.intArith], .c _ _ (.int _ _)⟩
 ·cases hv with
  |c _ _ hv=>cases hv with
  |flt k n=>exact⟨.float .f64 (Op.negFloat .f64 n),fun w' _=>by simp [Op.unary], .c _ _ (by rw [neg_eq];exact .flt _ _)⟩
theorem run_convert_ii (t u:TypeId) (k k':IntKind) (n:Int) {e:TypeDesc} (h1:P.underlying t=some e) (h2:P.underlying u=some (.int k')):(convert t u (.int k n)).run P w= .ok (.int k' (k'.wrap n)) w:=by
 unfold convert
 rw [Sem.run_bind,Go.run_underlying h1]
 simp only [Result.andThen]
 rw [Sem.run_bind,Go.run_underlying h2]
 simp only [Result.andThen,Conv.intToInt,Sem.run_pure]
theorem octs_spec:∀{els:List (List C)} {bs:List UInt8},octs els=some bs→∃ns:List Int,els=ns.map (fun n=>[C.int .u8 n])∧bs=ns.map fun n=>UInt8.ofNat n.toNat
 |[],bs,h=>by simp only [octs,Option.some.injEq]at h;exact⟨[],rfl,h.symm⟩
 |e::l,bs,h=>by
  unfold octs at h
  split at h
  ·rename_i he;cases he
  ·rename_i n l' he
   simp only [List.cons.injEq]at he
   obtain⟨rfl,rfl⟩:=he
   split at h<;>cases h
   rename_i bs' hb
   obtain⟨ns,h1,h2⟩:=octs_spec hb
   exact⟨n::ns,by rw [h1];rfl,by rw [h2];rfl⟩
  ·cases h
theorem push_fold:∀(ns:List Int) (r:ByteArray),ns.foldl (fun r n=>r.push (UInt8.ofNat n.toNat)) r=⟨(r.data.toList++ns.map fun n=>UInt8.ofNat n.toNat).toArray⟩
 |[],r=>by simp
 |n::ns,r=>by
  rw [List.foldl_cons,push_fold ns]
  congr 2
  simp [ByteArray.push]
theorem b2s_sound {t u:TypeId} {els:List (List C)} {v:Value} {d:D} (hv:CRel g.I w v (.sl els)) (hd:b2sD P t u els=some d):∃r,Runs P (convert t u v) w r∧VRel g w r d:=by
 unfold b2sD at hd
 split at hd
 rotate_left
 ·cases hd
 rename_i hb
 split at hd<;>cases hd
 rename_i bs hbs
 obtain⟨ns,rfl,rfl⟩:=octs_spec hbs
 refine⟨_,fun w' hw'=> ?_, .c _ _ (.str _)⟩
 have hb2:∃e,P.underlying t=some (.slice e)∧P.underlying u=some .string∧P.underlying e=some (.int .u8):=by
  unfold b2sOf at hb
  split at hb
  ·rename_i e h1 h2
   split at hb
   ·rename_i i h3 h4
    exact⟨e,h1,h2,h3⟩
   ·cases hb
  ·cases hb
 obtain⟨e,h1,h2,h3⟩:=hb2
 have hrun:(Conv.bytesToString v).run P w'= .ok (.string ⟨(ns.map fun n=>UInt8.ofNat n.toNat).toArray⟩) w':=by
  generalize hx:(ns.map fun n=>[C.int .u8 n])=els at hv
  cases hv with
  |slnil a cap hc=>
   have:ns=[]:=by simpa using hx
   subst this
   cases a with
   |none=>rfl
   |some a=>
    have:=run_bytesToString (P:=P) w' a 0 cap [] (by rfl)
    exact this
  |sl b off cap sz _ vs hI hl hc hsz hcell hrel=>
   have hlen:els.length=ns.length:=by rw [←hx];simp
   have hl2:=run_loadCells (P:=P) (w:=w') ⟨b,off,none⟩ els.length (fun j=> .int .u8 (ns.getD j 0)) (fun j hj=>by
    have e:(Addr.add ⟨b,off,none⟩ j)=⟨b,off+j,none⟩:=by
     unfold Addr.add;split
     ·subst_vars;rfl
     ·rfl
    rw [e]
    have hjn:j<ns.length:=by omega
    have hx1:els[j]? =some [C.int .u8 ns[j]]:=by rw [←hx];simp [hjn]
    have hsz1:sz=1:=by have:=hsz _ (List.mem_of_getElem? hx1);simpa using this.symm
    have hc1:=hcell j 0 _ _ hx1 rfl
    have hr1:=hrel j 0 _ _ hx1 rfl
    rw [hsz1,Nat.mul_one,Nat.add_zero]at hc1
    refine hw'.cell ?_
    rw [hc1]
    generalize vs j 0=u at hr1
    cases hr1
    simp [List.getD_eq_getElem?_getD,hjn])
   have h4:((List.range els.length).map (fun j=>Value.int .u8 (ns.getD j 0)))=ns.map (Value.int .u8):=by
    rw [hlen]
    apply List.ext_getElem
    ·simp
    ·intro i h1 h2
     simp at h1
     simp [List.getD_eq_getElem?_getD,h1]
   rw [h4]at hl2
   rw [run_bytesToString w' ⟨b,off,none⟩ els.length cap ns hl2,push_fold]
   rfl
 unfold convert
 rw [Sem.run_bind,Go.run_underlying h1]
 simp only [Result.andThen]
 rw [Sem.run_bind,Go.run_underlying h2]
 simp only [Result.andThen]
 have hsl:∃a n c,v= .slice a n c:=by
  generalize (ns.map fun n=>[C.int .u8 n])=els at hv
  cases hv<;>exact⟨_,_,_,rfl⟩
 obtain⟨a,n,c,rfl⟩:=hsl
 simp only [Sem.run_bind,Go.run_underlying h3,Result.andThen]
 exact hrun
theorem conv_sound (t u:TypeId) {p d:D} {v:Value} (hv:VRel g w v p) (hd:convD P t u p=some d):∃r,Runs P (convert t u v) w r∧VRel g w r d:=by
 unfold convD at hd
 split at hd
 ·obtain rfl:=hv.int_inv
  split at hd
  ·rename_i e k' h1 h2
   cases hd
   unfold inOf at h2
   unfold kdOf at h1
   cases hu:P.underlying u with
   |none=>simp [hu]at h2
   |some d=>
    rw [hu]at h2
    cases d<;>simp only [reduceCtorEq]at h2
    cases h2
    exact⟨_,fun w' _=>run_convert_ii t u _ _ _ h1 hu, .c _ _ (.int _ _)⟩
  ·rename_i e h1 _
   split at hd
   ·rename_i h2
    cases hd
    unfold kdOf at h1 h2
    refine⟨.float .f64 (FloatKind.f64.nearest _),fun w' _=> ?_, .c _ _ (.flt _ _)⟩
    unfold convert
    rw [Sem.run_bind,Go.run_underlying h1]
    simp only [Result.andThen]
    rw [Sem.run_bind,Go.run_underlying h2]
    simp only [Result.andThen,Conv.intToFloat,Sem.run_pure]
   ·cases hd
  ·cases hd
 ·cases hv with
  |c _ _ hv=>exact b2s_sound hv hd
 ·cases hv with
  |csl a els hv=>exact b2s_sound hv hd
 ·cases hv with
  |nil=>exact b2s_sound (.slnil none 0 (Nat.zero_le _)) hd
 ·cases hd
theorem ext_sound (i:Nat) {p d:D} {v:Value} (hv:VRel g w v p) (hd:extD p i=some d):∃r,Runs P (Instr.extract v i) w r∧VRel g w r d:=by
 unfold extD at hd
 split at hd
 ·cases hv with
  |tup vs _ hl hp=>
   obtain⟨r,hr⟩:=agg_cell hl hd
   exact⟨r,fun w' _=>by simp [Instr.extract,hr],hp _ _ _ hr hd⟩
 ·cases hd
theorem CRel.len {I:Nat→Prop} {v:Value} {els:List (List C)} (h:CRel I w v (.sl els)):∃a cap,v= .slice a els.length cap∧els.length≤cap∧cap≤maxLen:=by
 cases h with
 |slnil a cap hc=>exact⟨a,cap,rfl,by simp,hc⟩
 |sl b off cap sz _ vs hI hl hc=>exact⟨_,cap,rfl,hl,hc⟩
theorem len_sound (t:TypeId) (ty:TypeId) (ht:(elOf P t).isSome=true) {p d:D} {C0:Prop} {v:Value} (hv:VRel g w v p) (hd:lenD p=some (C0,d)):
 C0∧∃r,Runs P (Builtin.len_ #[t] ty #[v]) w r∧VRel g w r d:=by
 obtain⟨x,hx⟩:=Option.isSome_iff_exists.1 ht
 obtain⟨hu,_⟩:=elOf_spec hx
 unfold lenD at hd
 have hm:maxLen≤9223372036854775807:=by decide
 split at hd<;>cases hd
 ·cases hv with
  |c _ _ hv=>
   obtain⟨a,cap,rfl,h1,h2⟩:=CRel.len hv
   exact⟨by omega,_,fun w' _=>by simp [Builtin.len_,Go.underlying,hu,goInt], .c _ _ (.int _ _)⟩
 ·cases hv with
  |csl a _ hv=>
   obtain⟨_,_,h0,h1,h2⟩:=CRel.len hv
   cases h0
   exact⟨by omega,_,fun w' _=>by simp [Builtin.len_,Go.underlying,hu,goInt], .c _ _ (.int _ _)⟩
 ·cases hv
  exact⟨trivial,_,fun w' _=>by simp [Builtin.len_,Go.underlying,hu,goInt], .c _ _ (.int _ _)⟩
 ·cases hv with
  |vec a' cap' _ _ a0 len cap hk hn hm' ha hv=>
   exact⟨by omega,_,fun w' _=>by simp [Builtin.len_,Go.underlying,hu,goInt], .c _ _ (.int _ _)⟩
 ·cases hv with
  |view a' cap' _ _ _ lo hi a0 len cap hk hn hl hh hm' hv=>
   exact⟨by omega,_,fun w' _=>by simp [Builtin.len_,Go.underlying,hu,goInt], .c _ _ (.int _ _)⟩
end
open Go
section
variable {δ:List Deferred} {P:Program} {g:G} {s:St} {a:Act} {w:World}
theorem min_sound (ts:Array TypeId) (ty:TypeId) {l:List D} {vs:Array Value} {d:D} (hl:vs.size=l.length)
 (hp:∀(i:Nat) (v:Value) (d:D),vs[i]? =some v→l[i]? =some d→VRel g w v d) (hd:minD l=some d):
 ∃r,Runs P (Builtin.min_ ts ty vs) w r∧VRel g w r d:=by
 unfold minD at hd
 split at hd<;>cases hd
 rename_i k a k' b
 obtain⟨x,y,rfl⟩:∃x y,vs= #[x,y]:=by
  obtain⟨l⟩:=vs
  match l,hl with
  |[x,y],_=>exact⟨x,y,rfl⟩
 obtain rfl:=(hp 0 x _ rfl rfl).int_inv
 obtain rfl:=(hp 1 y _ rfl rfl).int_inv
 exact⟨_,fun w' _=>by simp [Builtin.min_,Builtin.min2], .c _ _ (.int _ _)⟩
theorem max_sound (ts:Array TypeId) (ty:TypeId) {l:List D} {vs:Array Value} {d:D} (hl:vs.size=l.length)
 (hp:∀(i:Nat) (v:Value) (d:D),vs[i]? =some v→l[i]? =some d→VRel g w v d) (hd:maxD l=some d):
 ∃r,Runs P (Builtin.max_ ts ty vs) w r∧VRel g w r d:=by
 unfold maxD at hd
 split at hd<;>cases hd
 rename_i k a k' b
 obtain⟨x,y,rfl⟩:∃x y,vs= #[x,y]:=by
  obtain⟨l⟩:=vs
  match l,hl with
  |[x,y],_=>exact⟨x,y,rfl⟩
 obtain rfl:=(hp 0 x _ rfl rfl).int_inv
 obtain rfl:=(hp 1 y _ rfl rfl).int_inv
 exact⟨_,fun w' _=>by simp [Builtin.max_,Builtin.max2], .c _ _ (.int _ _)⟩
theorem CRel.cut {I:Nat→Prop} {a0:Option Addr} {n cap:Nat} {els:List (List C)} (h:CRel I w (.slice a0 n cap) (.sl els)) {l hh m z:Nat}
 (h1:l≤hh) (h2:hh≤n) (h3:hh≤m) (h4:m≤cap) (h5:l=0∨Wide z els):
 CRel I w (.slice (if m=l then a0 else a0.map (·.add (l*z))) (hh - l) (m - l)) (.sl ((els.take hh).drop l)):=by
 by_cases he:l=hh
 ·subst he
  have e1:(els.take l).drop l=[]:=by simp
  rw [e1,Nat.sub_self]
  have hc:m - l≤maxLen:=by
   cases h with
   |slnil a cap hc=>omega
   |sl b off cap sz _ vs hb hl hc=>omega
  exact .slnil _ _ hc
 ·cases h with
  |slnil a cap hc=>omega
  |sl b off cap sz _ vs hb hl hc hsz hcell hrel=>
   have hm:m≠l:=by omega
   have ho:l*z=l*sz:=by
    rcases h5 with h5|h5
    ·subst h5;omega
    ·have hi:l<els.length:=by omega
     have h6:=hsz els[l] (List.getElem_mem hi)
     have h7:=h5 els[l] (List.getElem_mem hi)
     have:z=sz:=by omega
     rw [this]
   have hlen:((els.take hh).drop l).length=hh - l:=by simp;omega
   rw [if_neg hm,Option.map_some,addr_add,←hlen,ho]
   have hget:∀(i:Nat) (x:List C),((els.take hh).drop l)[i]? =some x→els[l+i]? =some x:=fun i x hx=>by
    rw [List.getElem?_drop,List.getElem?_take]at hx
    split at hx
    ·exact hx
    ·cases hx
   refine .sl b (off+l*sz) (m - l) sz _ (fun i j=>vs (l+i) j) hb (by omega) (by omega) (fun x hx=>hsz x (List.mem_of_mem_take (List.mem_of_mem_drop hx))) (fun i j x y hx hy=> ?_) (fun i j x y hx hy=>hrel _ _ _ _ (hget i x hx) hy)
   have:=hcell (l+i) j x y (hget i x hx) hy
   rwa [show off+(l+i)*sz+j=off+l*sz+i*sz+j by rw [Nat.add_mul];omega]at this
theorem elOf_elem {t:TypeId} {x:TypeId×Nat×Nat} (h:elOf P t=some x):P.underlying t=some (.slice (P.elem t))∧∀w,(Go.sizeOf (P.elem t)).run P w= .ok x.2.1 w:=by
 obtain⟨h1,h2⟩:=elOf_spec h
 have e:P.elem t=x.1:=by simp [Program.elem,h1]
 rw [e]
 exact⟨h1,fun w=>elOf_size h w⟩
theorem OptRel.some_inv {x:Option Operand} {k:IntKind} {i:Int} (hr:Rel δ g s a w) (h:x.map s.ev=some (.int k i)):x.map a.eval=some (.int k i):=by
 cases x with
 |none=>cases h
 |some x=>
  simp only [Option.map_some,Option.some.injEq]at h⊢
  have:=hr.ev x
  rw [h]at this
  exact this.int_inv
theorem OptRel.none_inv {x:Option Operand} (h:x.map s.ev=none):x.map a.eval=none:=by
 cases x with
 |none=>rfl
 |some x=>cases h
theorem slice_sound (hr:Rel δ g s a w) (t:TypeId) {p d:D} {lo hi mx:Option Operand} {C0:Prop} {v:Value} (hv:VRel g w v p)
 (hd:sliceD P t p (lo.map s.ev) (hi.map s.ev) (mx.map s.ev)=some (C0,d)) (hc:C0):
 ∃r,Runs P (Instr.sliceAt t v (lo.map a.eval) (hi.map a.eval) (mx.map a.eval)) w r∧VRel g w r d:=by
 unfold sliceD at hd
 split at hd
 ·rename_i els e z y he
  obtain⟨hu,hs⟩:=elOf_elem he
  cases hv with
  |c _ _ hv=>
  obtain⟨a0,cap,rfl,hle,hcap⟩:=CRel.len hv
  split at hd<;>try cases hd
  ·rename_i h1 h2 h3
   rw [OptRel.none_inv h1,OptRel.none_inv h2,OptRel.none_inv h3]
   have hrun:∀w',(Instr.sliceAt t (.slice a0 els.length cap) none none none).run P w'= .ok (sliced a0 0 els.length cap z) w':=fun w'=>by rw [run_sliceAt_slice (h:=hu),run_slice_all w' t a0 _ cap hu,hs w'];rfl
   have:=hv.cut (l:=0) (hh:=els.length) (m:=cap) (z:=z) (Nat.zero_le _) (Nat.le_refl _) hle (Nat.le_refl _) (.inl rfl)
   simp only [List.drop_zero,List.take_length]at this
   exact⟨_,fun w' _=>hrun w', .c _ _ this⟩
  ·rename_i k h h1 h2 h3
   rw [OptRel.none_inv h1,OptRel.some_inv hr h2,OptRel.none_inv h3]
   have hrun:∀w',(Instr.sliceAt t (.slice a0 els.length cap) none (some (.int k h)) none).run P w'= .ok (sliced a0 0 h.toNat cap z) w':=fun w'=>by rw [run_sliceAt_slice (h:=hu),run_slice_h w' t a0 _ cap hu _ _ hc.1 (by omega),hs w'];rfl
   have:=hv.cut (l:=0) (hh:=h.toNat) (m:=cap) (z:=z) (Nat.zero_le _) (by omega) (by omega) (Nat.le_refl _) (.inl rfl)
   simp only [List.drop_zero]at this
   exact⟨_,fun w' _=>hrun w', .c _ _ this⟩
  ·rename_i k l h1 h2 h3
   obtain⟨hc,hw⟩:=hc
   rw [OptRel.some_inv hr h1,OptRel.none_inv h2,OptRel.none_inv h3]
   have hrun:∀w',(Instr.sliceAt t (.slice a0 els.length cap) (some (.int k l)) none none).run P w'= .ok (sliced a0 l.toNat els.length cap z) w':=fun w'=>by rw [run_sliceAt_slice (h:=hu),run_slice_l w' t a0 _ cap hu _ _ hc.1 hc.2,hs w'];rfl
   have:=hv.cut (l:=l.toNat) (hh:=els.length) (m:=cap) (z:=z) (by omega) (Nat.le_refl _) hle (Nat.le_refl _) (.inr hw)
   simp only [List.take_length]at this
   exact⟨_,fun w' _=>hrun w', .c _ _ this⟩
  ·rename_i k l k' h h1 h2 h3
   obtain⟨hc,hw⟩:=hc
   rw [OptRel.some_inv hr h1,OptRel.some_inv hr h2,OptRel.none_inv h3]
   have hrun:∀w',(Instr.sliceAt t (.slice a0 els.length cap) (some (.int k l)) (some (.int k' h)) none).run P w'= .ok (sliced a0 l.toNat h.toNat cap z) w':=fun w'=>by rw [run_sliceAt_slice (h:=hu),run_slice_lh w' t a0 _ cap hu _ _ _ _ hc.1 hc.2.1 (by omega),hs w'];rfl
   have:=hv.cut (l:=l.toNat) (hh:=h.toNat) (m:=cap) (z:=z) (by omega) (by omega) (by omega) (Nat.le_refl _) (.inr hw)
   exact⟨_,fun w' _=>hrun w', .c _ _ this⟩
  ·rename_i k h k' m h1 h2 h3
   obtain⟨hc1,hc2,rfl⟩:=hc
   rw [OptRel.none_inv h1,OptRel.some_inv hr h2,OptRel.some_inv hr h3]
   have hrun:∀w',(Instr.sliceAt t (.slice a0 els.length cap) none (some (.int k m)) (some (.int k' m))).run P w'= .ok (sliced a0 0 m.toNat m.toNat z) w':=fun w'=>by rw [run_sliceAt_slice (h:=hu),run_slice_hm w' t a0 _ cap hu _ _ _ _ hc1 (by omega) (by omega),hs w'];rfl
   have h4:=hv.cut (l:=0) (hh:=m.toNat) (m:=m.toNat) (z:=z) (Nat.zero_le _) (by omega) (Nat.le_refl _) (by omega) (.inl rfl)
   simp only [List.drop_zero]at h4
   have hl:(els.take m.toNat).length=m.toNat:=by simp;omega
   refine⟨_,fun w' _=>hrun w', ?_⟩
   show VRel g w (sliced a0 0 m.toNat m.toNat z) _
   simp only [sliced,Nat.sub_zero]at h4⊢
   have h5:=VRel.csl (g:=g) (w:=w) (if m.toNat=0 then a0 else a0.map (·.add (0*z))) (els.take m.toNat) (by rw [hl];exact h4)
   rwa [hl]at h5
 ·rename_i x he
  obtain⟨x1,x2,x3⟩:=x
  obtain⟨hu,hs⟩:=elOf_elem he
  cases hv
  split at hd<;>cases hd
  ·rename_i k h h1 h2 h3
   subst hc
   rw [OptRel.none_inv h1,OptRel.some_inv hr h2,OptRel.none_inv h3]
   have hrun:∀w',(Instr.sliceAt t (.slice none 0 0) none (some (.int k 0)) none).run P w'= .ok (sliced none 0 (0:Int).toNat 0 x2) w':=fun w'=>by rw [run_sliceAt_slice (h:=hu),run_slice_h w' t none _ 0 hu _ _ (by omega) (by omega),hs w'];rfl
   exact⟨_,fun w' _=>hrun w', .nil⟩
  ·rename_i k h h1 h2 h3
   subst hc
   rw [OptRel.some_inv hr h1,OptRel.none_inv h2,OptRel.none_inv h3]
   have hrun:∀w',(Instr.sliceAt t (.slice none 0 0) (some (.int k 0)) none none).run P w'= .ok (sliced none (0:Int).toNat 0 0 x2) w':=fun w'=>by rw [run_sliceAt_slice (h:=hu),run_slice_l w' t none _ 0 hu _ _ (by omega) (by omega),hs w'];rfl
   exact⟨_,fun w' _=>hrun w', .nil⟩
 ·cases hd
end
open Go
section
variable {P:Program} {g g':G} {s:St} {a:Act} {w w':World}
theorem lk_upd {α:Type} (i j:Nat) (y:α):∀(l:List (Nat×α)),lk j (upd i y l)=if j=i∧(lk i l).isSome=true then some y else lk j l
 |[]=>by simp [upd,lk]
 |(m,x)::l=>by
  simp only [upd]
  by_cases h:i=m
  ·subst h
   by_cases h2:j=i
   ·subst h2;simp [lk]
   ·simp [lk,h2]
  ·rw [if_neg h]
   simp only [lk_cons,if_neg h]
   by_cases h2:j=m
   ·subst h2
    have:¬j=i:=fun e=>h e.symm
    simp [this]
   ·rw [if_neg h2,if_neg h2,lk_upd]
theorem OK.mono {id:Nat} {o:Ob} (h:OK g w id o) (hk:Keeps g.I w w') (hg:g.Le g') (hb:∀b,g.blk id o=some b→w'.heap[b]? =w.heap[b]?) (hκ:g'.κ id=g.κ id):OK g' w' id o:=by
 cases o with
 |box cs=>
  obtain⟨b,e,cells,h1,h2,h3,h4⟩:=h
  exact⟨b,e,cells,hg.ρ _ _ h1,by rw [hb b h1];exact h2,h3,fun i v d hv hd=>(h4 i v d hv hd).mono hk hg⟩
 |vec hd sz e els=>
  obtain⟨a0,cap,h1,h2,h3,h4,h5⟩:=h
  refine⟨a0,cap,by rw [hκ];exact h1,h2,h3,h4, ?_⟩
  rcases h5 with h5|⟨b,off,cells,vs,rfl,h6,h7,h9,h8⟩
  ·exact .inl h5
  ·refine .inr ⟨b,off,cells,vs,rfl, ?_,h7,h9,fun i j x y hx hy=>⟨(h8 i j x y hx hy).1,(h8 i j x y hx hy).2.mono hk hg.I⟩⟩
   rw [hb b (by simp [G.blk,h1])]
   exact h6
 |map kt kv=>
  obtain⟨b,es,h1,h2,h3,h4,h5,h6⟩:=h
  exact⟨b,es,hg.ρ _ _ h1,by rw [hb b h1];exact h2,h3,h4,h5,fun i e x he hx=>⟨(h6 i e x he hx).1,(h6 i e x he hx).2.1,(h6 i e x he hx).2.2.mono hk hg⟩⟩
 |it kv seen=>
  obtain⟨b,h1,h2⟩:=h
  refine⟨b,hg.ρ _ _ h1, ?_⟩
  rcases h2 with⟨h2,h3,h4⟩|⟨mb,kt,kv',es,ix,h2,h3,h4,h5⟩
  ·exact .inl ⟨h2,h3,by rw [hb b h1];exact h4⟩
  ·exact .inr ⟨mb,kt,kv',es,ix,by rw [hb b h1];exact h2,hg.I _ h3,⟨by rw [hk mb h3];exact h4.heap,h4.es,h4.perm,h4.nd,h4.fit⟩,h5⟩
theorem OK.lt {id:Nat} {o:Ob} (h:OK g w id o):(∀b,g.blk id o=some b→b<w.heap.size)∧(g.ρ id≠none∨g.κ id≠none):=by
 have hlt:∀(b:Nat) (o:Obj),w.heap[b]? =some o→b<w.heap.size:=fun b o hb=>by
  rcases Nat.lt_or_ge b w.heap.size with h|h
  ·exact h
  ·rw [Array.getElem?_eq_none h]at hb;cases hb
 cases o with
 |box cs=>
  obtain⟨b,e,cells,h1,h2,h3,h4⟩:=h
  refine⟨fun b' hb=> ?_, .inl (by rw [h1];simp)⟩
  simp only [G.blk,h1,Option.some.injEq]at hb
  exact hb▸hlt _ _ h2
 |vec hd sz e els=>
  obtain⟨a0,cap,h1,h2,h3,h4,h5⟩:=h
  refine⟨fun b' hb=> ?_, .inr (by rw [h1];simp)⟩
  rcases h5 with⟨rfl,_⟩|⟨b,off,cells,vs,rfl,h6,h7,h9,h8⟩
  ·simp [G.blk,h1]at hb
  ·simp only [G.blk,h1,Option.some.injEq]at hb
   exact hb▸hlt _ _ h6
 |map kt kv=>
  obtain⟨b,es,h1,h2,_⟩:=h
  refine⟨fun b' hb=> ?_, .inl (by rw [h1];simp)⟩
  simp only [G.blk,h1,Option.some.injEq]at hb
  exact hb▸hlt _ _ h2
 |it kv seen=>
  obtain⟨b,h1,h2⟩:=h
  refine⟨fun b' hb=> ?_, .inl (by rw [h1];simp)⟩
  simp only [G.blk,h1,Option.some.injEq]at hb
  rcases h2 with⟨_,_,h4⟩|⟨mb,kt,kv',es,ix,h2,_⟩
  ·exact hb▸hlt _ _ h4
  ·exact hb▸hlt _ _ h2
theorem RelO.lt (h:RelO g s w) {id:Nat} {o:Ob} (ho:lk id s.os=some o):id<s.nx:=by
 rcases Nat.lt_or_ge id s.nx with h1|h1
 ·exact h1
 ·obtain⟨h2,h3⟩:=h.fresh id h1
  rcases(h.ok id o ho).lt.2 with h4|h4
  ·exact absurd h2 h4
  ·exact absurd h3 h4
theorem Own.lt (h:RelO g s w) {b:Nat} (ho:Own g s b):b<w.heap.size:=by
 obtain⟨id,o,h1,h2⟩:=ho
 exact(h.ok id o h1).lt.1 b h2
theorem Own.cel (h:RelO g s w) {b:Nat} (ho:Own g s b):Cel w b:=by
 obtain⟨id,o,h1,h2⟩:=ho
 have:=h.ok id o h1
 cases o with
 |box cs=>
  obtain⟨b',e,cells,h3,h4,_⟩:=this
  simp only [G.blk,h3,Option.some.injEq]at h2
  subst h2
  exact .of h4
 |vec hd sz e els=>
  obtain⟨a0,cap,h3,h4,h5,h6,h7⟩:=this
  rcases h7 with⟨rfl,_⟩|⟨b',off,cells,vs,rfl,h8,_⟩
  ·simp [G.blk,h3]at h2
  ·simp [G.blk,h3]at h2
   subst h2
   exact .of h8
 |map kt kv=>
  obtain⟨b',es,h3,h4,_⟩:=this
  simp only [G.blk,h3,Option.some.injEq]at h2
  subst h2
  exact⟨_,h4,rfl⟩
 |it kv seen=>
  obtain⟨b',h3,h4⟩:=this
  simp only [G.blk,h3,Option.some.injEq]at h2
  subst h2
  rcases h4 with⟨_,_,h4⟩|⟨mb,kt,kv',es,ix,h4,_⟩
  ·exact⟨_,h4,rfl⟩
  ·exact⟨_,h4,rfl⟩
theorem RelO.add (h:RelO g s w) (o:Ob) (tm:List (Nat×D)) (hg:g.Le g') (hI:∀b,g'.I b→g.I b) (hρ:∀i,i≠s.nx→g'.ρ i=g.ρ i) (hκ:∀i,i≠s.nx→g'.κ i=g.κ i)
 (hsz:w.heap.size≤w'.heap.size) (hs:∀b,b<w.heap.size→w'.heap[b]? =w.heap[b]?) (ho:OK g' w' s.nx o) (hb:∀b,g'.blk s.nx o=some b→w.heap.size≤b) (he:Env w w':=by exact⟨rfl,rfl,rfl,Nat.le_refl _⟩):
 RelO g' ⟨tm,(s.nx,o)::s.os,s.nx+1⟩ w'∧Step g s w g' ⟨tm,(s.nx,o)::s.os,s.nx+1⟩ w':=by
 have hk:Keeps g.I w w':=fun b hb=>hs b (h.imm b hb).1
 have hblk:∀id o',lk id s.os=some o'→g'.blk id o'=g.blk id o':=fun id o' h1=>by
  have:=h.lt h1
  cases o' with
  |box cs=>exact hρ id (by omega)
  |map kt kv=>exact hρ id (by omega)
  |it kv seen=>exact hρ id (by omega)
  |vec hd sz e els=>simp only [G.blk,hκ id (by omega)]
 have hold:∀b,b<w.heap.size→Own g' ⟨tm,(s.nx,o)::s.os,s.nx+1⟩ b→Own g s b:=fun b hlt ⟨id,o',h1,h2⟩=>by
  simp only [lk_cons]at h1
  split at h1
  ·rename_i e;subst e;cases h1
   have:=hb b h2
   omega
  ·exact⟨id,o',h1,by rw [←hblk id o' h1];exact h2⟩
 refine⟨⟨fun id o' h1=> ?_,fun id o1 id' o2 b h1 h2 h3 h4=> ?_,fun id hid=> ?_,fun b hb'=> ?_,h.cel.keep hg.I hk fun b hb'=>(h.cel b (hI b hb')).keep (hs b (h.imm b (hI b hb')).1)⟩,⟨hg,hsz,fun b hb _=>hs b hb,fun b hlt hno ho'=>hno (hold b hlt ho'),fun b _ _ hb=>hI b hb,he⟩⟩
 ·simp only [lk_cons]at h1
  split at h1
  ·rename_i e;subst e;cases h1;exact ho
  ·have hlt:=h.lt h1
   exact(h.ok id o' h1).mono hk hg (fun b hb=>hs b ((h.ok id o' h1).lt.1 b hb)) (hκ id (by omega))
 ·simp only [lk_cons]at h1 h2
  split at h1<;>split at h2
  ·rename_i e1 e2;rw [e1,e2]
  ·rename_i e1 e2
   cases h1;subst e1
   have:=hb b h3
   rw [hblk id' o2 h2]at h4
   have:=(h.ok id' o2 h2).lt.1 b h4
   omega
  ·rename_i e1 e2
   cases h2;subst e2
   have:=hb b h4
   rw [hblk id o1 h1]at h3
   have:=(h.ok id o1 h1).lt.1 b h3
   omega
  ·rw [hblk id o1 h1]at h3
   rw [hblk id' o2 h2]at h4
   exact h.apart id o1 id' o2 b h1 h2 h3 h4
 ·have hid':s.nx+1≤id:=hid
  rw [hρ id (by omega),hκ id (by omega)]
  exact h.fresh id (by omega)
 ·have:=h.imm b (hI b hb')
  exact⟨Nat.lt_of_lt_of_le this.1 hsz,fun ho'=>this.2 (hold b this.1 ho')⟩
theorem RelO.replace (h:RelO g s w) {id:Nat} {o:Ob} (hid:lk id s.os=some o) (o':Ob) (tm:List (Nat×D)) (hg:g.Le g') (hI:∀b,g'.I b→g.I b)
 (hρ:∀i,i≠id→g'.ρ i=g.ρ i) (hκ:∀i,i≠id→g'.κ i=g.κ i) (hsz:w.heap.size≤w'.heap.size)
 (hs:∀b,b<w.heap.size→g.blk id o≠some b→w'.heap[b]? =w.heap[b]?) (ho:OK g' w' id o') (hb:∀b,g'.blk id o'=some b→g.blk id o=some b∨w.heap.size≤b) (he:Env w w':=by exact⟨rfl,rfl,rfl,Nat.le_refl _⟩):
 RelO g' ⟨tm,upd id o' s.os,s.nx⟩ w'∧Step g s w g' ⟨tm,upd id o' s.os,s.nx⟩ w':=by
 have hlk:∀j,lk j (upd id o' s.os)=if j=id then some o' else lk j s.os:=fun j=>by rw [lk_upd,hid];simp
 have hk:Keeps g.I w w':=fun b hb=>hs b (h.imm b hb).1 fun e=>(h.imm b hb).2 ⟨id,o,hid,e⟩
 have hblk:∀j o',j≠id→lk j s.os=some o'→g'.blk j o'=g.blk j o':=fun j o' hne h1=>by
  cases o' with
  |box cs=>exact hρ j hne
  |map kt kv=>exact hρ j hne
  |it kv seen=>exact hρ j hne
  |vec hd sz e els=>simp only [G.blk,hκ j hne]
 have hold:∀b,b<w.heap.size→Own g' ⟨tm,upd id o' s.os,s.nx⟩ b→Own g s b:=fun b hlt ⟨j,o1,h1,h2⟩=>by
  simp only [hlk]at h1
  split at h1
  ·rename_i e;subst e;cases h1
   rcases hb b h2 with h3|h3
   ·exact⟨_,_,hid,h3⟩
   ·omega
  ·rename_i hne
   exact⟨j,o1,h1,by rw [←hblk j o1 hne h1];exact h2⟩
 refine⟨⟨fun j o1 h1=> ?_,fun i o1 j o2 b h1 h2 h3 h4=> ?_,fun j hj=> ?_,fun b hb'=> ?_,h.cel.keep hg.I hk fun b hb'=>(h.cel b (hI b hb')).keep (hs b (h.imm b (hI b hb')).1 fun e=>(h.imm b (hI b hb')).2 ⟨id,o,hid,e⟩)⟩,⟨hg,hsz,fun b hb hno=>hs b hb fun e=>hno ⟨_,_,hid,e⟩,fun b hlt hno ho'=>hno (hold b hlt ho'),fun b _ _ hb=>hI b hb,he⟩⟩
 ·simp only [hlk]at h1
  split at h1
  ·rename_i e;subst e;cases h1;exact ho
  ·rename_i hne
   refine(h.ok j o1 h1).mono hk hg (fun b hb=>hs b ((h.ok j o1 h1).lt.1 b hb) fun e=>hne ?_) (hκ j hne)
   exact h.apart j o1 id o b h1 hid hb e
 ·simp only [hlk]at h1 h2
  split at h1<;>split at h2
  ·rename_i e1 e2;rw [e1,e2]
  ·rename_i e1 hne
   cases h1;subst e1
   rw [hblk j o2 hne h2]at h4
   rcases hb b h3 with h5|h5
   ·exact h.apart _ _ _ _ b hid h2 h5 h4
   ·have:=(h.ok j o2 h2).lt.1 b h4
    omega
  ·rename_i hne e2
   cases h2;subst e2
   rw [hblk i o1 hne h1]at h3
   rcases hb b h4 with h5|h5
   ·exact h.apart _ _ _ _ b h1 hid h3 h5
   ·have:=(h.ok i o1 h1).lt.1 b h3
    omega
  ·rename_i hne hne'
   rw [hblk i o1 hne h1]at h3
   rw [hblk j o2 hne' h2]at h4
   exact h.apart i o1 j o2 b h1 h2 h3 h4
 ·have hlt:=h.lt hid
  have hj':s.nx≤j:=hj
  rw [hρ j (by omega),hκ j (by omega)]
  exact h.fresh j hj
 ·have:=h.imm b (hI b hb')
  exact⟨Nat.lt_of_lt_of_le this.1 hsz,fun ho'=>this.2 (hold b this.1 ho')⟩
end
open Go
section
variable {δ:List Deferred} {P:Program} {g g':G} {s:St} {a:Act} {w w':World}
theorem CRel.one {I:Nat→Prop} {v:Value} {x:C} (h:CRel I w v x):v.oneCell'=true∧v.cells= #[v]:=by
 cases h<;>first|exact⟨rfl,rfl⟩|exact⟨by assumption,by assumption⟩
theorem VRel.one {v:Value} {d:D} (h:VRel g w v d) (hd:d.one=true):v.oneCell'=true:=by
 cases h<;>first|rfl|(simp [D.one]at hd;done)|skip
 rename_i h
 exact h.one.1
theorem cells_rel {v:Value} {d:D} {cs:List D} (h:VRel g w v d) (hc:d.cells?=some cs):
 v.cells.size=cs.length∧∀(i:Nat) (u:Value) (e:D),v.cells[i]? =some u→cs[i]? =some e→VRel g w u e:=by
 have single:∀(hv:v.cells= #[v]) (hcs:cs=[d]),v.cells.size=cs.length∧∀(i:Nat) (u:Value) (e:D),v.cells[i]? =some u→cs[i]? =some e→VRel g w u e:=by
  intro hv hcs
  subst hcs
  rw [hv]
  refine⟨rfl,fun i u e hu he=> ?_⟩
  match i,hu,he with
  |0,hu,he=>
   simp at hu he
   subst hu;subst he
   exact h
  |i+1,hu,he=>simp at hu
 cases h with
 |undef=>simp [D.cells?]at hc
 |skip=>simp [D.cells?]at hc
 |c _ x h0=>exact single h0.one.2 (by simpa [D.cells?]using hc.symm)
 |agg vs ds hl hp=>
  simp only [D.cells?,Option.some.injEq]at hc
  subst hc
  exact⟨hl,hp⟩
 |tup=>simp [D.cells?]at hc
 |_=>exact single rfl (by simpa [D.cells?]using hc.symm)
theorem toC_rel {v:Value} {d:D} {x:C} (h:VRel g w v d) (hx:d.toC=some x):CRel g.I w v x:=by
 cases h<;>simp only [D.toC,reduceCtorEq,Option.some.injEq]at hx
 ·subst hx;assumption
 ·subst hx;exact .slnil _ _ (by simp [maxLen])
 ·subst hx;assumption
theorem toCs_rel:∀{ds:List D} {xs:List C},D.toCs ds=some xs→xs.length=ds.length∧∀(i:Nat) (d:D) (x:C),ds[i]? =some d→xs[i]? =some x→d.toC=some x
 |[],xs,h=>by
  simp only [D.toCs,Option.some.injEq]at h
  subst h
  exact⟨rfl,fun i d x h=>by simp at h⟩
 |d::l,xs,h=>by
  simp only [D.toCs]at h
  split at h
  ·rename_i x ys h1 h2
   cases h
   obtain⟨h3,h4⟩:=toCs_rel h2
   refine⟨by simp [h3],fun i e y he hy=> ?_⟩
   cases i with
   |zero=>simp at he hy;subst he;subst hy;exact h1
   |succ i=>exact h4 i e y (by simpa using he) (by simpa using hy)
  ·cases h
theorem cells_toCs {v:Value} {d:D} {cs:List D} {xs:List C} (h:VRel g w v d) (hc:d.cells?=some cs) (hx:D.toCs cs=some xs):
 v.cells.size=xs.length∧(∀(i:Nat) (u:Value) (x:C),v.cells[i]? =some u→xs[i]? =some x→CRel g.I w u x):=by
 obtain⟨h1,h2⟩:=cells_rel h hc
 obtain⟨h3,h4⟩:=toCs_rel hx
 refine⟨by omega,fun i u x hu hxx=> ?_⟩
 have hi:i<cs.length:=by
  rw [←h3]
  rcases Nat.lt_or_ge i xs.length with h|h
  ·exact h
  ·rw [List.getElem?_eq_none h]at hxx;cases hxx
 have hd:=List.getElem?_eq_getElem hi
 exact toC_rel (h2 i u _ hu hd) (h4 i _ x hd hxx)
theorem heap_alloc_lt (w:World) (o:Obj) (b:Nat) (hb:b<w.heap.size):(w.alloc o).heap[b]? =w.heap[b]? :=heap_alloc_old w o hb
theorem size_alloc (w:World) (o:Obj):(w.alloc o).heap.size=w.heap.size+1:=by
 unfold World.alloc
 simp
def G.box (g:G) (id b:Nat):G:={g with ρ:=fun i=>if i=id then some b else g.ρ i}
def G.vec (g:G) (id:Nat) (x:Option Addr×Nat×Nat):G:={g with κ:=fun i=>if i=id then some x else g.κ i}
theorem Rel.of (h:Rel δ g s a w) {s':St} (ho:RelO g' s' w') (hst:Step g s w g' ⟨[],s'.os,s'.nx⟩ w') (htm:s'.tm=s.tm):Rel δ g' s' a w':=
 ⟨fun t d hd=>by
  rw [htm]at hd
  obtain⟨v,h1,h2⟩:=h.tm t d hd
  exact⟨v,h1,hst.vrel h.o h2⟩,h.defers,ho⟩
theorem RelO.tm {tm:List (Nat×D)} (h:RelO g s w):RelO g ⟨tm,s.os,s.nx⟩ w:=⟨h.ok,h.apart,h.fresh,h.imm,h.cel⟩
theorem Step.tm {s':St} {tm tm':List (Nat×D)} (h:Step g s w g' s' w'):Step g ⟨tm,s.os,s.nx⟩ w g' ⟨tm',s'.os,s'.nx⟩ w':=⟨h.le,h.size,h.same,h.own,h.imm,h.env⟩
theorem box_sound (hr:Rel δ g s a w) {v:Value} {d:D} {cs:List D} (hv:VRel g w v d) (hc:d.cells?=some cs) (t:TypeId) (dst:Option Tmp) (hd:∀x,dst=some x→x<a.tmps.size):
 ∃g',Rel δ g' (s.bx dst cs) (a.put dst (.pointer (some ⟨w.heap.size,0,none⟩))) (w.alloc (.cells v.cells t))∧Step g s w g' (s.bx dst cs) (w.alloc (.cells v.cells t)):=by
 obtain⟨h1,h2⟩:=cells_rel hv hc
 have hfr:=hr.o.fresh s.nx (Nat.le_refl _)
 have hle:g.Le (g.box s.nx w.heap.size):=⟨fun id b hb=>by
  simp only [G.box]
  split
  ·rename_i e;rw [e,hfr.1]at hb;cases hb
  ·exact hb,fun id x l c hk=>⟨x,l,c,hk,Nat.le_refl _,fun _=>⟨rfl,rfl⟩⟩,fun b hb=>hb⟩
 have hk:Keeps g.I w (w.alloc (.cells v.cells t)):=fun b hb=>heap_alloc_lt _ _ _ (hr.o.imm b hb).1
 obtain⟨h3,h4⟩:=hr.o.add (.box cs) s.tm hle (fun b hb=>hb) (fun i hi=>by simp [G.box,hi]) (fun i hi=>rfl) (w':=w.alloc (.cells v.cells t)) (by rw [size_alloc];omega) (fun b hb=>heap_alloc_lt _ _ _ hb)
  ⟨w.heap.size,t,v.cells,by simp [G.box],heap_alloc_new w _,h1,fun i u e hu he=>(h2 i u e hu he).mono hk hle⟩
  (fun b hb=>by simp [G.blk,G.box]at hb;omega)
 have h5:Rel δ (g.box s.nx w.heap.size) ⟨s.tm,(s.nx, .box cs)::s.os,s.nx+1⟩ a (w.alloc (.cells v.cells t)):=hr.of h3 h4.tm rfl
 have h6:=h5.put dst (v:= .pointer (some ⟨w.heap.size,0,none⟩)) (d:= .ref s.nx 0) (.ref _ _ _ (by simp [G.box])) hd
 refine⟨g.box s.nx w.heap.size, ?_, ?_⟩
 ·cases dst<;>exact h6
 ·cases dst<;>exact h4.tm
theorem vec_sound' (hr:Rel δ g s a w) (w':World) (hsz:w.heap.size≤w'.heap.size) (hs:∀b,b<w.heap.size→w'.heap[b]? =w.heap[b]?) {sz:Nat} {e:TypeId} {els:List (List C)} {a0:Option Addr} {cap:Nat}
 (h1:els.length≤cap) (h2:cap≤maxLen) (h3:∀x∈els,x.length=sz)
 (h4:(a0=none∧cap=0)∨∃(b:Nat) (cells:Array Value) (vs:Nat→Nat→Value),a0=some ⟨b,0,none⟩∧w.heap.size≤b∧w'.heap[b]? =some (.cells cells e (0,0))∧(cells.size=cap*sz∧∀v∈cells.toList,v.oneCell'=true)∧
  ∀(i j:Nat) (x:List C) (y:C),els[i]? =some x→x[j]? =some y→cells[i*sz+j]? =some (vs i j)∧CRel g.I w (vs i j) y)
 (dst:Option Tmp) (hd:∀x,dst=some x→x<a.tmps.size) (he:Env w w':=by exact⟨rfl,rfl,rfl,by first|exact Nat.le_refl _|exact Nat.le_succ _⟩):
 Rel δ (g.vec s.nx (a0,els.length,cap)) (s.vc dst sz e els) (a.put dst (.slice a0 els.length cap)) w'∧Step g s w (g.vec s.nx (a0,els.length,cap)) (s.vc dst sz e els) w':=by
 have hfr:=hr.o.fresh s.nx (Nat.le_refl _)
 have hle:g.Le (g.vec s.nx (a0,els.length,cap)):=⟨fun id b hb=>hb,fun id x l c hk=>⟨x,l,c,by
  simp only [G.vec]
  split
  ·rename_i e;rw [e,hfr.2]at hk;cases hk
  ·exact hk,Nat.le_refl _,fun _=>⟨rfl,rfl⟩⟩,fun b hb=>hb⟩
 have hk:Keeps g.I w w':=fun b hb=>hs _ (hr.o.imm b hb).1
 obtain⟨h5,h6⟩:=hr.o.add (.vec true sz e els) s.tm hle (fun b hb=>hb) (fun i hi=>rfl) (fun i hi=>by simp [G.vec,hi]) (w':=w') hsz hs
  (by
   refine⟨a0,cap,by simp [G.vec],h1,h2,h3, ?_⟩
   rcases h4 with h4|⟨b,cells,vs,rfl,h5,h6,h7,h8⟩
   ·exact .inl h4
   ·exact .inr ⟨b,0,cells,vs,rfl,h6,by omega,⟨fun _=>⟨rfl,h7.1⟩,h7.2⟩,fun i j x y hx hy=>⟨by rw [Nat.zero_add];exact(h8 i j x y hx hy).1,(h8 i j x y hx hy).2.mono hk fun b hb=>hb⟩⟩)
  (fun b hb=>by
   rcases h4 with⟨rfl,_⟩|⟨b,cells,vs,rfl,h5,_⟩
   ·simp [G.blk,G.vec]at hb
   ·simp [G.blk,G.vec]at hb;omega) he
 have h7:Rel δ (g.vec s.nx (a0,els.length,cap)) ⟨s.tm,(s.nx, .vec true sz e els)::s.os,s.nx+1⟩ a w':=hr.of h5 h6.tm rfl
 have h8:=h7.put dst (v:= .slice a0 els.length cap) (d:= .vec s.nx els.length) (.vec a0 cap _ _ a0 els.length cap (by simp [G.vec]) (Nat.le_refl _) (by omega) (by
  rcases h4 with⟨rfl,h4⟩|⟨b,cells,vs,rfl,h5,_⟩
  ·exact .inl (by omega)
  ·exact .inr ⟨b,0,rfl⟩) fun _=>⟨rfl,rfl⟩) hd
 refine⟨?_, ?_⟩
 ·cases dst<;>exact h8
 ·cases dst<;>exact h6.tm
theorem vec_sound (hr:Rel δ g s a w) (w':World) (hsz:w.heap.size≤w'.heap.size) (hs:∀b,b<w.heap.size→w'.heap[b]? =w.heap[b]?) {sz:Nat} {e:TypeId} {els:List (List C)} {a0:Option Addr} {cap:Nat}
 (h1:els.length≤cap) (h2:cap≤maxLen) (h3:∀x∈els,x.length=sz)
 (h4:(a0=none∧cap=0)∨∃(b:Nat) (cells:Array Value) (vs:Nat→Nat→Value),a0=some ⟨b,0,none⟩∧w.heap.size≤b∧w'.heap[b]? =some (.cells cells e (0,0))∧(cells.size=cap*sz∧∀v∈cells.toList,v.oneCell'=true)∧
  ∀(i j:Nat) (x:List C) (y:C),els[i]? =some x→x[j]? =some y→cells[i*sz+j]? =some (vs i j)∧CRel g.I w (vs i j) y)
 (dst:Option Tmp) (hd:∀x,dst=some x→x<a.tmps.size) (he:Env w w':=by exact⟨rfl,rfl,rfl,by first|exact Nat.le_refl _|exact Nat.le_succ _⟩):
 ∃g',Rel δ g' (s.vc dst sz e els) (a.put dst (.slice a0 els.length cap)) w'∧Step g s w g' (s.vc dst sz e els) w':=
 ⟨_,vec_sound' hr w' hsz hs h1 h2 h3 h4 dst hd he⟩
end
open Go
section
variable {δ:List Deferred} {P:Program} {g g':G} {s:St} {a:Act} {w w':World}
theorem zcOf_spec {e:TypeId} {zc:List C} (h:zcOf P e=some zc):∃i v,P.info? e=some i∧i.zero=some v∧v.cells.size=zc.length∧
 ∀(g:G) (w:World) (i:Nat) (u:Value) (x:C),v.cells[i]? =some u→zc[i]? =some x→CRel g.I w u x:=by
 unfold zcOf zOf at h
 cases hi:P.info? e with
 |none=>simp [hi]at h
 |some i=>
  cases hz:i.zero with
  |none=>simp [hi,hz]at h
  |some v=>
   simp only [hi,hz]at h
   cases hc:(valD v).cells? with
   |none=>simp [hc]at h
   |some cs=>
    simp only [hc]at h
    exact⟨i,v,rfl,hz,(cells_toCs (g:=⟨fun _=>none,fun _=>none,fun _=>False⟩) (w:=default) (valD_rel v) hc h).1,fun g w=>(cells_toCs (valD_rel v) hc h).2⟩
def Flat (I:Nat→Prop) (w:World) (z:Nat) (els:List (List C)) (xs:List Value):Prop:=
 xs.length=els.length*z∧∀(i j:Nat) (x:List C) (y:C),els[i]? =some x→x[j]? =some y→∃u,xs[i*z+j]? =some u∧CRel I w u y
theorem Flat.one {I:Nat→Prop} {z:Nat} {els:List (List C)} {xs:List Value} (h:Flat I w z els xs) (hw:Wide z els) (hz:z≠0):∀u∈xs,u.oneCell'=true:=by
 intro u hu
 obtain⟨k,hk,rfl⟩:=List.getElem_of_mem hu
 have hk':k<els.length*z:=by rw [←h.1];exact hk
 have hi:k / z<els.length:=Nat.div_lt_of_lt_mul (by rw [Nat.mul_comm];exact hk')
 have hj:k % z<z:=Nat.mod_lt _ (by omega)
 have hx:=List.getElem?_eq_getElem hi
 have hl:=hw _ (List.getElem_mem hi)
 have hy:els[k / z][k % z]? =some (els[k / z][k % z]'(by omega)):=List.getElem?_eq_getElem (by omega)
 obtain⟨u,h1,h2⟩:=h.2 _ _ _ _ hx hy
 have e:k / z*z+k % z=k:=by rw [Nat.mul_comm];exact Nat.div_add_mod k z
 rw [e,List.getElem?_eq_getElem hk]at h1
 cases h1
 exact h2.one.1
theorem Flat.append {I:Nat→Prop} {z:Nat} {els new:List (List C)} {xs ys:List Value} (h:Flat I w z els xs) (h':Flat I w z new ys):Flat I w z (els++new) (xs++ys):=by
 refine⟨by simp [h.1,h'.1,Nat.add_mul],fun i j x y hx hy=> ?_⟩
 rcases Nat.lt_or_ge i els.length with hi|hi
 ·rw [List.getElem?_append_left hi]at hx
  obtain⟨u,h1,h2⟩:=h.2 i j x y hx hy
  refine⟨u, ?_,h2⟩
  have:i*z+j<xs.length:=by
   rcases Nat.lt_or_ge (i*z+j) xs.length with h3|h3
   ·exact h3
   ·rw [List.getElem?_eq_none h3]at h1;cases h1
  rw [List.getElem?_append_left this]
  exact h1
 ·rw [List.getElem?_append_right hi]at hx
  obtain⟨u,h1,h2⟩:=h'.2 _ j x y hx hy
  refine⟨u, ?_,h2⟩
  have e1:els.length*z≤i*z:=Nat.mul_le_mul_right _ hi
  rw [List.getElem?_append_right (by rw [h.1];omega),h.1]
  rw [Nat.sub_mul]at h1
  rw [show i*z+j - els.length*z=i*z - els.length*z+j by omega]
  exact h1
theorem mk_flat {I:Nat→Prop} {z:Nat} {els:List (List C)} (hw:Wide z els) (hz:z≠0) {vs:Nat→Nat→Value} (h:∀(i j:Nat) (x:List C) (y:C),els[i]? =some x→x[j]? =some y→CRel I w (vs i j) y):
 Flat I w z els ((List.range (els.length*z)).map fun k=>vs (k / z) (k % z)):=by
 refine⟨by simp,fun i j x y hx hy=>⟨vs i j, ?_,h i j x y hx hy⟩⟩
 have hi:i<els.length:=by
  rcases Nat.lt_or_ge i els.length with h3|h3
  ·exact h3
  ·rw [List.getElem?_eq_none h3]at hx;cases hx
 have hj:j<z:=by
  have:=hw x (List.mem_of_getElem? hx)
  rcases Nat.lt_or_ge j x.length with h3|h3
  ·omega
  ·rw [List.getElem?_eq_none h3]at hy;cases hy
 have hk:i*z+j<els.length*z:=by
  have:(i+1)*z≤els.length*z:=Nat.mul_le_mul_right _ hi
  rw [Nat.add_mul]at this
  omega
 have e1:(i*z+j) / z=i:=by
  rw [Nat.mul_comm,Nat.mul_add_div (by omega),Nat.div_eq_of_lt hj,Nat.add_zero]
 have e2:(i*z+j) % z=j:=by
  rw [Nat.mul_comm,Nat.mul_add_mod,Nat.mod_eq_of_lt hj]
 simp [List.getElem?_range hk,e1,e2]
theorem view_spec (hr:Rel δ g s a w) {v:Value} {id c sz lo hi sz':Nat} {hd:Bool} {e:TypeId} {els:List (List C)} (hv:VRel g w v (.view id c sz lo hi)) (ho:lk id s.os=some (.vec hd sz' e els)) (hc:c=els.length) (hsz:sz=sz'):
 ∃a0 a':Option Addr,v= .slice a' (hi - lo) (c - lo)∧lo≤hi∧hi≤c∧c≤maxLen∧Wide sz' els∧g.κ id=some (a0,c,c)∧((a0=none∧c=0∧a'=none)∨
  ∃(b off:Nat) (cells:Array Value) (vs:Nat→Nat→Value),a0=some ⟨b,off,none⟩∧w.heap[b]? =some (.cells cells e (0,0))∧off+c*sz'≤cells.size∧((hd=true→off=0∧cells.size=c*sz')∧∀v∈cells.toList,v.oneCell'=true)∧
   (∀(i j:Nat) (x:List C) (y:C),els[i]? =some x→x[j]? =some y→cells[off+i*sz'+j]? =some (vs i j)∧CRel g.I w (vs i j) y)∧(lo<c∨lo=0→a'=some ⟨b,off+lo*sz',none⟩)∧∃o',a'=some ⟨b,o',none⟩):=by
 subst hsz
 cases hv with
 |view a' cap' _ _ _ _ _ a0 len cap hk hle hl hh hm hvv=>
  obtain⟨a1,cap1,h1,h2,h3,h4,h5⟩:=hr.o.ok id _ ho
  rw [hk]at h1;cases h1
  obtain⟨rfl,rfl,h6,h7⟩:=hvv hc
  subst hc
  refine⟨a0,a',rfl,hl,hh,hm,h4,hk, ?_⟩
  rcases h5 with⟨rfl,h5⟩|⟨b,off,cells,vs,rfl,h8,h9,h10,h11⟩
  ·exact .inl ⟨rfl,h5,h6 rfl⟩
  ·obtain⟨h12,h13⟩:=h7 b off rfl
   exact .inr ⟨b,off,cells,vs,rfl,h8,h9,h10,h11,h12,h13⟩
theorem src_spec (hr:Rel δ g s a w) {y:D} {v:Value} (hv:VRel g w v y) {new:List (List C)} (hn:s.els y=some new) {z:Nat} (hw:Wide z new) (hz:z≠0):
 ∃ad cap xs,v= .slice ad new.length cap∧Flat g.I w z new xs∧(new=[]∨∃b o,ad=some ⟨b,o,none⟩∧∀j u,xs[j]? =some u→w.cell? ((⟨b,o,none⟩:Addr).add j)=some u):=by
 have nilcase:∀(ad:Option Addr) (cap:Nat),v= .slice ad 0 cap→new=[]→∃ad cap xs,v= .slice ad new.length cap∧Flat g.I w z new xs∧(new=[]∨∃b o,ad=some ⟨b,o,none⟩∧∀j u,xs[j]? =some u→w.cell? ((⟨b,o,none⟩:Addr).add j)=some u):=by
  intro ad cap h1 h2
  subst h2
  exact⟨ad,cap,[],h1,⟨by simp,fun i j x y h=>by simp at h⟩, .inl rfl⟩
 have slcase:∀(u:Value),v=u→CRel g.I w u (.sl new)→∃ad cap xs,v= .slice ad new.length cap∧Flat g.I w z new xs∧(new=[]∨∃b o,ad=some ⟨b,o,none⟩∧∀j u,xs[j]? =some u→w.cell? ((⟨b,o,none⟩:Addr).add j)=some u):=by
  intro u hu h
  cases h with
  |slnil ad cap hc=>exact nilcase ad cap hu rfl
  |sl b off cap sz _ vs hb hl hc hsz hcell hrel=>
   refine⟨_,cap,_,hu,mk_flat hw hz hrel, ?_⟩
   by_cases he:new=[]
   ·exact .inl he
   ·refine .inr ⟨b,off,rfl,fun j u hj=> ?_⟩
    have hj':j<new.length*z:=by
     rcases Nat.lt_or_ge j (new.length*z)with h3|h3
     ·exact h3
     ·rw [List.getElem?_eq_none (by simpa using h3)]at hj;cases hj
    simp only [List.getElem?_map,List.getElem?_range hj',Option.map_some,Option.some.injEq]at hj
    subst hj
    have hi:j / z<new.length:=Nat.div_lt_of_lt_mul (by rw [Nat.mul_comm];exact hj')
    have hjj:j % z<z:=Nat.mod_lt _ (by omega)
    have hlen:=hw _ (List.getElem_mem hi)
    have hlen2:=hsz _ (List.getElem_mem hi)
    have hy:new[j / z][j % z]? =some (new[j / z][j % z]'(by omega)):=List.getElem?_eq_getElem (by omega)
    have:=hcell _ _ _ _ (List.getElem?_eq_getElem hi) hy
    rw [addr_add]
    have e1:sz=z:=by omega
    have e:j / z*z+j % z=j:=by rw [Nat.mul_comm];exact Nat.div_add_mod j z
    rw [e1]at this
    rwa [show off+j / z*z+j % z=off+j by omega]at this
 cases y<;>simp only [St.els,reduceCtorEq]at hn
 case c x=>
  cases x<;>simp only [reduceCtorEq,Option.some.injEq]at hn
  subst hn
  cases hv with
  |c _ _ hv=>exact slcase _ rfl hv
 case nil=>
  cases hn
  cases hv
  exact nilcase _ _ rfl rfl
 case csl els=>
  cases hn
  cases hv with
  |csl ad _ hv=>exact slcase _ rfl hv
 case vec id n=>
  split at hn
  ·rename_i hd sz e els ho
   split at hn
   ·rename_i he
    cases hn
    cases hv with
    |vec a' cap' _ _ a0 len cap hk hle hm ha hv=>
     obtain⟨a1,cap1,h1,h2,h3,h4,h5⟩:=hr.o.ok id _ ho
     rw [hk]at h1;cases h1
     obtain⟨rfl,rfl⟩:=hv he
     subst he
     rcases h5 with⟨rfl,hc⟩|⟨b,off,cells,vs,rfl,h6,h7,h9,h8⟩
     ·exact nilcase _ _ (by rw [show new.length=0 by omega]) (List.eq_nil_of_length_eq_zero (by omega))
     ·refine⟨_,_,_,rfl,mk_flat hw hz (vs:=vs) (fun i j x y hx hy=>(h8 i j x y hx hy).2), ?_⟩
      by_cases he:new=[]
      ·exact .inl he
      ·refine .inr ⟨b,off,rfl,fun j u hj=> ?_⟩
       have hj':j<new.length*z:=by
        rcases Nat.lt_or_ge j (new.length*z)with h3|h3
        ·exact h3
        ·rw [List.getElem?_eq_none (by simpa using h3)]at hj;cases hj
       simp only [List.getElem?_map,List.getElem?_range hj',Option.map_some,Option.some.injEq]at hj
       subst hj
       have hi:j / z<new.length:=Nat.div_lt_of_lt_mul (by rw [Nat.mul_comm];exact hj')
       have hjj:j % z<z:=Nat.mod_lt _ (by omega)
       have hlen:=hw _ (List.getElem_mem hi)
       have hlen2:=h4 _ (List.getElem_mem hi)
       have hy:new[j / z][j % z]? =some (new[j / z][j % z]'(by omega)):=List.getElem?_eq_getElem (by omega)
       have:=(h8 _ _ _ _ (List.getElem?_eq_getElem hi) hy).1
       rw [addr_add]
       have e1:sz=z:=by omega
       have e:j / z*z+j % z=j:=by rw [Nat.mul_comm];exact Nat.div_add_mod j z
       rw [e1,show off+j / z*z+j % z=off+j by omega]at this
       simp only [World.cell?,h6]
       simpa using this
   ·cases hn
  ·cases hn
 case view id c sz lo hi=>
  split at hn
  ·rename_i hd sz1 e els ho
   split at hn
   ·rename_i he
    obtain⟨he,rfl⟩:=he
    cases hn
    have hz':∀x,x∈(els.take hi).drop lo→x.length=sz:=fun x hx=>by
     obtain⟨_,_,_,_,_,h4,_⟩:=hr.o.ok id _ ho
     exact h4 x (List.mem_of_mem_take (List.mem_of_mem_drop hx))
    by_cases hne:(els.take hi).drop lo=[]
    ·rw [hne]
     cases hv with
     |view a' cap' _ _ _ _ _ a0 len cap hk hle hl hh hm hvv=>
      have:hi - lo=0:=by
       have:=congrArg List.length hne
       simp only [List.length_drop,List.length_take,List.length_nil]at this
       omega
      rw [this]
      exact⟨a',cap',[],rfl,⟨by simp,fun i j x y h=>by simp at h⟩, .inl rfl⟩
    ·have hsz:sz=z:=by
      cases hq:(els.take hi).drop lo with
      |nil=>exact absurd hq hne
      |cons x l=>rw [←hz' x (by rw [hq];simp),hw x (by rw [hq];simp)]
     subst hsz
     cases hv with
     |view a' cap' _ _ _ _ _ a0 len cap hk hle hl hh hm hvv=>
      obtain⟨a1,cap1,h1,h2,h3,h4,h5⟩:=hr.o.ok id _ ho
      rw [hk]at h1;cases h1
      obtain⟨rfl,rfl,h6,h7⟩:=hvv he
      have hlen:((els.take hi).drop lo).length=hi - lo:=by simp only [List.length_drop,List.length_take];omega
      have hlt:lo<hi:=by
       rcases Nat.lt_or_ge lo hi with h|h
       ·exact h
       ·exact absurd (List.eq_nil_of_length_eq_zero (by omega)) hne
      rcases h5 with⟨rfl,h5⟩|⟨b,off,cells,vs,rfl,h8,h9,h10,h11⟩
      ·omega
      ·obtain⟨h12,_⟩:=h7 b off rfl
       refine⟨_,_,_,by rw [hlen,h12 (.inl (by omega))],mk_flat hw hz (vs:=fun i j=>vs (lo+i) j) (fun i j x y hx hy=> ?_), .inr ⟨b,off+lo*sz,rfl,fun j u hj=> ?_⟩⟩
       ·rw [List.getElem?_drop,List.getElem?_take]at hx
        split at hx
        ·exact(h11 (lo+i) j x y hx hy).2
        ·cases hx
       ·have hj':j<((els.take hi).drop lo).length*sz:=by
         rcases Nat.lt_or_ge j (((els.take hi).drop lo).length*sz)with h3|h3
         ·exact h3
         ·rw [List.getElem?_eq_none (by simpa using h3)]at hj;cases hj
        simp only [List.getElem?_map,List.getElem?_range hj',Option.map_some,Option.some.injEq]at hj
        subst hj
        have hi':j / sz<hi - lo:=Nat.div_lt_of_lt_mul (by rw [Nat.mul_comm,←hlen];exact hj')
        have hjj:j % sz<sz:=Nat.mod_lt _ (by omega)
        have hlt2:lo+j / sz<els.length:=by omega
        have hlen2:=h4 _ (List.getElem_mem hlt2)
        have hy:els[lo+j / sz][j % sz]? =some (els[lo+j / sz][j % sz]'(by omega)):=List.getElem?_eq_getElem (by omega)
        have:=(h11 _ _ _ _ (List.getElem?_eq_getElem hlt2) hy).1
        rw [addr_add]
        have e:j / sz*sz+j % sz=j:=by rw [Nat.mul_comm];exact Nat.div_add_mod j sz
        rw [Nat.add_mul,show off+(lo*sz+j / sz*sz)+j % sz=off+lo*sz+j by omega]at this
        simp only [World.cell?,h8]
        simpa using this
   ·cases hn
  ·cases hn
theorem run_append_zero {t:TypeId} {x:TypeId×Nat×Nat} (h:elOf P t=some x) (ty:TypeId) (base ad:Option Addr) (n cap c:Nat) (hn:n≤cap):
 (Builtin.append_ #[t,t] ty #[.slice base n cap, .slice ad 0 c]).run P w= .ok (.slice base n cap) w:=by
 obtain⟨hu,i,hi,hs,_⟩:=elOf_spec h
 cases base<;>cases ad<;>simp [Builtin.append_,Go.run_underlying hu,Go.sizeOf,typeInfo,hi,Builtin.lenOf,Builtin.firstCells,loadCells,loadCellsFrom,hn,storeCells]
theorem size_drew (w:World):w.drew.heap.size=w.heap.size:=rfl
theorem size_zero (z:Value) (n:Nat):(Builtin.zeroCells z.cells n).size=n*z.cells.size:=by simp [Builtin.zeroCells]
theorem drew_old (w:World) (o:Obj) (b:Nat) (hb:b<w.heap.size):(w.drew.alloc o).heap[b]? =w.heap[b]? :=heap_alloc_lt w.drew o b hb
theorem Flat.cells {I:Nat→Prop} {z:Nat} {els:List (List C)} {xs rest:List Value} (h:Flat I w z els xs):
 ∃vs:Nat→Nat→Value,∀(i j:Nat) (x:List C) (y:C),els[i]? =some x→x[j]? =some y→(xs++rest).toArray[i*z+j]? =some (vs i j)∧CRel I w (vs i j) y:=by
 refine⟨fun i j=>(xs++rest).getD (i*z+j) .nilFunc,fun i j x y hx hy=> ?_⟩
 obtain⟨u,h1,h2⟩:=h.2 i j x y hx hy
 have h3:(xs++rest)[i*z+j]? =some u:=by
  have:i*z+j<xs.length:=by
   rcases Nat.lt_or_ge (i*z+j) xs.length with h3|h3
   ·exact h3
   ·rw [List.getElem?_eq_none h3]at h1;cases h1
  rw [List.getElem?_append_left this,h1]
 simp only [List.getElem?_toArray,List.getD,h3,Option.getD_some]
 exact⟨trivial,h2⟩
theorem zc_one {zv:Value} {zc:List C} (hl:zv.cells.size=zc.length) (hr:∀(g:G) (w:World) (i:Nat) (u:Value) (x:C),zv.cells[i]? =some u→zc[i]? =some x→CRel g.I w u x):∀u∈zv.cells.toList,u.oneCell'=true:=fun u hu=>by
 obtain⟨k,hk,rfl⟩:=List.getElem_of_mem hu
 have hk':k<zv.cells.size:=by simpa using hk
 exact(hr ⟨fun _=>none,fun _=>none,fun _=>False⟩ default k _ _ (Array.getElem?_eq_getElem hk') (List.getElem?_eq_getElem (by omega))).one.1
theorem zeroCells_one {zs:Array Value} (h:∀u∈zs.toList,u.oneCell'=true) (n:Nat):∀u∈(Builtin.zeroCells zs n).toList,u.oneCell'=true:=fun u hu=>by
 simp only [Builtin.zeroCells,Array.toList_map,List.mem_map,Array.mem_toList_iff,Array.mem_range]at hu
 obtain⟨i,hi,rfl⟩:=hu
 have hp:0<zs.size:=by
  rcases Nat.eq_zero_or_pos zs.size with h0|h0
  ·rw [h0,Nat.mul_zero]at hi;omega
  ·exact h0
 have hm:=Nat.mod_lt i hp
 rw [getElem!_pos zs (i % zs.size) hm]
 exact h _ (by simp)
theorem grown_sound (hr:Rel δ g s a w) {e:TypeId} {z:Nat} {els:List (List C)} {xs:List Value} (hw:Wide z els) (hf:Flat g.I w z els xs) {zv:Value} (hz:zv.cells.size=z) (hz1:∀u∈zv.cells.toList,u.oneCell'=true) (hz0:z≠0) (need old:Nat) (hneed:need=els.length) (hm:els.length≤maxLen)
 (dst:Option Tmp) (hd:∀x,dst=some x→x<a.tmps.size) (cells:Array Value) (hcells:cells=xs.toArray++Builtin.zeroCells zv.cells (grownCap w need old e - need)):
 ∃g',Rel δ g' (s.vc dst z e els) (a.put dst (.slice (some ⟨w.heap.size,0,none⟩) els.length (grownCap w need old e))) (w.drew.alloc (.cells cells e))∧Step g s w g' (s.vc dst z e els) (w.drew.alloc (.cells cells e)):=by
 subst hcells
 subst hneed
 have hge:=grownCap_ge w els.length old e
 obtain⟨vs,hvs⟩:=hf.cells (rest:=(Builtin.zeroCells zv.cells (grownCap w els.length old e - els.length)).toList)
 refine vec_sound hr _ (by rw [size_alloc,size_drew];omega) (fun b hb=>drew_old _ _ _ hb) hge (grownCap_le_maxLen w _ old e hm) hw (.inr ⟨w.heap.size,_,vs,rfl,Nat.le_refl _,heap_alloc_new w.drew _,⟨?_,fun v hv=> ?_⟩,fun i j x y hx hy=> ?_⟩) dst hd
 ·simp only [Array.size_append,List.size_toArray,size_zero,hz,hf.1,←Nat.add_mul]
  congr 1
  omega
 ·simp only [Array.toList_append,List.mem_append]at hv
  rcases hv with hv|hv
  ·exact hf.one hw hz0 v hv
  ·exact zeroCells_one hz1 _ v hv
 ·have:=hvs i j x y hx hy
  rw [show xs.toArray++Builtin.zeroCells zv.cells (grownCap w els.length old e - els.length)=(xs++(Builtin.zeroCells zv.cells (grownCap w els.length old e - els.length)).toList).toArray by apply Array.ext';simp]
  exact this
theorem own_flat {id cap:Nat} {e:TypeId} {sz:Nat} {els:List (List C)} {a0:Option Addr} (hk:g.κ id=some (a0,els.length,cap)) (h:OK g w id (.vec true sz e els)) (hz:sz≠0):
 els.length≤cap∧cap≤maxLen∧Wide sz els∧((a0=none∧cap=0∧els=[])∨∃(b:Nat) (cells:Array Value),a0=some ⟨b,0,none⟩∧w.heap[b]? =some (.cells cells e (0,0))∧(cells.size=cap*sz∧∀v∈cells.toList,v.oneCell'=true)∧Flat g.I w sz els (cells.toList.take (els.length*sz))):=by
 obtain⟨a1,cap1,h1,h2,h3,h4,h5⟩:=h
 rw [hk]at h1;cases h1
 refine⟨h2,h3,h4, ?_⟩
 rcases h5 with⟨rfl,hc⟩|⟨b,off,cells,vs,rfl,h6,h7,h9,h8⟩
 ·exact .inl ⟨rfl,hc,List.eq_nil_of_length_eq_zero (by omega)⟩
 ·obtain⟨rfl,h10⟩:=h9.1 rfl
  refine .inr ⟨b,cells,rfl,h6,⟨h10,h9.2⟩, ?_,fun i j x y hx hy=>⟨vs i j, ?_,(h8 i j x y hx hy).2⟩⟩
  ·have:els.length*sz≤cap*sz:=Nat.mul_le_mul_right _ h2
   have hcl:cells.toList.length=cells.size:=Array.length_toList
   rw [List.length_take,hcl,h10]
   omega
  ·have hi:i<els.length:=by
    rcases Nat.lt_or_ge i els.length with h3|h3
    ·exact h3
    ·rw [List.getElem?_eq_none h3]at hx;cases hx
   have hj:j<sz:=by
    have:=h4 x (List.mem_of_getElem? hx)
    rcases Nat.lt_or_ge j x.length with h3|h3
    ·omega
    ·rw [List.getElem?_eq_none h3]at hy;cases hy
   have hlt:i*sz+j<els.length*sz:=by
    have:(i+1)*sz≤els.length*sz:=Nat.mul_le_mul_right _ hi
    rw [Nat.add_mul]at this
    omega
   have:=(h8 i j x y hx hy).1
   rw [Nat.zero_add]at this
   rw [List.getElem?_take_of_lt hlt]
   simpa using this
theorem regrow_sound (hr:Rel δ g s a w) {id:Nat} {hd:Bool} {sz:Nat} {e:TypeId} {els els':List (List C)} (ho:lk id s.os=some (.vec hd sz e els)) {a0 a1:Option Addr} {cap cap1:Nat} (hk:g.κ id=some (a0,els.length,cap))
 (w':World) (hsz:w.heap.size≤w'.heap.size) (hs:∀b,b<w.heap.size→g.blk id (.vec hd sz e els)≠some b→w'.heap[b]? =w.heap[b]?)
 (hl:els.length≤els'.length) (hle:els.length=els'.length→a0=a1∧cap=cap1) (h1:els'.length≤cap1) (h2:cap1≤maxLen) (h3:Wide sz els')
 (h4:(a1=none∧cap1=0)∨∃(b:Nat) (cells:Array Value) (xs rest:List Value),a1=some ⟨b,0,none⟩∧(g.blk id (.vec hd sz e els)=some b∨w.heap.size≤b)∧w'.heap[b]? =some (.cells cells e (0,0))∧(cells.size=cap1*sz∧∀v∈cells.toList,v.oneCell'=true)∧cells.toList=xs++rest∧Flat g.I w sz els' xs)
 (dst:Option Tmp) (hdst:∀x,dst=some x→x<a.tmps.size) (he:Env w w':=by exact⟨rfl,rfl,rfl,by first|exact Nat.le_refl _|exact Nat.le_succ _⟩):
 ∃g',Rel δ g' (({s with os:=upd id (.vec hd sz e els') s.os}:St).put dst (.vec id els'.length)) (a.put dst (.slice a1 els'.length cap1)) w'∧Step g s w g' (({s with os:=upd id (.vec hd sz e els') s.os}:St).put dst (.vec id els'.length)) w':=by
 have hle':g.Le (g.vec id (a1,els'.length,cap1)):=⟨fun id b hb=>hb,fun j x l c hj=>by
  by_cases h:j=id
  ·subst h
   rw [hk]at hj;cases hj
   exact⟨a1,els'.length,cap1,by simp [G.vec],hl,hle⟩
  ·exact⟨x,l,c,by simp [G.vec,h,hj],Nat.le_refl _,fun _=>⟨rfl,rfl⟩⟩,fun b hb=>hb⟩
 have hkp:Keeps g.I w w':=fun b hb=>hs b (hr.o.imm b hb).1 fun e=>(hr.o.imm b hb).2 ⟨_,_,ho,e⟩
 obtain⟨h5,h6⟩:=hr.o.replace ho (.vec hd sz e els') s.tm hle' (fun b hb=>hb) (fun i hi=>rfl) (fun i hi=>by simp [G.vec,hi]) (w':=w') (he:=he) hsz hs
  (by
   refine⟨a1,cap1,by simp [G.vec],h1,h2,h3, ?_⟩
   rcases h4 with h4|⟨b,cells,xs,rest,rfl,h5,h6,h7,h8,h9⟩
   ·exact .inl h4
   ·obtain⟨vs,hvs⟩:=h9.cells (rest:=rest)
    rw [←h8]at hvs
    exact .inr ⟨b,0,cells,vs,rfl,h6,by omega,⟨fun _=>⟨rfl,h7.1⟩,h7.2⟩,fun i j x y hx hy=>⟨by rw [Nat.zero_add];simpa using(hvs i j x y hx hy).1,(hvs i j x y hx hy).2.mono hkp fun b hb=>hb⟩⟩)
  (fun b hb=>by
   rcases h4 with⟨rfl,_⟩|⟨b,cells,xs,rest,rfl,h5,_⟩
   ·simp [G.blk,G.vec]at hb
   ·simp [G.blk,G.vec]at hb;subst hb;exact h5)
 have h7:Rel δ (g.vec id (a1,els'.length,cap1)) ⟨s.tm,upd id (.vec hd sz e els') s.os,s.nx⟩ a w':=hr.of h5 h6.tm rfl
 have h8:=h7.put dst (v:= .slice a1 els'.length cap1) (d:= .vec id els'.length) (.vec a1 cap1 _ _ a1 els'.length cap1 (by simp [G.vec]) (Nat.le_refl _) (by omega) (by
  rcases h4 with⟨rfl,h4⟩|⟨b,cells,xs,rest,rfl,h5,_⟩
  ·exact .inl (by omega)
  ·exact .inr ⟨b,0,rfl⟩) fun _=>⟨rfl,rfl⟩) hdst
 exact⟨_,h8,by cases dst<;>exact h6.tm⟩
theorem app_sound (hr:Rel δ g s a w) {t:TypeId} {x y:D} {v u:Value} (hv:VRel g w v x) (hu:VRel g w u y) (dst:Option Tmp) (hd:∀x,dst=some x→x<a.tmps.size)
 (hnv:∀id c sz lo hi,x≠ .view id c sz lo hi) {C0:Prop} {s':St} (h:appD P s t dst x y=some (C0,s')) (hc:C0) (ty:TypeId):
 ∃r w' g',(Builtin.append_ #[t,t] ty #[v,u]).run P w= .ok r w'∧Rel δ g' s' (a.put dst r) w'∧Step g s w g' s' w':=by
 unfold appD at h
 split at h
 ·rename_i e z bytes new he hn
  split at h
  ·rename_i zc hzc
   split at h
   ·rename_i hz
    obtain⟨hz1,hz2,hz3⟩:=hz
    obtain⟨hul,i,hi,his,hib⟩:=elOf_spec he
    obtain⟨i',zv,hi',hzv,hzs,hzr⟩:=zcOf_spec hzc
    simp only at hul hi his hib
    rw [hi]at hi'
    cases hi'
    have hzo:=zc_one hzs hzr
    subst his
    subst hib
    have hm2:∀k,k*i.bytes≤140737488355328→k≤maxLen∧(k:Int)≤9223372036854775807:=fun k hk=>by
     have:k*1≤k*i.bytes:=Nat.mul_le_mul_left _ (by omega)
     have h2:maxLen=9223372036854775807:=by decide
     constructor<;>omega
    split at h
    ·
     simp only [Option.some.injEq,Prod.mk.injEq]at h
     obtain⟨rfl,rfl⟩:=h
     obtain⟨hw,hb⟩:=hc
     cases hv
     obtain⟨ad,c,xs,rfl,hf,hcase⟩:=src_spec hr hu hn hw hz2
     by_cases he0:new=[]
     ·subst he0
      obtain⟨g',h1,h2⟩:=vec_sound hr w (Nat.le_refl _) (fun _ _=>rfl) (sz:=i.size) (e:=e) (els:=[]) (a0:=none) (cap:=0) (Nat.le_refl _) (by simp) (by simp) (.inl ⟨rfl,rfl⟩) dst hd
      exact⟨_,w,g',run_append_zero he ty none ad 0 0 c (Nat.le_refl _),h1,h2⟩
     ·rcases hcase with h0|⟨b,o,rfl,hcell⟩
      ·exact absurd h0 he0
      ·have hpos:0<new.length:=by
        rcases Nat.eq_zero_or_pos new.length with h|h
        ·exact absurd (List.eq_nil_of_length_eq_zero h) he0
        ·exact h
       have hrun:=run_append_nil (P:=P) w t ty e i zv hul hi hzv ⟨b,o,none⟩ new.length c xs hf.1 hcell hpos (hm2 _ hb).2 (by omega)
       obtain⟨g',h1,h2⟩:=grown_sound hr hw hf (zv:=zv) (by omega) hzo hz2 new.length 0 rfl (hm2 _ hb).1 dst hd _ rfl
       exact⟨_,_,g',hrun,h1,h2⟩
    ·
     rename_i els
     simp only [Option.some.injEq,Prod.mk.injEq]at h
     obtain⟨rfl,rfl⟩:=h
     obtain⟨hw0,hw,hne,hb⟩:=hc
     have hv0:=hv
     cases hv with
     |csl a0 _ hv=>
      obtain⟨ad,c,xs,rfl,hf,hcase⟩:=src_spec hr hu hn hw hz2
      obtain⟨ad',c',xs',hq,hf',hcase'⟩:=src_spec hr hv0 (new:=els) rfl hw0 hz2
      cases hq
      rcases hcase with h0|⟨b,o,rfl,hcell⟩
      ·exact absurd h0 hne
      ·have hpos:0<new.length:=by
        rcases Nat.eq_zero_or_pos new.length with h|h
        ·exact absurd (List.eq_nil_of_length_eq_zero h) hne
        ·exact h
       have hlen:(els++new).length=els.length+new.length:=List.length_append
       have hww:Wide i.size (els++new):=fun x hx=>by
        rcases List.mem_append.1 hx with h|h
        ·exact hw0 x h
        ·exact hw x h
       by_cases he0:els=[]
       ·subst he0
        simp only [List.nil_append,List.length_nil]at hb⊢
        cases a0 with
        |none=>
         have hrun:=run_append_nil (P:=P) w t ty e i zv hul hi hzv ⟨b,o,none⟩ new.length c xs hf.1 hcell hpos (hm2 _ (by simpa using hb)).2 (by simp at hb;omega)
         obtain⟨g',h1,h2⟩:=grown_sound hr hw hf (zv:=zv) (by omega) hzo hz2 new.length 0 rfl (hm2 _ (by simpa using hb)).1 dst hd _ rfl
         exact⟨_,_,g',hrun,h1,h2⟩
        |some b0=>
         have hrun:=run_append_grow (P:=P) w t ty e i zv hul hi hzv b0 0 0 [] (by simp) (by simp) ⟨b,o,none⟩ new.length c xs hf.1 hcell (by omega) (hm2 _ hb).2 (growslice_fits (by omega) hb)
         simp only [Nat.zero_add]at hrun
         obtain⟨g',h1,h2⟩:=grown_sound hr (e:=e) hw hf (zv:=zv) (by omega) hzo hz2 new.length 0 rfl (hm2 _ (by simpa using hb)).1 dst hd (#[]++xs.toArray++Builtin.zeroCells zv.cells (grownCap w new.length 0 e - new.length)) (by simp)
         exact⟨_,_,g',hrun,h1,h2⟩
       ·rcases hcase' with h0|⟨b',o',rfl,hcell'⟩
        ·exact absurd h0 he0
        ·have hrun:=run_append_grow (P:=P) w t ty e i zv hul hi hzv ⟨b',o',none⟩ els.length els.length xs' hf'.1 hcell' ⟨b,o,none⟩ new.length c xs hf.1 hcell (by omega) (hm2 _ hb).2 (growslice_fits (by omega) hb)
         obtain⟨g',h1,h2⟩:=grown_sound hr (e:=e) hww (hf'.append hf) (zv:=zv) (by omega) hzo hz2 (els.length+new.length) els.length hlen.symm (by rw [hlen];exact(hm2 _ hb).1) dst hd
          (xs'.toArray++xs.toArray++Builtin.zeroCells zv.cells (grownCap w (els.length+new.length) els.length e - (els.length+new.length))) (by apply Array.ext';simp)
         rw [hlen]at h1
         exact⟨_,_,g',hrun,h1,h2⟩
    ·
     rename_i id n
     split at h<;>try cases h
     rename_i hd0 sz e' els ho
     obtain⟨rfl,rfl,rfl,rfl,hw,hb⟩:=hc
     have hv0:=hv
     cases hv with
     |vec a' cap' _ _ a0 len cap hk hle hm ha hvq=>
      have hok:=hr.o.ok id _ ho
      have hk':=hk
      obtain⟨a1,cap1,hk1,_⟩:=hok
      rw [hk]at hk1;cases hk1
      obtain⟨rfl,rfl⟩:=hvq rfl
      obtain⟨h2,h3,hw0,h5⟩:=own_flat hk (hr.o.ok id _ ho) hz2
      obtain⟨ad,c,xs,rfl,hf,hcase⟩:=src_spec hr hu hn hw hz2
      have hlen:(els++new).length=els.length+new.length:=List.length_append
      have hww:Wide i.size (els++new):=fun x hx=>by
       rcases List.mem_append.1 hx with h|h
       ·exact hw0 x h
       ·exact hw x h
      have hput:∀(k:Nat),k=(els++new).length→({s with os:=upd id (.vec true i.size e (els++new)) s.os}:St).put dst (.vec id (els.length+new.length))=({s with os:=upd id (.vec true i.size e (els++new)) s.os}:St).put dst (.vec id (els++new).length):=fun k _=>by rw [hlen]
      rw [hput _ rfl]
      have hbm:=hm2 _ hb
      have hres:∀(r:Value) (w':World) (a1:Option Addr) (cap1:Nat),(Builtin.append_ #[t,t] ty #[.slice a' els.length cap', .slice ad new.length c]).run P w= .ok (.slice a1 (els++new).length cap1) w'→
       (∃g',Rel δ g' (({s with os:=upd id (.vec true i.size e (els++new)) s.os}:St).put dst (.vec id (els++new).length)) (a.put dst (.slice a1 (els++new).length cap1)) w'∧Step g s w g' (({s with os:=upd id (.vec true i.size e (els++new)) s.os}:St).put dst (.vec id (els++new).length)) w')→
       ∃r w' g',(Builtin.append_ #[t,t] ty #[.slice a' els.length cap', .slice ad new.length c]).run P w= .ok r w'∧Rel δ g' (({s with os:=upd id (.vec true i.size e (els++new)) s.os}:St).put dst (.vec id (els++new).length)) (a.put dst r) w'∧Step g s w g' (({s with os:=upd id (.vec true i.size e (els++new)) s.os}:St).put dst (.vec id (els++new).length)) w':=
       fun r w' a1 cap1 h1 ⟨g',h2,h3⟩=>⟨_,w',g',h1,h2,h3⟩
      by_cases he0:new=[]
      ·subst he0
       refine hres .nilFunc w a' cap' (by rw [hlen];exact run_append_zero he ty a' ad els.length cap' c h2) ?_
       refine regrow_sound hr ho hk w (Nat.le_refl _) (fun _ _ _=>rfl) (by omega) (fun _=>⟨rfl,rfl⟩) (by rw [hlen];simpa using h2) h3 hww ?_ dst hd
       rcases h5 with⟨h5,h6,h7⟩|⟨b,cells,h5,h6,h7,h8⟩
       ·exact .inl ⟨h5,h6⟩
       ·exact .inr ⟨b,cells,_,cells.toList.drop (els.length*i.size),h5, .inl (by simp [G.blk,hk,h5]),h6,h7,(List.take_append_drop _ _).symm,by simpa using h8⟩
      ·rcases hcase with h0|⟨b',o',rfl,hcell⟩
       ·exact absurd h0 he0
       ·have hpos:0<new.length:=by
         rcases Nat.eq_zero_or_pos new.length with h|h
         ·exact absurd (List.eq_nil_of_length_eq_zero h) he0
         ·exact h
        have hgrow:∀(xs':List Value) (cells:Array Value) (old:Nat),Flat g.I w i.size els xs'→cells=(xs'++xs).toArray++Builtin.zeroCells zv.cells (grownCap w (els++new).length old e - (els++new).length)→
         ∃g',Rel δ g' (({s with os:=upd id (.vec true i.size e (els++new)) s.os}:St).put dst (.vec id (els++new).length)) (a.put dst (.slice (some ⟨w.heap.size,0,none⟩) (els++new).length (grownCap w (els++new).length old e))) (w.drew.alloc (.cells cells e))∧Step g s w g' (({s with os:=upd id (.vec true i.size e (els++new)) s.os}:St).put dst (.vec id (els++new).length)) (w.drew.alloc (.cells cells e)):=by
         intro xs' cells old hf' hcl
         have hge:=grownCap_ge w (els++new).length old e
         refine regrow_sound hr ho hk _ (by rw [size_alloc,size_drew];omega) (fun b hb _=>drew_old _ _ _ hb) (by omega) (fun h=>by omega) hge (grownCap_le_maxLen w _ old e (by rw [hlen];exact hbm.1)) hww (.inr ⟨w.heap.size,cells,xs'++xs,(Builtin.zeroCells zv.cells (grownCap w (els++new).length old e - (els++new).length)).toList,rfl, .inr (Nat.le_refl _),heap_alloc_new w.drew _,⟨?_,fun v hv=> ?_⟩,by rw [hcl];simp,hf'.append hf⟩) dst hd
         ·rw [hcl]
          have:=(hf'.append hf).1
          simp only [Array.size_append,List.size_toArray,size_zero,this]
          rw [show zv.cells.size=i.size by omega,←Nat.add_mul]
          congr 1
          omega
         ·rw [hcl]at hv
          simp only [Array.toList_append,List.mem_append]at hv
          rcases hv with hv|hv
          ·exact(hf'.append hf).one hww hz2 v (List.mem_append.2 hv)
          ·exact zeroCells_one hzo _ v hv
        rcases h5 with⟨rfl,rfl,rfl⟩|⟨b,cells,rfl,h6,h7,h8⟩
        ·refine hres .nilFunc _ _ _ ?_ (hgrow [] _ 0 ⟨by simp,fun i j x y h=>by simp at h⟩ rfl)
         simpa using run_append_nil (P:=P) w t ty e i zv hul hi hzv ⟨b',o',none⟩ new.length c xs hf.1 hcell hpos (by simpa using hbm.2) (by simp at hb;omega)
        ·by_cases hroom:els.length+new.length≤cap'
         ·have hfit:els.length*i.size+xs.length≤cells.size:=by rw [hf.1,h7.1,←Nat.add_mul];exact Nat.mul_le_mul_right _ hroom
          refine hres .nilFunc _ _ _ (by rw [hlen];exact run_append_room (P:=P) w t ty e i hul hi b els.length cap' cells h6 ⟨b',o',none⟩ new.length c xs hf.1 hcell (hf.one hw hz2) hroom hfit) ?_
          refine regrow_sound hr ho hk _ (by simp) (fun k hkk hne=>setRow_other w b k _ (fun e=>hne (by simp [G.blk,hk,e]))) (by omega) (fun h=>by omega) (by omega) h3 hww
           (.inr ⟨b,_,cells.toList.take (els.length*i.size)++xs,cells.toList.drop (els.length*i.size+xs.length),rfl, .inl (by simp [G.blk,hk]),setRow_heap w b cells _ e _ h6,⟨?_,fun v hv=> ?_⟩,by simp,h8.append hf⟩) dst hd
          ·have hcl:cells.toList.length=cells.size:=Array.length_toList
           obtain⟨h7,_⟩:=h7
           simp only [List.size_toArray,List.length_append,List.length_take,List.length_drop,hcl]
           omega
          ·simp only [List.append_assoc,List.mem_append]at hv
           rcases hv with hv|hv
           ·exact h7.2 v (List.mem_of_mem_take hv)
           ·rcases hv with hv|hv
            ·exact hf.one hw hz2 v hv
            ·exact h7.2 v (List.mem_of_mem_drop hv)
         ·have holds:∀j u,(cells.toList.take (els.length*i.size))[j]? =some u→w.cell? ((⟨b,0,none⟩:Addr).add j)=some u:=fun j u hj=>by
           rw [List.getElem?_take]at hj
           split at hj
           ·rw [addr_add];simp only [World.cell?,h6];simpa using hj
           ·cases hj
          have hrun:=run_append_grow (P:=P) w t ty e i zv hul hi hzv ⟨b,0,none⟩ els.length cap' _ h8.1 holds ⟨b',o',none⟩ new.length c xs hf.1 hcell (by omega) hbm.2 (growslice_fits (by omega) hb)
          rw [←hlen]at hrun
          exact hres .nilFunc _ _ _ hrun (hgrow _ _ cap' h8 (by apply Array.ext';simp))
    ·exact absurd rfl (hnv _ _ _ _ _)
    ·cases h
   ·cases h
  ·cases h
 ·cases h
end
open Go
section
variable {P:Program} {g g':G} {s:St} {a:Act} {w w':World}
def PW (g:G) (w:World) (vs:Array Value) (ds:List D):Prop:=vs.size=ds.length∧∀(i:Nat) (v:Value) (d:D),vs[i]? =some v→ds[i]? =some d→VRel g w v d
theorem foldl_set_size (off:Nat):∀(l:List (Value×Nat)) (cs:Array Value),(l.foldl (fun cs x=>cs.setIfInBounds (off+x.2) x.1) cs).size=cs.size
 |[],cs=>rfl
 |x::l,cs=>by simp [foldl_set_size off l]
theorem foldl_set_get (off:Nat) (vs:List Value):∀(k:Nat) (l:List Value) (cs:Array Value) (i:Nat),(∀j,l[j]? =vs[k+j]?)→off+k+l.length≤cs.size→
 ((l.zipIdx k).foldl (fun cs x=>cs.setIfInBounds (off+x.2) x.1) cs)[i]? =if off+k≤i∧i<off+k+l.length then l[i - off - k]? else cs[i]?
 |k,[],cs,i,_,_=>by
  simp only [List.zipIdx_nil,List.foldl_nil,List.length_nil,Nat.add_zero]
  split
  ·omega
  ·rfl
 |k,x::l,cs,i,hj,hl=>by
  simp only [List.zipIdx_cons,List.foldl_cons]
  rw [foldl_set_get off vs (k+1) l _ i (fun j=>by have:=hj (j+1);rw [List.getElem?_cons_succ]at this;rw [this];congr 1;omega) (by simp at hl⊢;omega)]
  simp only [List.length_cons]at hl⊢
  by_cases h1:off+(k+1)≤i∧i<off+(k+1)+l.length
  ·rw [if_pos h1,if_pos (by omega),show i - off - k=(i - off - (k+1))+1 by omega,List.getElem?_cons_succ]
  ·rw [if_neg h1]
   by_cases h2:i=off+k
   ·subst h2
    rw [if_pos (by omega),show off+k - off - k=0 by omega,Array.getElem?_setIfInBounds_self,if_pos (by omega)]
    rfl
   ·rw [if_neg (by omega),Array.getElem?_setIfInBounds_ne (by omega)]
theorem PW.set {vs us:Array Value} {cs ds:List D} (h:PW g w vs cs) (hu:PW g w us ds) {off:Nat} (hle:off+us.size≤vs.size):
 PW g w (us.zipIdx.foldl (fun cs (c,j)=>cs.setIfInBounds (off+j) c) vs) (setAt cs off ds):=by
 have e:us.zipIdx.foldl (fun cs (c,j)=>cs.setIfInBounds (off+j) c) vs=(us.toList.zipIdx 0).foldl (fun cs x=>cs.setIfInBounds (off+x.2) x.1) vs:=by
  rw [←Array.foldl_toList,Array.toList_zipIdx]
 rw [e]
 have hul:us.toList.length=us.size:=Array.length_toList
 have hget:=fun i=>foldl_set_get off us.toList 0 us.toList vs i (fun j=>by rw [Nat.zero_add]) (by rw [hul];omega)
 have h1:=h.1
 have h2:=hu.1
 refine⟨?_,fun i v d hv hd=> ?_⟩
 ·rw [foldl_set_size]
  simp only [setAt,List.length_append,List.length_take,List.length_drop]
  omega
 ·rw [hget i]at hv
  simp only [setAt]at hd
  have hlt:(cs.take off).length=off:=by rw [List.length_take];omega
  split at hv
  ·rename_i hc
   rw [List.append_assoc,List.getElem?_append_right (by omega),hlt,List.getElem?_append_left (by omega)]at hd
   rw [Nat.sub_zero]at hv
   exact hu.2 _ _ _ (by simpa using hv) hd
  ·rename_i hc
   rcases Nat.lt_or_ge i off with h3|h3
   ·rw [List.append_assoc,List.getElem?_append_left (by omega),List.getElem?_take_of_lt h3]at hd
    exact h.2 _ _ _ hv hd
   ·rw [List.append_assoc,List.getElem?_append_right (by omega),hlt,List.getElem?_append_right (by omega),List.getElem?_drop]at hd
    rw [show off+ds.length+(i - off - ds.length)=i by omega]at hd
    exact h.2 _ _ _ hv hd
theorem fill_sound (place:Nat→Option (Nat×Nat)):∀(ps:List (Nat×Value)) (qs:List (Nat×D)) (vs:Array Value) (cs ds:List D),ps.length=qs.length→
 (∀(k:Nat) (i:Nat) (v:Value) (j:Nat) (d:D),ps[k]? =some (i,v)→qs[k]? =some (j,d)→i=j∧VRel g w v d)→PW g w vs cs→fillD place cs qs=some ds→
 ∃us,Instr.fill place vs ps=some us∧PW g w us ds
 |[],[],vs,cs,ds,_,_,h,hf=>by
  simp only [fillD,Option.some.injEq]at hf
  subst hf
  exact⟨vs,rfl,h⟩
 |(i,v)::ps,(j,d)::qs,vs,cs,ds,hl,hp,h,hf=>by
  obtain⟨rfl,hv⟩:=hp 0 i v j d rfl rfl
  simp only [fillD]at hf
  split at hf
  ·rename_i off size xs hpl hc
   split at hf
   ·rename_i hcond
    obtain⟨h1,h2⟩:=cells_rel hv hc
    have h3:=h.1
    obtain⟨us,h4,h5⟩:=fill_sound place ps qs _ _ ds (by simpa using hl) (fun k=>hp (k+1)) (h.set ⟨h1,h2⟩ (off:=off) (by omega)) hf
    refine⟨us, ?_,h5⟩
    simp only [Instr.fill,hpl]
    rw [if_neg (by simp;omega)]
    exact h4
   ·cases hf
  ·cases hf
theorem plcOf_spec {t:TypeId} (hb:bldOk P t=true) {ps:List (Nat×Value)} {z:Value} {i:TypeInfo} (hi:P.info? t=some i) (hz:i.zero=some z) {us:Array Value} (h:Instr.fill (plcOf P t) z.cells ps=some us):
 P.built t ps=some us:=by
 unfold bldOk at hb
 unfold Program.built
 rw [hi]
 cases hu:P.underlying t with
 |none=>simp [hu]at hb
 |some d=>
  simp only [hu]at hb
  cases d<;>simp only at hb⊢ <;>try (cases hb;done)
  case array n e=>
   obtain⟨ie,hie⟩:=Option.isSome_iff_exists.1 hb
   simp only [hz,hie]
   rw [←h]
   congr 1
   funext k
   simp [plcOf,hu,hie]
  case struct fields=>
   have hall:∀f∈fields.toList,(P.info? f.type).isSome=true:=List.all_eq_true.1 hb
   have hm:∀(fs:List Field),(∀f∈fs,(P.info? f.type).isSome=true)→∃places,fs.mapM (fun f=>(P.info? f.type).map fun i=>(f.offset,i.size))=some places∧∀(k:Nat),places[k]? =(fs[k]?).bind fun(f:Field)=>(P.info? f.type).map fun i=>(f.offset,i.size):=by
    intro fs
    induction fs with
    |nil=>intro _;exact⟨[],by simp,by simp⟩
    |cons f fs ih=>
     intro h
     obtain⟨ie,hie⟩:=Option.isSome_iff_exists.1 (h f (by simp))
     obtain⟨places,h1,h2⟩:=ih (fun f hf=>h f (by simp [hf]))
     refine⟨(f.offset,ie.size)::places,by simp [List.mapM_cons,hie,h1],fun k=> ?_⟩
     cases k with
     |zero=>simp [hie]
     |succ k=>simpa using h2 k
   obtain⟨places,h1,h2⟩:=hm fields.toList hall
   simp only [hz,h1]
   rw [←h]
   congr 1
   funext k
   have:=h2 k
   simp only [List.getElem?_toArray,this,plcOf,hu]
   rw [Array.getElem?_toList]
   cases fields[k]? with
   |none=>rfl
   |some f=>simp only [Option.bind_some];cases P.info? f.type<;>rfl
theorem build_sound {t:TypeId} {ps:List (Nat×Value)} {qs:List (Nat×D)} {d:D} (hl:ps.length=qs.length)
 (hp:∀(k:Nat) (i:Nat) (v:Value) (j:Nat) (d:D),ps[k]? =some (i,v)→qs[k]? =some (j,d)→i=j∧VRel g w v d) (h:buildD P t qs=some d) (ps':Array (Nat×Value)) (hps:ps'.toList=ps):
 ∃r,Runs P (Instr.build t ps') w r∧VRel g w r d:=by
 unfold buildD at h
 split at h
 ·rename_i cs hb
  split at h
  ·rename_i ds hf
   cases h
   have hb':=hb
   unfold bldOf at hb'
   obtain⟨hz,hbo⟩:zOf P t=some (.agg cs)∧bldOk P t=true:=by
    split at hb'
    ·rename_i hz
     split at hb'
     ·cases hb';exact⟨hz,by assumption⟩
     ·cases hb'
    ·cases hb'
   unfold zOf at hz
   cases hi:P.info? t with
   |none=>simp [hi]at hz
   |some i=>
    cases hzz:i.zero with
    |none=>simp [hi,hzz]at hz
    |some z=>
     simp only [hi,hzz,Option.some.injEq]at hz
     have hrel:VRel g w z (.agg cs):=by rw [←hz];exact valD_rel z
     have hpw:PW g w z.cells cs:=cells_rel hrel rfl
     obtain⟨us,h1,h2⟩:=fill_sound (plcOf P t) ps qs _ _ _ hl hp hpw hf
     have:=plcOf_spec hbo hi hzz h1
     exact⟨.agg us,fun w' _=>run_build w' t ps' us (by rw [hps];exact this), .agg _ _ h2.1 h2.2⟩
  ·cases h
 ·cases h
end
end Dm
