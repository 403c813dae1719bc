import Derived.Test.YtpiadnkkmfkmmaaGreatP0
import Derived.Laws.StructEq
import Derived.Lib.AppendZerosOnto
import Derived.Lib.Overlaps
import Derived.MapKept
import Derived.WideKeyRuns
set_option linter.unusedSimpArgs false
set_option linter.unusedVariables false
set_option linter.unusedSectionVars false
set_option linter.defProp false
set_option maxRecDepth 20000
set_option maxHeartbeats 4000000
noncomputable section
namespace Dm
open Go
section
variable {δ:List Deferred} {P:Program} {g g':G} {s:St} {a:Act} {w w':World}
theorem idx_lt {els:List (List C)} {z i j:Nat} {x:List C} {y:C} (hw:Wide z els) (hx:els[i]? =some x) (hy:x[j]? =some y):i<els.length∧j<z∧i*z+j<els.length*z:=by
 have hi:i<els.length:=by
  rcases Nat.lt_or_ge i els.length with h3|h3
  ·exact h3
  ·rw [List.getElem?_eq_none h3]at hx;cases hx
 have hj:j<z:=by
  have:=hw x (List.mem_of_getElem? hx)
  rcases Nat.lt_or_ge j x.length with h3|h3
  ·omega
  ·rw [List.getElem?_eq_none h3]at hy;cases hy
 have:(i+1)*z≤els.length*z:=Nat.mul_le_mul_right _ hi
 rw [Nat.add_mul]at this
 exact⟨hi,hj,by omega⟩
theorem Flat.set {I:Nat→Prop} {z:Nat} {els:List (List C)} {cells:Array Value} (h:Flat I w z els cells.toList) (hw:Wide z els) {k:Nat} (hk:k<els.length) {us:Array Value} {xs:List C} (hl:us.size=xs.length) (hz:xs.length=z)
 (hu:∀(i:Nat) (u:Value) (x:C),us[i]? =some u→xs[i]? =some x→CRel I w u x):
 Flat I w z (els.set k xs) (us.zipIdx.foldl (fun cs (c,j)=>cs.setIfInBounds (k*z+j) c) cells).toList:=by
 have e:us.zipIdx.foldl (fun cs (c,j)=>cs.setIfInBounds (k*z+j) c) cells=(us.toList.zipIdx 0).foldl (fun cs x=>cs.setIfInBounds (k*z+x.2) x.1) cells:=by
  rw [←Array.foldl_toList,Array.toList_zipIdx]
 rw [e]
 have hcl:cells.toList.length=cells.size:=Array.length_toList
 have hul:us.toList.length=us.size:=Array.length_toList
 have hle:(k+1)*z≤els.length*z:=Nat.mul_le_mul_right _ hk
 rw [Nat.add_mul]at hle
 have hsz:=h.1
 have hget:=fun i=>foldl_set_get (k*z) us.toList 0 us.toList cells i (fun j=>by rw [Nat.zero_add]) (by omega)
 refine⟨by rw [Array.length_toList,foldl_set_size];simp;omega,fun i j x y hx hy=> ?_⟩
 rw [Array.getElem?_toList,hget]
 by_cases hik:i=k
 ·subst hik
  rw [List.getElem?_set_self hk]at hx
  cases hx
  have hj:j<xs.length:=by
   rcases Nat.lt_or_ge j xs.length with h3|h3
   ·exact h3
   ·rw [List.getElem?_eq_none h3]at hy;cases hy
  rw [if_pos (by omega),show i*z+j - i*z - 0=j by omega]
  have hju:j<us.size:=by omega
  exact⟨us[j],by simp [hju],hu j _ y (Array.getElem?_eq_getElem hju) hy⟩
 ·rw [List.getElem?_set_ne (Ne.symm hik)]at hx
  obtain⟨u,h1,h2⟩:=h.2 i j x y hx hy
  obtain⟨h3,h4,h5⟩:=idx_lt hw hx hy
  refine⟨u, ?_,h2⟩
  rw [if_neg]
  ·simpa using h1
  ·intro hc
   rcases Nat.lt_or_gt_of_ne hik with h6|h6
   ·have:(i+1)*z≤k*z:=Nat.mul_le_mul_right _ h6
    rw [Nat.add_mul]at this
    omega
   ·have:(k+1)*z≤i*z:=Nat.mul_le_mul_right _ h6
    rw [Nat.add_mul]at this
    omega
theorem fillS_sound (z:Nat):∀(ps:List (Nat×Value)) (qs:List (Nat×D)) (cells:Array Value) (els els':List (List C)),ps.length=qs.length→
 (∀(k:Nat) (i:Nat) (v:Value) (j:Nat) (d:D),ps[k]? =some (i,v)→qs[k]? =some (j,d)→i=j∧VRel g w v d)→Flat g.I w z els cells.toList→Wide z els→fillS z els qs=some els'→
 ∃us,Instr.fill (fun i=>some (i*z,z)) cells ps=some us∧Flat g.I w z els' us.toList∧Wide z els'∧els'.length=els.length∧us.size=cells.size
 |[],[],cells,els,els',_,_,h,hw,hf=>by
  simp only [fillS,Option.some.injEq]at hf
  subst hf
  exact⟨cells,rfl,h,hw,rfl,rfl⟩
 |(i,v)::ps,(j,d)::qs,cells,els,els',hl,hp,h,hw,hf=>by
  obtain⟨rfl,hv⟩:=hp 0 i v j d rfl rfl
  simp only [fillS]at hf
  split at hf<;>try cases hf
  rename_i vs hc
  split at hf<;>try cases hf
  rename_i xs hx
  split at hf<;>try cases hf
  rename_i hcond
  obtain⟨h1,h2⟩:=cells_toCs hv hc hx
  have hset:=h.set hw hcond.2 h1 hcond.1 h2
  have hw':Wide z (els.set i xs):=fun x hx=>by
   rcases List.mem_or_eq_of_mem_set hx with h|h
   ·exact hw x h
   ·rw [h];exact hcond.1
  obtain⟨us,h3,h4,h5,h6,h7⟩:=fillS_sound z ps qs _ _ els' (by simpa using hl) (fun k=>hp (k+1)) hset hw' hf
  have hcl:cells.toList.length=cells.size:=Array.length_toList
  have hle:(i+1)*z≤els.length*z:=Nat.mul_le_mul_right _ hcond.2
  rw [Nat.add_mul]at hle
  have hsz:=h.1
  refine⟨us, ?_,h4,h5,by simpa using h6, ?_⟩
  ·simp only [Instr.fill]
   rw [if_neg (by simp;omega)]
   exact h3
  ·rw [h7]
   have e:v.cells.zipIdx.foldl (fun cs (c,j)=>cs.setIfInBounds (i*z+j) c) cells=(v.cells.toList.zipIdx 0).foldl (fun cs x=>cs.setIfInBounds (i*z+x.2) x.1) cells:=by
    rw [←Array.foldl_toList,Array.toList_zipIdx]
   rw [e,foldl_set_size]
theorem zero_flat {zv:Value} {zc:List C} (hl:zv.cells.size=zc.length) (hr:∀(i:Nat) (u:Value) (x:C),zv.cells[i]? =some u→zc[i]? =some x→CRel g.I w u x) (hz:zc.length≠0) (n:Nat):
 Flat g.I w zc.length (List.replicate n zc) ((Array.range (n*zc.length)).map (zv.cells[· % zv.cells.size]!)).toList:=by
 refine⟨by simp,fun i j x y hx hy=> ?_⟩
 have hw:Wide zc.length (List.replicate n zc):=fun x hx=>by rw [(List.mem_replicate.1 hx).2]
 obtain⟨h1,h2,h3⟩:=idx_lt hw hx hy
 rw [List.length_replicate]at h1 h3
 rw [List.getElem?_replicate,if_pos h1]at hx
 cases hx
 have e1:(i*zc.length+j) % zv.cells.size=j:=by rw [hl,Nat.mul_comm,Nat.mul_add_mod,Nat.mod_eq_of_lt h2]
 have hj:j<zv.cells.size:=by omega
 refine⟨zv.cells[j], ?_,hr j _ y (Array.getElem?_eq_getElem hj) hy⟩
 simp [List.getElem?_range h3,e1,hj]
theorem bsl_sound (hr:Rel δ g s a w) {t:TypeId} {len:Nat} {ps:List (Nat×Value)} {qs:List (Nat×D)} {z:Nat} {e:TypeId} {els:List (List C)} (hl:ps.length=qs.length)
 (hp:∀(k:Nat) (i:Nat) (v:Value) (j:Nat) (d:D),ps[k]? =some (i,v)→qs[k]? =some (j,d)→i=j∧VRel g w v d) (h:bslD P t len qs=some (z,e,els))
 (ps':Array (Nat×Value)) (hps:ps'.toList=ps) (dst:Option Tmp) (hd:∀x,dst=some x→x<a.tmps.size):
 ∃r w' g',(Instr.buildSlice t len ps').run P w= .ok r w'∧Rel δ g' (s.vc dst z e els) (a.put dst r) w'∧Step g s w g' (s.vc dst z e els) w':=by
 unfold bslD at h
 split at h<;>try cases h
 rename_i e' z' bytes he
 split at h<;>try cases h
 rename_i zc hzc
 split at h<;>try cases h
 rename_i hcond
 split at h<;>try cases h
 rename_i els' hf
 obtain⟨hul,i,hi,his,hib⟩:=elOf_spec he
 obtain⟨i',zv,hi',hzv,hzs,hzr⟩:=zcOf_spec hzc
 simp only at hul hi his hib
 rw [hi]at hi';cases hi'
 obtain⟨hc1,hc2,hc3⟩:=hcond
 have hz0:=zero_flat (g:=g) (w:=w) hzs (hzr g w) (by omega) len
 rw [hc2]at hz0
 obtain⟨us,h1,h2,h3,h4,h5⟩:=fillS_sound z ps qs _ _ els hl hp hz0 (fun x hx=>by rw [(List.mem_replicate.1 hx).2];exact hc2) hf
 rw [List.length_replicate]at h4
 have hus:us.size=len*z:=by rw [h5];simp
 have hrun:(Instr.buildSlice t len ps').run P w= .ok (.slice (some ⟨w.heap.size,0,none⟩) len len) (w.alloc (.cells us e)):=by
  subst hps
  by_cases hn:len*z=0
  ·have hn0:len=0:=by
    rcases Nat.mul_eq_zero.1 hn with h|h
    ·exact h
    ·exact absurd h hc3
   subst hn0
   rw [Nat.zero_mul]at h1
   have h1':Instr.fill (fun i=>some (i*z,z)) #[] ps'.toList=some us:=by rw [←h1,Array.range_zero'];simp
   simp [Instr.buildSlice,Go.run_underlying hul,Go.sizeOf,typeInfo,hi,his,h1',newRow,Array.range_zero']
  ·simp [Instr.buildSlice,Go.run_underlying hul,Go.sizeOf,typeInfo,zeroValue,hzv,hi,his,hn,h1,newRow,show¬16777216<len*z by omega]
 obtain⟨vs,hvs⟩:=h2.cells (rest:=[])
 obtain⟨g',h6,h7⟩:=vec_sound hr (w.alloc (.cells us e)) (by rw [size_alloc];omega) (fun b hb=>heap_alloc_lt _ _ _ hb) (sz:=z) (e:=e) (els:=els) (a0:=some ⟨w.heap.size,0,none⟩) (cap:=len) (by omega)
  (by simp only [maxLen];have:len*1≤len*z:=Nat.mul_le_mul_left _ (by omega)
      omega) h3 (.inr ⟨w.heap.size,us,vs,rfl,Nat.le_refl _,heap_alloc_new w _,⟨hus,h2.one h3 hc3⟩,fun i j x y hx hy=>by simpa using hvs i j x y hx hy⟩) dst hd
 rw [h4]at h6
 exact⟨_,_,g',hrun,h6,h7⟩
theorem mk_sound (hr:Rel δ g s a w) {t:TypeId} {l c:D} {v u:Value} (hv:VRel g w v l) (hu:VRel g w u c) (dst:Option Tmp) (hd:∀x,dst=some x→x<a.tmps.size)
 {C0:Prop} {s':St} (h:mkD P s t dst l c=some (C0,s')) (hc:C0):
 ∃r w' g',(Instr.makeSlice t v u).run P w= .ok r w'∧Rel δ g' s' (a.put dst r) w'∧Step g s w g' s' w':=by
 unfold mkD at h
 split at h<;>try cases h
 rename_i k l k' c e z bytes he
 split at h<;>cases h
 rename_i zc hzc
 obtain⟨hul,i,hi,his,hib⟩:=elOf_spec he
 obtain⟨i',zv,hi',hzv,hzs,hzr⟩:=zcOf_spec hzc
 simp only at hul hi his hib
 rw [hi]at hi';cases hi'
 obtain⟨hc1,hc2,hc3,hc4,hc5,hc6⟩:=hc
 obtain rfl:=hv.int_inv
 obtain rfl:=hu.int_inv
 have hb1:c*1≤c*(bytes:Int):=Int.mul_le_mul_of_nonneg_left (by omega) (by omega)
 have hrun:=run_make (P:=P) w t e i zv hul hi hzv k k' l c hc1 hc2 (by rw [hib,Int.mul_comm];omega) (by omega)
 have hz0:=zero_flat (g:=g) (w:=w) hzs (hzr g w) (by omega) l.toNat
 have hzl:=zero_flat (g:=g) (w:=w) hzs (hzr g w) (by omega) c.toNat
 rw [hc4]at hz0 hzl
 have hmc:(madeCells zv.cells (c.toNat*i.size)).size=c.toNat*z:=by rw [size_madeCells,his]
 obtain⟨g',h6,h7⟩:=vec_sound hr (w.alloc (.cells (madeCells zv.cells (c.toNat*i.size)) e)) (by rw [size_alloc];omega) (fun b hb=>heap_alloc_lt _ _ _ hb) (sz:=z) (e:=e) (els:=List.replicate l.toNat zc) (a0:=some ⟨w.heap.size,0,none⟩) (cap:=c.toNat)
  (by simp;omega) (by simp only [maxLen];omega) (fun x hx=>by rw [(List.mem_replicate.1 hx).2];exact hc4)
  (.inr ⟨w.heap.size,_,fun i j=>(madeCells zv.cells (c.toNat*z)).getD (i*z+j) .nilFunc,rfl,Nat.le_refl _,heap_alloc_new w _,⟨hmc,fun u hu=>by rw [his]at hu;exact hzl.one (fun x hx=>by rw [(List.mem_replicate.1 hx).2];exact hc4) hc5 u hu⟩,fun p j x y hx hy=>by
   have hx':(List.replicate c.toNat zc)[p]? =some x:=by
    obtain⟨h1,_⟩:=idx_lt (z:=z) (fun x hx=>by rw [(List.mem_replicate.1 hx).2];exact hc4) hx hy
    rw [List.length_replicate]at h1
    rw [List.getElem?_replicate,if_pos h1]at hx
    rw [List.getElem?_replicate,if_pos (by omega),hx]
   obtain⟨r,h8,h9⟩:=hzl.2 p j x y hx' hy
   have h8':(madeCells zv.cells (c.toNat*z))[p*z+j]? =some r:=by
    rw [←Array.getElem?_toList]
    exact h8
   rw [his]
   simp only [Array.getD_eq_getD_getElem?,h8',Option.getD_some]
   exact⟨trivial,h9⟩⟩) dst hd
 rw [List.length_replicate]at h6
 exact⟨_,_,g',hrun,h6,h7⟩
theorem setAt_length {α:Type} (cs vs:List α) (off:Nat) (h:off+vs.length≤cs.length):(setAt cs off vs).length=cs.length:=by
 simp only [setAt,List.length_append,List.length_take,List.length_drop]
 omega
theorem run_store_at {b off:Nat} {e:TypeId} {cells:Array Value} (hb:w.heap[b]? =some (.cells cells e (0,0))) {t:TypeId} {z:Bool×Nat} (ht:tyOf P t=some z) {v:Value} (hv:v.cells.size=z.2) (hfit:off+v.cells.size≤cells.size)
 (h1:∀u∈v.cells.toList,u.oneCell'=true):
 (Instr.storeAt t (.pointer (some ⟨b,off,none⟩)) v).run P w= .ok () (w.setRow b (cells.toList.take off++v.cells.toList++cells.toList.drop (off+v.cells.toList.length)).toArray):=by
 obtain⟨_,h2⟩:=tyOf_spec ht w
 have hl:v.cells.toList.length=v.cells.size:=Array.length_toList
 have hst:=run_storeCells_at P b off e v.cells.toList 0 cells w hb (by omega) h1
 rw [Nat.add_zero]at hst
 simp [Instr.storeAt,Instr.sureAddr,storeVar,h2,hv,hst]
theorem seg_get {vs us:Array Value} {off i:Nat} (h:off+us.size≤vs.size):(vs.toList.take off++us.toList++vs.toList.drop (off+us.toList.length))[i]? =if off≤i∧i<off+us.size then us[i - off]? else vs[i]? :=by
 have h1:vs.toList.length=vs.size:=Array.length_toList
 have h2:us.toList.length=us.size:=Array.length_toList
 have h3:(vs.toList.take off).length=off:=by rw [List.length_take];omega
 rcases Nat.lt_or_ge i off with h4|h4
 ·rw [List.append_assoc,List.getElem?_append_left (by omega),List.getElem?_take_of_lt h4,if_neg (by omega)]
  simp
 ·rw [List.append_assoc,List.getElem?_append_right (by omega),h3]
  rcases Nat.lt_or_ge i (off+us.size)with h5|h5
  ·rw [List.getElem?_append_left (by omega),if_pos ⟨h4,h5⟩]
   simp
  ·rw [List.getElem?_append_right (by omega),if_neg (by omega),List.getElem?_drop,h2,show off+us.size+(i - off - us.size)=i by omega]
   simp
theorem store_sound (hr:Rel δ g s a w) {t:TypeId} {p d:D} {v u:Value} (hv:VRel g w v p) (hu:VRel g w u d) {s':St} (h:stD P s t p d=some s'):
 ∃w' g',(Instr.storeAt t v u).run P w= .ok () w'∧Rel δ g' s' a w'∧Step g s w g' s' w':=by
 cases p<;>simp only [stD,reduceCtorEq]at h
 case ref id off=>
  split at h<;>try cases h
  rename_i ag n cs vs ht ho hc
  split at h<;>cases h
  rename_i hcond
  obtain⟨hc1,hc2,hc3⟩:=hcond
  cases hv with
  |ref b _ _ hb=>
   have hok:=hr.o.ok id _ ho
   obtain⟨b',e,cells,h1,h2,h3,h4⟩:=hok
   rw [hb]at h1;cases h1
   obtain⟨h5,h6⟩:=cells_rel hu hc
   have hone:∀x∈u.cells.toList,x.oneCell'=true:=fun x hx=>by
    obtain⟨k,hk,rfl⟩:=List.getElem_of_mem hx
    have hk':k<u.cells.size:=by simpa using hk
    have hd:vs[k]? =some (vs[k]'(by omega)):=List.getElem?_eq_getElem (by omega)
    have:=h6 k _ _ (Array.getElem?_eq_getElem hk') hd
    exact this.one (List.all_eq_true.1 hc3 _ (List.getElem_mem (by omega)))
   have hrun:=run_store_at h2 ht (v:=u) (off:=off) (by simp only;omega) (by omega) hone
   have hsl:=fun i=>seg_get (vs:=cells) (us:=u.cells) (off:=off) (i:=i) (by omega)
   have hk:Keeps g.I w (w.setRow b (cells.toList.take off++u.cells.toList++cells.toList.drop (off+u.cells.toList.length)).toArray):=fun k hk=>setRow_other w b k _ (fun e=>(hr.o.imm k hk).2 ⟨id,_,ho,by rw [e];exact hb⟩)
   obtain⟨h7,h8⟩:=hr.o.replace ho (.box (setAt cs off vs)) s.tm (.refl g) (fun b hb=>hb) (fun _ _=>rfl) (fun _ _=>rfl) (w':=w.setRow b (cells.toList.take off++u.cells.toList++cells.toList.drop (off+u.cells.toList.length)).toArray) (by simp)
    (fun k _ hne=>setRow_other w b k _ (fun e=>hne (by rw [e];exact hb)))
    (by
     refine⟨b,e,_,hb,setRow_heap w b cells _ e _ h2, ?_,fun i x y hx hy=> ?_⟩
     ·rw [setAt_length _ _ _ (by omega)]
      have h9:cells.toList.length=cells.size:=Array.length_toList
      have h10:u.cells.toList.length=u.cells.size:=Array.length_toList
      simp only [List.size_toArray,List.length_append,List.length_take,List.length_drop]
      omega
     ·rw [List.getElem?_toArray,hsl]at hx
      simp only [setAt]at hy
      have h9:(cs.take off).length=off:=by rw [List.length_take];omega
      split at hx
      ·rename_i hcc
       rw [List.append_assoc,List.getElem?_append_right (by omega),h9,List.getElem?_append_left (by omega)]at hy
       exact(h6 _ _ _ hx hy).mono hk (.refl g)
      ·rename_i hcc
       rcases Nat.lt_or_ge i off with h10|h10
       ·rw [List.append_assoc,List.getElem?_append_left (by omega),List.getElem?_take_of_lt h10]at hy
        exact(h4 _ _ _ hx hy).mono hk (.refl g)
       ·rw [List.append_assoc,List.getElem?_append_right (by omega),h9,List.getElem?_append_right (by omega),List.getElem?_drop,show off+vs.length+(i - off - vs.length)=i by omega]at hy
        exact(h4 _ _ _ hx hy).mono hk (.refl g))
    (fun k hk=> .inl hk)
   exact⟨_,g,hrun,hr.of h7 h8.tm rfl,h8⟩
 case eref id n sz i off=>
  split at h<;>try cases h
  rename_i ag m hd0 sz' e els vs ht ho hc
  split at h<;>try cases h
  rename_i xs hx
  split at h<;>cases h
  rename_i hcond
  obtain⟨hc1,rfl,rfl,hc4,hc5⟩:=hcond
  cases hv with
  |eref b o _ _ _ _ _ a0 len cap hk hn hvv=>
   obtain⟨a1,cap1,h1,h2,h3,h4,h5⟩:=hr.o.ok id _ ho
   rw [hk]at h1;cases h1
   obtain⟨o',rfl,rfl⟩:=hvv rfl
   rcases h5 with⟨h5,_⟩|⟨b',o2,cells,vs2,h5,h6,h7,h9,h8⟩
   ·cases h5
   ·cases h5
    obtain⟨h10,h11⟩:=cells_toCs hu hc hx
    have hone:∀x∈u.cells.toList,x.oneCell'=true:=fun x hx=>by
     obtain⟨k,hk,rfl⟩:=List.getElem_of_mem hx
     have hk':k<u.cells.size:=by simpa using hk
     have hd:xs[k]? =some (xs[k]'(by omega)):=List.getElem?_eq_getElem (by omega)
     exact(h11 k _ _ (Array.getElem?_eq_getElem hk') hd).one.1
    have hel:els[i]? =some els[i]:=List.getElem?_eq_getElem hc4
    have hlen:els[i].length=sz:=h4 _ (List.getElem_mem hc4)
    have hle:(i+1)*sz≤cap*sz:=Nat.mul_le_mul_right _ (by omega)
    rw [Nat.add_mul]at hle
    have hrun:=run_store_at h6 ht (v:=u) (off:=o'+i*sz+off) (by simp only;omega) (by omega) hone
    have hsl:=fun k=>seg_get (vs:=cells) (us:=u.cells) (off:=o'+i*sz+off) (i:=k) (by omega)
    have hblk:g.blk id (.vec hd0 sz e els)=some b:=by simp [G.blk,hk]
    have hkp:Keeps g.I w (w.setRow b (cells.toList.take (o'+i*sz+off)++u.cells.toList++cells.toList.drop (o'+i*sz+off+u.cells.toList.length)).toArray):=fun k hk=>setRow_other w b k _ (fun e=>(hr.o.imm k hk).2 ⟨id,_,ho,by rw [e];exact hblk⟩)
    have hnew:els.getD i (zc0 P e)=els[i]:=by simp [List.getD,hel]
    obtain⟨h12,h13⟩:=hr.o.replace ho (.vec hd0 sz e (els.set i (setAt (els.getD i (zc0 P e)) off xs))) s.tm (.refl g) (fun b hb=>hb) (fun _ _=>rfl) (fun _ _=>rfl) (w':=w.setRow b (cells.toList.take (o'+i*sz+off)++u.cells.toList++cells.toList.drop (o'+i*sz+off+u.cells.toList.length)).toArray) (by simp)
     (fun k _ hne=>setRow_other w b k _ (fun e=>hne (by rw [e];exact hblk)))
     (by
      have hsz2:(cells.toList.take (o'+i*sz+off)++u.cells.toList++cells.toList.drop (o'+i*sz+off+u.cells.toList.length)).toArray.size=cells.size:=by
       have e1:cells.toList.length=cells.size:=Array.length_toList
       have e2:u.cells.toList.length=u.cells.size:=Array.length_toList
       simp only [List.size_toArray,List.length_append,List.length_take,List.length_drop]
       omega
      refine⟨_,cap,by rw [List.length_set];exact hk,by rw [List.length_set];exact h2,h3,fun x hx=> ?_, .inr ⟨b,o',_,fun p q=>if p=i∧off≤q∧q<off+u.cells.size then u.cells.getD (q - off) .nilFunc else vs2 p q,rfl,setRow_heap w b cells _ e _ h6,by rw [hsz2];exact h7,by rw [hsz2];exact⟨h9.1,fun v hv=>by
       simp only [List.append_assoc,List.mem_append]at hv
       rcases hv with hv|hv
       ·exact h9.2 v (List.mem_of_mem_take hv)
       ·rcases hv with hv|hv
        ·exact hone v hv
        ·exact h9.2 v (List.mem_of_mem_drop hv)⟩,fun p q x y hxx hyy=> ?_⟩⟩
      ·rcases List.mem_or_eq_of_mem_set hx with h|h
       ·exact h4 x h
       ·rw [h,hnew,setAt_length _ _ _ (by omega)];exact hlen
      ·rw [List.getElem?_toArray,hsl]
       by_cases hp:p=i
       ·subst hp
        rw [List.getElem?_set_self hc4,hnew]at hxx
        cases hxx
        simp only [setAt]at hyy
        have e1:(els[p].take off).length=off:=by rw [List.length_take];omega
        by_cases hq:off≤q∧q<off+u.cells.size
        ·rw [if_pos (by omega),show o'+p*sz+q - (o'+p*sz+off)=q - off by omega]
         rw [List.append_assoc,List.getElem?_append_right (by omega),e1,List.getElem?_append_left (by omega)]at hyy
         have hk':q - off<u.cells.size:=by omega
         simp only [true_and,if_pos hq,Array.getD_eq_getD_getElem?,Array.getElem?_eq_getElem hk',Option.getD_some]
         exact(h11 _ _ y (Array.getElem?_eq_getElem hk') hyy).mono hkp fun b hb=>hb
        ·rw [if_neg (by omega)]
         have hy2:els[p][q]? =some y:=by
          rcases Nat.lt_or_ge q off with h10|h10
          ·rw [List.append_assoc,List.getElem?_append_left (by omega),List.getElem?_take_of_lt h10]at hyy
           exact hyy
          ·rw [List.append_assoc,List.getElem?_append_right (by omega),e1,List.getElem?_append_right (by omega),List.getElem?_drop,show off+xs.length+(q - off - xs.length)=q by omega]at hyy
           exact hyy
         simp only [true_and,if_neg hq]
         exact⟨(h8 p q _ y hel hy2).1,(h8 p q _ y hel hy2).2.mono hkp fun b hb=>hb⟩
       ·rw [List.getElem?_set_ne (Ne.symm hp)]at hxx
        obtain⟨h14,h15,_⟩:=idx_lt h4 hxx hyy
        have hno:¬(o'+i*sz+off≤o'+p*sz+q∧o'+p*sz+q<o'+i*sz+off+u.cells.size):=by
         rcases Nat.lt_or_gt_of_ne hp with h6|h6
         ·have:(p+1)*sz≤i*sz:=Nat.mul_le_mul_right _ h6
          rw [Nat.add_mul]at this
          omega
         ·have:(i+1)*sz≤p*sz:=Nat.mul_le_mul_right _ h6
          rw [Nat.add_mul]at this
          omega
        rw [if_neg hno]
        simp only [hp,false_and,if_false]
        exact⟨(h8 p q _ y hxx hyy).1,(h8 p q _ y hxx hyy).2.mono hkp fun b hb=>hb⟩)
     (fun k hk=> .inl hk)
    exact⟨_,g,hrun,hr.of h12 h13.tm rfl,h13⟩
end
open Go
section
variable {δ:List Deferred} {P:Program} {g g':G} {s s':St} {a:Act} {w w':World} {n N:Nat}
def G.imm (g:G) (I:Nat→Prop):G:={g with I:=I}
theorem lk_filter {os:List (Nat×Ob)} {i id:Nat}:lk id (os.filter fun x=>x.1 != i)=if id=i then none else lk id os:=by
 induction os with
 |nil=>simp [lk]
 |cons x l ih=>
  obtain⟨m,o⟩:=x
  by_cases hm:m=i
  ·subst hm
   rw [List.filter_cons_of_neg (by simp),ih]
   simp only [lk_cons]
   split<;>rfl
  ·rw [List.filter_cons_of_pos (by simp [hm])]
   simp only [lk_cons,ih]
   by_cases h1:id=m
   ·subst h1;simp [hm]
   ·simp [h1]
theorem lk_rmv {id:Nat}:∀(l:List Nat) (os:List (Nat×Ob)),lk id (rmv os l)=if id∈l then none else lk id os
 |[],os=>by simp [rmv]
 |i::l,os=>by
  rw [rmv,lk_rmv l,lk_filter]
  by_cases h1:id=i
  ·simp [h1]
  ·simp [h1]
theorem RelO.give (ho:RelO g s w) (l:List Nat):RelO (g.imm fun b=>g.I b∨∃id∈l,∃o,lk id s.os=some o∧g.blk id o=some b) ⟨[],rmv s.os l,s.nx⟩ w∧
 Step g s w (g.imm fun b=>g.I b∨∃id∈l,∃o,lk id s.os=some o∧g.blk id o=some b) ⟨[],rmv s.os l,s.nx⟩ w:=by
 have hblk:∀(I:Nat→Prop) id o,(g.imm I).blk id o=g.blk id o:=fun I id o=>by cases o<;>rfl
 have hin:∀id o,lk id (rmv s.os l)=some o→id∉l∧lk id s.os=some o:=fun id o h=>by
  rw [lk_rmv]at h
  split at h
  ·cases h
  ·rename_i hn;exact⟨hn,h⟩
 have hle:g.Le (g.imm fun b=>g.I b∨∃id∈l,∃o,lk id s.os=some o∧g.blk id o=some b):=⟨fun _ _ h=>h,fun _ a l c h=>⟨a,l,c,h,Nat.le_refl _,fun _=>⟨rfl,rfl⟩⟩,fun b hb=> .inl hb⟩
 refine⟨⟨fun id o h=>(ho.ok id o (hin id o h).2).mono (fun _ _=>rfl) hle (fun _ _=>rfl) rfl,fun id o id' o' b h1 h2 h3 h4=>ho.apart id o id' o' b (hin _ _ h1).2 (hin _ _ h2).2 (by rwa [hblk]at h3) (by rwa [hblk]at h4),ho.fresh,fun b hb=> ?_,ho.cel.keep (fun b hb=> .inl hb) (fun _ _=>rfl) fun b hb=>hb.elim (ho.cel b) fun⟨id,_,o,h1,h2⟩=>Own.cel ho ⟨id,o,h1,h2⟩⟩,
  ⟨hle,Nat.le_refl _,fun b hb _=>rfl,fun b _ h=> ?_,fun b _ h hb=> ?_, .refl w⟩⟩
 ·have hno:∀id∈l,∀o,lk id s.os=some o→g.blk id o=some b→¬Own (g.imm fun b=>g.I b∨∃id∈l,∃o,lk id s.os=some o∧g.blk id o=some b) ⟨[],rmv s.os l,s.nx⟩ b:=by
   rintro id hid o h1 h2 ⟨id',o',h3,h4⟩
   rw [hblk]at h4
   obtain⟨h5,h6⟩:=hin _ _ h3
   have:=ho.apart id o id' o' b h1 h6 h2 h4
   subst this
   exact h5 hid
  rcases hb with hb|⟨id,hid,o,h1,h2⟩
  ·refine⟨(ho.imm b hb).1, ?_⟩
   rintro⟨id',o',h3,h4⟩
   rw [hblk]at h4
   exact(ho.imm b hb).2 ⟨id',o',(hin _ _ h3).2,h4⟩
  ·exact⟨Own.lt ho ⟨id,o,h1,h2⟩,hno id hid o h1 h2⟩
 ·rintro⟨id',o',h3,h4⟩
  rw [hblk]at h4
  exact h ⟨id',o',(hin _ _ h3).2,h4⟩
 ·rcases hb with hb|⟨id,hid,o,h1,h2⟩
  ·exact hb
  ·exact absurd ⟨id,o,h1,h2⟩ h
theorem vec_give (ho:RelO g s w) {id:Nat} {hd:Bool} {sz:Nat} {e:TypeId} {els:List (List C)} (hl:lk id s.os=some (.vec hd sz e els)) {v:Value} (hv:VRel g w v (.vec id els.length)):
 VRel (g.imm fun b=>g.I b∨∃id'∈[id],∃o,lk id' s.os=some o∧g.blk id' o=some b) w v (.c (.sl els)):=by
 cases hv with
 |vec a' cap' _ _ a0 len cap hkk hle hm ha hvq=>
  obtain⟨a1,cap1,h1,h2,h3,h4,h5⟩:=ho.ok id _ hl
  rw [hkk]at h1;cases h1
  obtain⟨rfl,rfl⟩:=hvq rfl
  rcases h5 with⟨rfl,hc⟩|⟨b,off,cells,vs,rfl,h6,h7,h9,h8⟩
  ·have:els=[]:=List.eq_nil_of_length_eq_zero (by omega)
   subst this
   exact .c _ _ (.slnil _ _ h3)
  ·refine .c _ _ (.sl b off cap' sz els vs (.inr ⟨id,by simp,_,hl,by simp [G.blk,hkk]⟩) h2 h3 h4 (fun i j x y hx hy=> ?_) (fun i j x y hx hy=>((h8 i j x y hx hy).2).mono (fun _ _=>rfl) fun b hb=> .inl hb))
   have:=(h8 i j x y hx hy).1
   simp only [World.cell?,h6]
   simpa using this
theorem frz_sound (hr:Rel δ g s a w) {v:Value} {d d':D} {s':St} (hv:VRel g w v d) (h:frz s d=(d',s')):
 ∃g',Rel δ g' s' a w∧VRel g' w v d'∧Step g s w g' s' w∧s'.tm=s.tm:=by
 unfold frz at h
 split at h
 ·split at h
  ·rename_i hl
   split at h
   ·rename_i hn
    cases h
    subst hn
    obtain⟨h1,h2⟩:=hr.o.give [_]
    refine⟨_,⟨fun t d ht=> ?_,hr.defers,h1.tm⟩,vec_give hr.o hl hv,h2.tm,rfl⟩
    obtain⟨v,h3,h4⟩:=hr.tm t d ht
    exact⟨v,h3,h2.vrel hr.o h4⟩
   ·cases h;exact⟨g,hr,hv, .refl _ _ _,rfl⟩
  ·cases h;exact⟨g,hr,hv, .refl _ _ _,rfl⟩
 ·cases h;exact⟨g,hr,hv, .refl _ _ _,rfl⟩
theorem cut_sound (hr:Rel δ g s a w) {id l:Nat} {hd:Bool} {sz:Nat} {e:TypeId} {els:List (List C)} {v:Value} (hv:VRel g w v (.vec id els.length)) (hlk:lk id s.os=some (.vec hd sz e els)) (hle:l≤els.length):
 ∃a0 cap,v= .slice a0 els.length cap∧∃g',Rel δ g' ⟨s.tm,(s.nx, .vec false sz e (els.drop l))::rmv s.os [id],s.nx+1⟩ a w∧VRel g' w (sliced a0 l els.length cap sz) (.vec s.nx (els.drop l).length)∧
  Step g s w g' ⟨s.tm,(s.nx, .vec false sz e (els.drop l))::rmv s.os [id],s.nx+1⟩ w:=by
 cases hv with
 |vec a' cap' _ _ a0 len cap hkk hlen hm ha hvq=>
  obtain⟨a1,cap1,h1,h2,h3,h4,h5⟩:=hr.o.ok id _ hlk
  rw [hkk]at h1;cases h1
  obtain⟨rfl,rfl⟩:=hvq rfl
  have hfr:=hr.o.fresh s.nx (Nat.le_refl _)
  have hdl:(els.drop l).length=els.length - l:=List.length_drop
  have hne:∀i o,lk i s.os=some o→i≠s.nx:=fun i o ho hi=>by
   subst hi
   have:=hr.o.ok _ o ho
   cases o with
   |box cs=>obtain⟨b,_,_,h,_⟩:=this;rw [hfr.1]at h;cases h
   |map _ _=>obtain⟨b,_,h,_⟩:=this;rw [hfr.1]at h;cases h
   |it _ _=>obtain⟨b,h,_⟩:=this;rw [hfr.1]at h;cases h
   |vec _ _ _ _=>obtain⟨b,_,h,_⟩:=this;rw [hfr.2]at h;cases h
  have hidne:=hne id _ hlk
  let g':G:=⟨g.ρ,fun i=>if i=s.nx then some (if cap'=l then a' else a'.map (·.add (l*sz)),els.length - l,cap' - l)else g.κ i,g.I⟩
  have hκ:∀i,i≠s.nx→g'.κ i=g.κ i:=fun i hi=>if_neg hi
  have hκ0:g'.κ s.nx=some (if cap'=l then a' else a'.map (·.add (l*sz)),els.length - l,cap' - l):=if_pos rfl
  have hgle:g.Le g':=⟨fun _ _ h=>h,fun i x y z h=>⟨x,y,z,by
   have:i≠s.nx:=fun hi=>by rw [hi,hfr.2]at h;cases h
   rw [hκ i this];exact h,Nat.le_refl _,fun _=>⟨rfl,rfl⟩⟩,fun _ h=>h⟩
  have hin:∀i o,lk i ((s.nx,Ob.vec false sz e (els.drop l))::rmv s.os [id])=some o→(i=s.nx∧o= .vec false sz e (els.drop l))∨(i≠s.nx∧i≠id∧lk i s.os=some o):=fun i o h=>by
   simp only [lk_cons,lk_rmv]at h
   split at h
   ·rename_i hi;cases h;exact .inl ⟨hi,rfl⟩
   ·rename_i hi
    split at h
    ·cases h
    ·rename_i hi2;exact .inr ⟨hi,by simpa using hi2,h⟩
  have hblk:∀i o,i≠s.nx→g'.blk i o=g.blk i o:=fun i o hi=>by
   cases o with
   |box cs=>rfl
   |map _ _=>rfl
   |it _ _=>rfl
   |vec _ _ _ _=>simp only [G.blk,hκ i hi]
  have hblk0:∀b,g'.blk s.nx (.vec false sz e (els.drop l))=some b→g.blk id (.vec hd sz e els)=some b:=fun b hb=>by
   simp only [G.blk,hκ0]at hb
   simp only [G.blk,hkk]
   by_cases hc:cap'=l
   ·rw [if_pos hc]at hb
    cases a' with
    |none=>cases hb
    |some x=>exact hb
   ·rw [if_neg hc]at hb
    cases a' with
    |none=>cases hb
    |some x=>
     have e1:(x.add (l*sz)).block=x.block:=by
      rcases h5 with⟨h5,_⟩|⟨b',off',_,_,h5,_⟩
      ·cases h5
      ·cases h5
       rw [addr_add]
     simp only [Option.map_some]at hb
     rw [e1]at hb
     exact hb
  have hown:∀b,Own g' ⟨s.tm,(s.nx, .vec false sz e (els.drop l))::rmv s.os [id],s.nx+1⟩ b→Own g s b:=fun b ⟨i,o,h6,h7⟩=>by
   rcases hin i o h6 with⟨rfl,rfl⟩|⟨h8,_,h9⟩
   ·exact⟨id,_,hlk,hblk0 b h7⟩
   ·rw [hblk i o h8]at h7;exact⟨i,o,h9,h7⟩
  have hrel:VRel g' w (sliced a' l els.length cap' sz) (.vec s.nx (els.drop l).length):=by
   rw [hdl]
   refine .vec _ _ _ _ _ _ _ hκ0 (Nat.le_refl _) (by omega) ?_ (fun _=>⟨rfl,rfl⟩)
   rcases ha with h6|⟨b,o,rfl⟩
   ·exact .inl (by omega)
   ·right
    split
    ·exact⟨b,o,rfl⟩
    ·exact⟨b,o+l*sz,by rw [Option.map_some,addr_add]⟩
  have hst:Step g s w g' ⟨s.tm,(s.nx, .vec false sz e (els.drop l))::rmv s.os [id],s.nx+1⟩ w:=
   ⟨hgle,Nat.le_refl _,fun _ _ _=>rfl,fun b _ hno h=>hno (hown b h),fun _ _ _ h=>h, .refl w⟩
  refine⟨a',cap',rfl,g',⟨fun t d ht=> ?_,hr.defers,⟨fun i o hi=> ?_,fun i o i' o' b h6 h7 h8 h9=> ?_,fun i hi=> ?_,fun b hb=>⟨(hr.o.imm b hb).1,fun h=>(hr.o.imm b hb).2 (hown b h)⟩,hr.o.cel⟩⟩,hrel,hst⟩
  ·obtain⟨v,h6,h7⟩:=hr.tm t d ht
   exact⟨v,h6,hst.vrel hr.o h7⟩
  ·rcases hin i o hi with⟨rfl,rfl⟩|⟨h8,_,h9⟩
   ·refine⟨_,_,hκ0.trans (by rw [hdl]),by rw [hdl];omega,by omega,fun x hx=>h4 x (List.mem_of_mem_drop hx), ?_⟩
    rcases h5 with⟨rfl,hc⟩|⟨b,off,cells,vs,rfl,h10,h11,h12,h13⟩
    ·exact .inl ⟨by simp,by omega⟩
    ·right
     by_cases hc:cap'=l
     ·refine⟨b,off,cells,vs,by rw [if_pos hc],h10,by rw [hc,Nat.sub_self];omega,⟨fun h=>(by cases h),h12.2⟩,fun i j x y hx _=> ?_⟩
      have:els.drop l=[]:=List.drop_eq_nil_of_le (by omega)
      rw [this]at hx;simp at hx
     ·refine⟨b,off+l*sz,cells,fun i j=>vs (l+i) j,by rw [if_neg hc,Option.map_some,addr_add],h10, ?_,⟨fun h=>(by cases h),h12.2⟩,fun i j x y hx hy=> ?_⟩
      ·have h14:l*sz+(cap' - l)*sz=cap'*sz:=by rw [←Nat.add_mul];congr 1;omega
       omega
      ·rw [List.getElem?_drop]at hx
       have:=h13 (l+i) j x y hx hy
       rw [show off+l*sz+i*sz+j=off+(l+i)*sz+j by rw [Nat.add_mul];omega]
       exact⟨this.1,this.2.mono (fun _ _=>rfl) fun _ h=>h⟩
   ·exact(hr.o.ok i o h9).mono (fun _ _=>rfl) hgle (fun _ _=>rfl) (hκ i h8)
  ·rcases hin i o h6 with⟨rfl,rfl⟩|⟨h10,h11,h12⟩<;>rcases hin i' o' h7 with⟨rfl,rfl⟩|⟨h13,h14,h15⟩
   ·rfl
   ·rw [hblk i' o' h13]at h9
    exact absurd (hr.o.apart id _ i' o' b hlk h15 (hblk0 b h8) h9) (fun h=>h14 h.symm)
   ·rw [hblk i o h10]at h8
    exact absurd (hr.o.apart i o id _ b h12 hlk h8 (hblk0 b h9)) h11
   ·rw [hblk i o h10]at h8
    rw [hblk i' o' h13]at h9
    exact hr.o.apart i o i' o' b h12 h15 h8 h9
  ·have hi':s.nx+1≤i:=hi
   rw [hκ i (by omega)]
   exact hr.o.fresh i (by omega)
end
open Go
section
variable {δ:List Deferred} {P:Program} {g g':G} {s s':St} {a:Act} {w w':World}
theorem fit_length (c sz:Nat) (els:List (List C)):(fit c sz els).length=c:=by
 simp only [fit,List.length_take,List.length_append,List.length_replicate]
 omega
theorem fit_get {c sz i:Nat} {els:List (List C)}:(fit c sz els)[i]? =if i<c then(if i<els.length then els[i]? else some (List.replicate sz .junk))else none:=by
 simp only [fit,List.getElem?_take]
 by_cases h:i<c
 ·rw [if_pos h,if_pos h]
  by_cases h2:i<els.length
  ·rw [if_pos h2,List.getElem?_append_left h2]
  ·rw [if_neg h2,List.getElem?_append_right (by omega),List.getElem?_replicate,if_pos (by omega)]
 ·rw [if_neg h,if_neg h]
theorem fit_wide {c sz:Nat} {els:List (List C)} (h:Wide sz els):Wide sz (fit c sz els):=fun x hx=>by
 rcases List.mem_append.1 (List.mem_of_mem_take hx)with h1|h1
 ·exact h x h1
 ·rw [(List.mem_replicate.1 h1).2,List.length_replicate]
theorem fit_eq {c sz:Nat} {els:List (List C)} (h:els.length=c):fit c sz els=els:=by
 rw [fit,h,Nat.sub_self,List.replicate_zero,List.append_nil,←h,List.take_length]
theorem ok_fit {I:Nat→Prop} {cells:Array Value} {off c sz:Nat} {els:List (List C)} (hfit:off+c*sz≤cells.size) (h1:∀v∈cells.toList,v.oneCell'=true)
 (h:∀(i j:Nat) (x:List C) (y:C),i<c→els[i]? =some x→x[j]? =some y→∃u,cells[off+i*sz+j]? =some u∧CRel I w u y):
 ∃vs:Nat→Nat→Value,∀(i j:Nat) (x:List C) (y:C),(fit c sz els)[i]? =some x→x[j]? =some y→cells[off+i*sz+j]? =some (vs i j)∧CRel I w (vs i j) y:=by
 refine⟨fun i j=>cells.getD (off+i*sz+j) .nilFunc,fun i j x y hx hy=> ?_⟩
 rw [fit_get]at hx
 have key:∀u,cells[off+i*sz+j]? =some u→CRel I w u y→cells[off+i*sz+j]? =some (cells.getD (off+i*sz+j) .nilFunc)∧CRel I w (cells.getD (off+i*sz+j) .nilFunc) y:=fun u hu hr=>by
  simp only [Array.getD_eq_getD_getElem?,hu,Option.getD_some]
  exact⟨trivial,hr⟩
 split at hx
 ·rename_i hi
  split at hx
  ·obtain⟨u,hu,hr⟩:=h i j x y hi hx hy
   exact key u hu hr
  ·cases hx
   rw [List.getElem?_replicate]at hy
   split at hy
   ·rename_i hj
    cases hy
    have:(i+1)*sz≤c*sz:=Nat.mul_le_mul_right _ hi
    rw [Nat.add_mul]at this
    have hlt:off+i*sz+j<cells.size:=by omega
    have ho:=h1 (cells[off+i*sz+j]) (by simp)
    refine key _ (Array.getElem?_eq_getElem hlt) (.junk _ ho ?_)
    revert ho
    generalize cells[off+i*sz+j]=v
    intro ho
    cases v<;>first|rfl|(simp [Value.oneCell']at ho)
   ·cases hy
 ·cases hx
theorem setAt_get {els new:List (List C)} {lo p:Nat} (h:lo+new.length≤els.length):(setAt els lo new)[p]? =if lo≤p∧p<lo+new.length then new[p - lo]? else els[p]? :=by
 have h1:(els.take lo).length=lo:=by rw [List.length_take];omega
 rw [setAt,List.append_assoc]
 rcases Nat.lt_or_ge p lo with h2|h2
 ·rw [List.getElem?_append_left (by omega),List.getElem?_take_of_lt h2,if_neg (by omega)]
 ·rw [List.getElem?_append_right (by omega),h1]
  rcases Nat.lt_or_ge p (lo+new.length)with h3|h3
  ·rw [List.getElem?_append_left (by omega),if_pos ⟨h2,h3⟩]
  ·rw [List.getElem?_append_right (by omega),List.getElem?_drop,if_neg (by omega)]
   congr 1
   omega
theorem put_sound (hr:Rel δ g s a w) {id c z lo:Nat} {hd:Bool} {e:TypeId} {els new:List (List C)} {xs:List Value} (ho:lk id s.os=some (.vec hd z e els)) (hc:c=els.length) {b off:Nat} {cells:Array Value} {vs:Nat→Nat→Value}
 (hk:g.κ id=some (some ⟨b,off,none⟩,c,c)) (hm:c≤maxLen) (hb:w.heap[b]? =some (.cells cells e (0,0))) (hfit:off+c*z≤cells.size) (hcl:(hd=true→off=0∧cells.size=c*z)∧∀v∈cells.toList,v.oneCell'=true)
 (hrd:∀(i j:Nat) (x:List C) (y:C),els[i]? =some x→x[j]? =some y→cells[off+i*z+j]? =some (vs i j)∧CRel g.I w (vs i j) y) (hw:Wide z els) (hwn:Wide z new) (hf:Flat g.I w z new xs) (hz:z≠0) (hle:lo+new.length≤c):
 (storeCells ⟨b,off+lo*z,none⟩ xs).run P w= .ok () (w.setRow b (cells.toList.take (off+lo*z)++xs++cells.toList.drop (off+lo*z+xs.length)).toArray)∧
 RelO g ⟨s.tm,upd id (.vec hd z e (fit c z (setAt els lo new))) s.os,s.nx⟩ (w.setRow b (cells.toList.take (off+lo*z)++xs++cells.toList.drop (off+lo*z+xs.length)).toArray)∧
 Step g s w g ⟨s.tm,upd id (.vec hd z e (fit c z (setAt els lo new))) s.os,s.nx⟩ (w.setRow b (cells.toList.take (off+lo*z)++xs++cells.toList.drop (off+lo*z+xs.length)).toArray):=by
 have h1:xs.length=new.length*z:=hf.1
 have h2:(lo+new.length)*z≤c*z:=Nat.mul_le_mul_right _ hle
 rw [Nat.add_mul]at h2
 have hone:=hf.one hwn hz
 have hrun:=run_storeCells_at P b (off+lo*z) e xs 0 cells w hb (by omega) hone
 rw [Nat.add_zero]at hrun
 have hblk:g.blk id (.vec hd z e els)=some b:=by simp [G.blk,hk]
 have hsl:=fun k=>seg_get (vs:=cells) (us:=xs.toArray) (off:=off+lo*z) (i:=k) (by simp only [List.size_toArray];omega)
 simp only [List.size_toArray]at hsl
 have hsz2:(cells.toList.take (off+lo*z)++xs++cells.toList.drop (off+lo*z+xs.length)).toArray.size=cells.size:=by
  have e1:cells.toList.length=cells.size:=Array.length_toList
  simp only [List.size_toArray,List.length_append,List.length_take,List.length_drop]
  omega
 have hkp:Keeps g.I w (w.setRow b (cells.toList.take (off+lo*z)++xs++cells.toList.drop (off+lo*z+xs.length)).toArray):=fun k hk=>setRow_other w b k _ (fun e=>(hr.o.imm k hk).2 ⟨id,_,ho,by rw [e];exact hblk⟩)
 have hone2:∀v∈(cells.toList.take (off+lo*z)++xs++cells.toList.drop (off+lo*z+xs.length)).toArray.toList,v.oneCell'=true:=fun v hv=>by
  simp only [List.append_assoc,List.mem_append]at hv
  rcases hv with hv|hv
  ·exact hcl.2 v (List.mem_of_mem_take hv)
  ·rcases hv with hv|hv
   ·exact hone v hv
   ·exact hcl.2 v (List.mem_of_mem_drop hv)
 obtain⟨h12,h13⟩:=hr.o.replace ho (.vec hd z e (fit c z (setAt els lo new))) s.tm (.refl g) (fun b hb=>hb) (fun _ _=>rfl) (fun _ _=>rfl) (w':=w.setRow b (cells.toList.take (off+lo*z)++xs++cells.toList.drop (off+lo*z+xs.length)).toArray) (by simp)
  (fun k _ hne=>setRow_other w b k _ (fun e=>hne (by rw [e];exact hblk)))
  (by
   obtain⟨vs2,h3⟩:=ok_fit (I:=g.I) (w:=w.setRow b (cells.toList.take (off+lo*z)++xs++cells.toList.drop (off+lo*z+xs.length)).toArray) (cells:=(cells.toList.take (off+lo*z)++xs++cells.toList.drop (off+lo*z+xs.length)).toArray) (off:=off) (c:=c) (sz:=z) (els:=setAt els lo new) (by rw [hsz2];exact hfit) hone2 (fun i j x y hi hx hy=>by
    rw [setAt_get (by omega)]at hx
    have hj:j<z:=by
     have hwx:x.length=z:=by
      split at hx
      ·exact hwn x (List.mem_of_getElem? hx)
      ·exact hw x (List.mem_of_getElem? hx)
     rcases Nat.lt_or_ge j x.length with h|h
     ·omega
     ·rw [List.getElem?_eq_none h]at hy;cases hy
    rw [List.getElem?_toArray,hsl]
    split at hx
    ·rename_i hp
     obtain⟨u,h4,h5⟩:=hf.2 (i - lo) j x y hx hy
     have e1:i*z=lo*z+(i - lo)*z:=by rw [←Nat.add_mul];congr 1;omega
     have e2:(i - lo+1)*z≤new.length*z:=Nat.mul_le_mul_right _ (by omega)
     rw [Nat.add_mul]at e2
     rw [if_pos (by omega),show off+i*z+j - (off+lo*z)=(i - lo)*z+j by omega]
     exact⟨u,by simpa using h4,h5.mono hkp fun b hb=>hb⟩
    ·rename_i hp
     rw [if_neg (by
      rcases Nat.lt_or_ge i lo with h6|h6
      ·have:(i+1)*z≤lo*z:=Nat.mul_le_mul_right _ h6
       rw [Nat.add_mul]at this
       omega
      ·have:(lo+new.length)*z≤i*z:=Nat.mul_le_mul_right _ (by omega)
       rw [Nat.add_mul]at this
       omega)]
     exact⟨_,(hrd i j x y hx hy).1,(hrd i j x y hx hy).2.mono hkp fun b hb=>hb⟩)
   refine⟨_,c,by rw [fit_length];exact hk,by rw [fit_length];exact Nat.le_refl _,hm,fit_wide (fun x hx=> ?_), .inr ⟨b,off,_,vs2,rfl,setRow_heap w b cells _ e _ hb,by rw [hsz2];exact hfit,⟨by rw [hsz2];exact hcl.1,hone2⟩,h3⟩⟩
   obtain⟨p,hp,rfl⟩:=List.getElem_of_mem hx
   have hpp:=List.getElem?_eq_getElem hp
   rw [setAt_get (by omega)]at hpp
   split at hpp
   ·exact hwn _ (List.mem_of_getElem? hpp)
   ·exact hw _ (List.mem_of_getElem? hpp))
  (fun k hk'=> .inl (by simpa [G.blk,hk]using hk'))
 exact⟨hrun,h12,h13⟩
theorem Flat.take {I:Nat→Prop} {z k:Nat} {els:List (List C)} {xs:List Value} (h:Flat I w z els xs) (hw:Wide z els):Flat I w z (els.take k) (xs.take (k*z)):=by
 refine⟨?_,fun i j x y hx hy=> ?_⟩
 ·rw [List.length_take,List.length_take,h.1]
  rcases Nat.le_total k els.length with h1|h1
  ·have:=Nat.mul_le_mul_right z h1
   rw [Nat.min_eq_left h1]
   omega
  ·have:=Nat.mul_le_mul_right z h1
   rw [Nat.min_eq_right h1]
   omega
 ·rw [List.getElem?_take]at hx
  split at hx
  ·rename_i hi
   obtain⟨u,h1,h2⟩:=h.2 i j x y hx hy
   obtain⟨_,h3,_⟩:=idx_lt hw hx hy
   have:(i+1)*z≤k*z:=Nat.mul_le_mul_right _ hi
   rw [Nat.add_mul]at this
   exact⟨u,by rw [List.getElem?_take_of_lt (by omega)];exact h1,h2⟩
  ·cases hx
theorem cpy_sound (hr:Rel δ g s a w) {t u ty:TypeId} {x y d:D} {v v':Value} (hv:VRel g w v x) (hu:VRel g w v' y) {C0:Prop} (h:cpyD P s t x y=some (C0,d,s')) (hc:C0):
 ∃r w' g',(Builtin.copy_ #[t,u] ty #[v,v']).run P w= .ok r w'∧VRel g' w' r d∧Rel δ g' s' a w'∧Step g s w g' s' w'∧s'.tm=s.tm:=by
 unfold cpyD lay at h
 split at h<;>try cases h
 rename_i id c sz lo hi
 split at h<;>try cases h
 rename_i e0 z y0 hd sz' e els new hel hlk hnew
 obtain⟨hc1,rfl,rfl,hz,hw⟩:=hc
 obtain⟨hul,i,hinf,his,hib⟩:=elOf_spec hel
 simp only at hul hinf his
 obtain⟨a0,a',rfl,hl,hh,hm,hw0,hk,hcase⟩:=view_spec hr hv hlk hc1 rfl
 obtain⟨ad,cap,xs,rfl,hf,hsrc⟩:=src_spec hr hu hnew hw hz
 have hmin:Nat.min new.length (hi - lo)=(new.take (hi - lo)).length:=by rw [List.length_take];simp only [Nat.min_def];split<;>split<;>omega
 have hft:=hf.take (k:=hi - lo) hw
 have hload:∀W:World,W=w→(Builtin.firstCells sz' (Nat.min new.length (hi - lo)) (.slice ad new.length cap)).run P W= .ok (xs.take ((hi - lo)*sz')).toArray W:=by
  intro W hW
  subst hW
  by_cases h0:new=[]
  ·subst h0
   have hx:xs=[]:=List.eq_nil_of_length_eq_zero (by rw [hf.1];simp)
   subst hx
   cases ad<;>simp [Builtin.firstCells,loadCells,loadCellsFrom,Nat.min_def]
  ·rcases hsrc with h1|⟨b,o,rfl,h2⟩
   ·exact absurd h1 h0
   ·have:=run_loadCells_list (P:=P) W ⟨b,o,none⟩ (xs.take ((hi - lo)*sz')) (fun j u hj=>by
     rw [List.getElem?_take]at hj
     split at hj
     ·exact h2 j u hj
     ·cases hj)
    rw [hft.1,←hmin]at this
    exact this
 rcases hcase with⟨rfl,h0,rfl⟩|⟨b,off,cells,vs,rfl,hb,hfit,hcl,hrd,had,o',had'⟩
 ·have e1:hi - lo=0:=by omega
  have e2:Nat.min new.length (hi - lo)=0:=by rw [e1];simp [Nat.min_def]
  have e0:els=[]:=List.eq_nil_of_length_eq_zero (by omega)
  have hnil:fit c sz' (setAt els lo (new.take (hi - lo)))=els:=by rw [e1,e0,h0];simp [fit]
  rw [hnil]
  have hupd:∀os:List (Nat×Ob),lk id os=some (.vec hd sz' e els)→upd id (.vec hd sz' e els) os=os:=by
   intro os
   induction os with
   |nil=>intro _;rfl
   |cons p l ih=>
    obtain⟨m,o⟩:=p
    intro hq
    simp only [lk_cons]at hq
    simp only [upd]
    split at hq
    ·rename_i he
     cases hq
     rw [if_pos he]
    ·rename_i he
     rw [if_neg he,ih hq]
  rw [hupd _ hlk]
  have hrun:(Builtin.copy_ #[t,u] ty #[.slice none (hi - lo) (c - lo), .slice ad new.length cap]).run P w= .ok (goInt 0) w:=by
   have:=hload w rfl
   rw [e2]at this
   simp [Builtin.copy_,Go.run_underlying hul,Builtin.lenOf,Go.sizeOf,typeInfo,hinf,his,this,e2]
  refine⟨_,w,g,hrun, ?_,hr, .refl _ _ _,rfl⟩
  rw [e1,Nat.min_zero]
  exact .c _ _ (.int _ _)
 ·have hle:lo+(new.take (hi - lo)).length≤c:=by rw [List.length_take];omega
  obtain⟨h1,h2,h3⟩:=put_sound (P:=P) hr hlk hc1 hk hm hb hfit hcl hrd hw0 (fun x hx=>hw x (List.mem_of_mem_take hx)) hft hz hle
  generalize hW:w.setRow b (cells.toList.take (off+lo*sz')++xs.take ((hi - lo)*sz')++cells.toList.drop (off+lo*sz'+(xs.take ((hi - lo)*sz')).length)).toArray=W at h1 h2 h3
  refine⟨goInt ((min new.length (hi - lo):Nat):Int),_,g, ?_, .c _ _ (.int _ _),hr.of h2 h3.tm rfl,h3,rfl⟩
  have hld:=hload w rfl
  rcases Nat.lt_or_ge lo c with hlc|hlc
  ·rw [had (.inl hlc)]
   simp [Builtin.copy_,Go.run_underlying hul,Builtin.lenOf,Go.sizeOf,typeInfo,hinf,his,hld,h1]
  ·have e1:hi - lo=0:=by omega
   rw [e1,Nat.zero_mul,List.take_zero]at h1 hld
   rw [show Nat.min new.length 0=0 by simp [Nat.min_def]]at hld
   rw [e1]
   have hst:∀W:World,(storeCells ⟨b,o',none⟩ [] 0).run P W= .ok () W:=fun _=>rfl
   have hw1:∀W:World,(storeCells ⟨b,off+lo*sz',none⟩ [] 0).run P W= .ok () W:=fun _=>rfl
   rw [hw1]at h1
   injection h1 with _ h1
   rw [had',←h1]
   simp [Builtin.copy_,Go.run_underlying hul,Builtin.lenOf,Go.sizeOf,typeInfo,hinf,his,hld,hst,Nat.min_def]
theorem view_cut (hr:Rel δ g s a w) {v:Value} {id c sz lo hi sz':Nat} {hd:Bool} {e:TypeId} {els:List (List C)} (hv:VRel g w v (.view id c sz lo hi)) (ho:lk id s.os=some (.vec hd sz' e els)) (hc:c=els.length) (hsz:sz=sz'):
 ∃a':Option Addr,v= .slice a' (hi - lo) (c - lo)∧lo≤hi∧hi≤c∧∀l h:Nat,l≤h→lo+h≤c→VRel g w (sliced a' l h (c - lo) sz') (.view id c sz (lo+l) (lo+h)):=by
 obtain⟨a0,a',rfl,hl,hh,hm,hw0,hk,hcase⟩:=view_spec hr hv ho hc hsz
 subst hsz
 refine⟨a',rfl,hl,hh,fun l h h1 h2=> ?_⟩
 have e1:h - l=lo+h - (lo+l):=by omega
 rw [sliced,e1]
 refine .view _ _ _ _ _ _ _ a0 c c hk (Nat.le_refl _) (by omega) h2 hm fun _=>⟨rfl,by omega,fun h0=> ?_,fun b o hb=> ?_⟩
 ·rcases hcase with⟨_,_,rfl⟩|⟨b,off,_,_,rfl,_⟩
  ·split<;>rfl
  ·cases h0
 ·rcases hcase with⟨rfl,_,_⟩|⟨b',off,cells,vs,rfl,h3,h4,h5,h6,h7,o',h8⟩
  ·cases hb
  ·cases hb
   refine⟨fun h9=> ?_, ?_⟩
   ·rw [h7 (by omega)]
    split
    ·rw [show l=0 by omega,Nat.add_zero]
    ·rw [Option.map_some,addr_add,Nat.add_mul,Nat.add_assoc]
   ·rw [h8]
    split
    ·exact⟨o',rfl⟩
    ·exact⟨o'+l*sz,by rw [Option.map_some,addr_add]⟩
theorem cap_sound (hr:Rel δ g s a w) (t ty:TypeId) (ht:(elOf P t).isSome=true) {x d:D} {v:Value} (hv:VRel g w v x) {C0:Prop} (h:capD s x=some (C0,d)) (hc:C0):
 ∃r,(Builtin.cap_ #[t] ty #[v]).run P w= .ok r w∧VRel g w r d:=by
 obtain⟨x0,hx0⟩:=Option.isSome_iff_exists.1 ht
 obtain⟨hu,_⟩:=elOf_spec hx0
 unfold capD at h
 split at h<;>try cases h
 split at h<;>cases h
 rename_i ho
 cases hv with
 |view a' cap' _ _ _ lo hi a0 len cap hk hle hl hh hm hvv=>
  obtain⟨a1,cap1,h1,h2,h3,h4,h5⟩:=hr.o.ok _ _ ho
  rw [hk]at h1;cases h1
  obtain⟨_,rfl,_⟩:=hvv hc
  exact⟨_,by simp [Builtin.cap_,Go.underlying,hu,goInt], .c _ _ (.int _ _)⟩
theorem upd_same {id:Nat} {o:Ob}:∀{os:List (Nat×Ob)},lk id os=some o→upd id o os=os
 |[],_=>rfl
 |(m,x)::l,hq=>by
  simp only [lk_cons]at hq
  simp only [upd]
  split at hq
  ·rename_i he
   cases hq
   rw [if_pos he]
  ·rename_i he
   rw [if_neg he,upd_same hq]
theorem apv_sound (hr:Rel δ g s a w) {t ty:TypeId} {y:D} {v v':Value} {id c sz lo hi:Nat} (hv:VRel g w v (.view id c sz lo hi)) (hu:VRel g w v' y) (dst:Option Tmp) (hd:∀x,dst=some x→x<a.tmps.size)
 {C0:Prop} {s':St} (h:appD P s t dst (.view id c sz lo hi) y=some (C0,s')) (hc:C0):
 ∃r w' g',(Builtin.append_ #[t,t] ty #[v,v']).run P w= .ok r w'∧Rel δ g' s' (a.put dst r) w'∧Step g s w g' s' w':=by
 unfold appD at h
 split at h
 case h_2=>cases h
 rename_i e z bytes new he hn
 split at h
 case h_2=>cases h
 rename_i zc hzc
 split at h
 case isFalse=>cases h
 rename_i hz
 obtain⟨hz1,hz2,hz3⟩:=hz
 simp only at h
 split at h
 case h_2=>cases h
 rename_i hd0 sz' e' els ho
 simp only [Option.some.injEq,Prod.mk.injEq]at h
 obtain⟨rfl,rfl⟩:=h
 obtain⟨hc1,rfl,rfl,hw,hle⟩:=hc
 obtain⟨hul,i,hinf,his,hib⟩:=elOf_spec he
 simp only at hul hinf his hib
 obtain⟨a0,a',rfl,hl,hh,hm,hw0,hk,hcase⟩:=view_spec hr hv ho hc1 rfl
 obtain⟨ad,cap,xs,rfl,hf,hsrc⟩:=src_spec hr hu hn hw hz2
 have hput:∀(s0:St) (g1:G) (w1:World) (r:Value),Rel δ g1 s0 a w1→Step g s w g1 s0 w1→VRel g1 w1 r (.view id c sz' lo (hi+new.length))→∃g',Rel δ g' (s0.put dst (.view id c sz' lo (hi+new.length))) (a.put dst r) w1∧Step g s w g' (s0.put dst (.view id c sz' lo (hi+new.length))) w1:=fun s0 g1 w1 r h1 h2 h3=>
  ⟨g1,h1.put dst h3 hd,h2.trans (by cases dst<;>exact⟨.refl _,Nat.le_refl _,fun _ _ _=>rfl,fun _ _ h=>h,fun _ _ _ h=>h, .refl _⟩)⟩
 rcases hsrc with h0|⟨b',o',rfl,hcell⟩
 ·subst h0
  have hset:fit c sz' (setAt els hi [])=els:=by
   have:setAt els hi []=els:=by simp [setAt]
   rw [this];exact fit_eq hc1.symm
  rw [hset,upd_same ho]
  obtain⟨g',h1,h2⟩:=hput s g w _ hr (.refl _ _ _) hv
  exact⟨_,w,g',run_append_zero he ty a' ad (hi - lo) (c - lo) cap (by omega),h1,h2⟩
 ·by_cases hnew:new=[]
  ·subst hnew
   have hset:fit c sz' (setAt els hi [])=els:=by
    have:setAt els hi []=els:=by simp [setAt]
    rw [this];exact fit_eq hc1.symm
   rw [hset,upd_same ho]
   obtain⟨g',h1,h2⟩:=hput s g w _ hr (.refl _ _ _) hv
   exact⟨_,w,g',run_append_zero he ty a' _ (hi - lo) (c - lo) cap (by omega),h1,h2⟩
  ·have hpos:0<new.length:=by
    rcases Nat.eq_zero_or_pos new.length with h|h
    ·exact absurd (List.eq_nil_of_length_eq_zero h) hnew
    ·exact h
   rcases hcase with⟨rfl,h0,rfl⟩|⟨b,off,cells,vs,rfl,hb,hfit,hcl,hrd,had,o'',had'⟩
   ·omega
   ·obtain⟨h1,h2,h3⟩:=put_sound (P:=P) hr ho hc1 hk hm hb hfit hcl hrd hw0 hw hf hz2 hle
    generalize hW:w.setRow b (cells.toList.take (off+hi*sz')++xs++cells.toList.drop (off+hi*sz'+xs.length)).toArray=W at h1 h2 h3
    have hA:=had (.inl (by omega))
    obtain⟨a1,hval,_,_,hcut⟩:=view_cut hr hv ho hc1 rfl
    have hval':a1=a':=by cases hval;rfl
    subst hval'
    have hvr:=hcut 0 (hi - lo+new.length) (Nat.zero_le _) (by omega)
    rw [show lo+(hi - lo+new.length)=hi+new.length by omega,Nat.add_zero]at hvr
    have hsl:sliced a1 0 (hi - lo+new.length) (c - lo) sz'= .slice a1 (hi - lo+new.length) (c - lo):=by
     rw [hA];simp [sliced,addr_add]
    rw [hsl]at hvr
    have hrun:(Builtin.append_ #[t,t] ty #[.slice a1 (hi - lo) (c - lo), .slice (some ⟨b',o',none⟩) new.length cap]).run P w= .ok (.slice a1 (hi - lo+new.length) (c - lo)) W:=by
     have hfc:=run_firstCells_some (P:=P) w i.size new.length ⟨b',o',none⟩ new.length cap xs (by rw [his];exact hf.1) hcell
     have hroom:hi - lo+new.length≤c - lo:=by omega
     have e1:off+lo*sz'+(hi - lo)*sz'=off+hi*sz':=by
      rw [Nat.add_assoc,←Nat.add_mul];congr 2;omega
     rw [hA]
     rw [his]at hfc
     simp [Builtin.append_,Go.run_underlying hul,Go.sizeOf,typeInfo,hinf,Builtin.lenOf,hroom,hfc,addr_add,his,e1,h1]
    obtain⟨g',h4,h5⟩:=hput _ g W _ (hr.of h2 h3.tm rfl) h3 (h3.vrel hr.o hvr)
    exact⟨_,W,g',hrun,h4,h5⟩
theorem clr_sound (hr:Rel δ g s a w) {t ty:TypeId} {x d:D} {v:Value} (hv:VRel g w v x) {C0:Prop} (h:clrD P s t x=some (C0,d,s')) (hc:C0):
 ∃r w' g',(Builtin.clear_ #[t] ty #[v]).run P w= .ok r w'∧VRel g' w' r d∧Rel δ g' s' a w'∧Step g s w g' s' w'∧s'.tm=s.tm:=by
 unfold clrD at h
 split at h<;>try cases h
 rename_i id c sz lo hi
 split at h<;>try cases h
 rename_i e0 z bytes hd sz' e els hel hlk
 split at h<;>cases h
 rename_i zc hzc
 obtain⟨hc1,rfl,rfl,hz,hzl⟩:=hc
 obtain⟨hul,i,hinf,his,hib⟩:=elOf_spec hel
 obtain⟨i',zv,hi',hzv,hzs,hzr⟩:=zcOf_spec hzc
 simp only at hul hinf his hib
 rw [hinf]at hi';cases hi'
 obtain⟨a0,a',rfl,hl,hh,hm,hw0,hk,hcase⟩:=view_spec hr hv hlk hc1 rfl
 have htup:∀{w':World},VRel g w' (.tuple #[]) (.tup []):=fun{w'}=> .tup _ _ rfl fun i v d h=>by simp at h
 have hsame:hi - lo=0→fit c sz' (setAt els lo (List.replicate (hi - lo) zc))=els:=fun h=>by
  rw [h]
  have:setAt els lo []=els:=by simp [setAt]
  rw [List.replicate_zero,this];exact fit_eq hc1.symm
 by_cases h0:hi - lo=0
 ·rw [hsame h0,upd_same hlk]
  refine⟨.tuple #[],w,g, ?_,htup,hr, .refl _ _ _,rfl⟩
  rw [h0]
  cases a'<;>simp [Builtin.clear_,Go.run_underlying hul]
 ·rcases hcase with⟨rfl,h1,rfl⟩|⟨b,off,cells,vs,rfl,hb,hfit,hcl,hrd,had,o'',had'⟩
  ·omega
  ·have hzf:=zero_flat (g:=g) (w:=w) hzs (hzr g w) (by omega) (hi - lo)
   rw [hzl]at hzf
   have hzc2:(Builtin.zeroCells zv.cells (hi - lo)).toList=((Array.range ((hi - lo)*sz')).map (zv.cells[· % zv.cells.size]!)).toList:=by rw [Builtin.zeroCells,hzs,hzl]
   rw [←hzc2]at hzf
   have hwn:Wide sz' (List.replicate (hi - lo) zc):=fun x hx=>by rw [(List.mem_replicate.1 hx).2];exact hzl
   obtain⟨h1,h2,h3⟩:=put_sound (P:=P) (lo:=lo) hr hlk hc1 hk hm hb hfit hcl hrd hw0 hwn hzf hz (by rw [List.length_replicate];omega)
   generalize w.setRow b (cells.toList.take (off+lo*sz')++(Builtin.zeroCells zv.cells (hi - lo)).toList++cells.toList.drop (off+lo*sz'+(Builtin.zeroCells zv.cells (hi - lo)).toList.length)).toArray=W at h1 h2 h3
   have hA:=had (.inl (by omega))
   refine⟨.tuple #[],W,g, ?_,htup,hr.of h2 h3.tm rfl,h3,rfl⟩
   rw [hA]
   obtain⟨k,hk⟩:∃k,hi - lo=k+1:=⟨hi - lo - 1,by omega⟩
   rw [hk]at h1⊢
   simp [Builtin.clear_,Go.run_underlying hul,zeroValue,typeInfo,hinf,hzv,h1]
theorem apm_sound (hr:Rel δ g s a w) {t u ty:TypeId} {x y:D} {v v':Value} (hv:VRel g w v x) (hu:VRel g w v' y) (dst:Option Tmp) (hd:∀x,dst=some x→x<a.tmps.size) {C0:Prop} {n z:Nat} {e:TypeId} {els:List (List C)}
 (h:appM P s t u x y=some (C0,n,z,e,els)) (hc:C0):
 ∃r w' g' c,(Builtin.append_ #[t,u] ty #[v,v']).run P w= .ok r w'∧n≤c∧c≤9223372036854775807∧Rel δ g' (s.vw dst z e c n els) (a.put dst r) w'∧Step g s w g' (s.vw dst z e c n els) w':=by
 unfold appM at h
 split at h<;>try cases h
 rename_i id c sz lo hi
 split at h<;>try cases h
 rename_i kk k e0 z0 bytes kd hd0 sz' e' els0 hel hin hlk
 split at h<;>cases h
 rename_i zc hzc
 obtain⟨hc1,rfl,rfl,hz1,hz2,hz3,hk0,hk1,hb⟩:=hc
 obtain⟨hul,i,hinf,his,hib⟩:=elOf_spec hel
 obtain⟨i',zv,hi',hzv,hzs,hzr⟩:=zcOf_spec hzc
 simp only at hul hinf his hib
 rw [hinf]at hi';cases hi'
 obtain rfl:=hu.int_inv
 obtain⟨a0,a',rfl,hl,hh,hm,hw0,hk,hcase⟩:=view_spec hr hv hlk hc1 rfl
 obtain⟨k,rfl⟩:=Int.eq_ofNat_of_zero_le hk0
 rw [Int.toNat_natCast]
 have hin':∃kn,P.underlying u=some (.int kn):=by
  unfold inOf at hin
  split at hin
  ·exact⟨_,by assumption⟩
  ·cases hin
 obtain⟨kn,hun⟩:=hin'
 have hbn:(hi - lo+k)*bytes≤140737488355328:=by
  have:(((hi - lo+k)*bytes:Nat):Int)=(((hi - lo:Nat):Int)+(k:Int))*(bytes:Int):=by rw [Int.natCast_mul,Int.natCast_add]
  omega
 have hb1:(hi - lo+k)*1≤(hi - lo+k)*bytes:=Nat.mul_le_mul_left _ (by omega)
 have hsub:s.els (.view id c sz' lo hi)=some ((els0.take hi).drop lo):=by simp [St.els,hlk,hc1]
 have hwo:Wide sz' ((els0.take hi).drop lo):=fun x hx=>hw0 x (List.mem_of_mem_take (List.mem_of_mem_drop hx))
 obtain⟨ad,cap,xs,hq,hf,hsrc⟩:=src_spec hr hv hsub hwo hz2
 have hlen:((els0.take hi).drop lo).length=hi - lo:=by simp only [List.length_drop,List.length_take];omega
 injection hq with q1 q2 q3
 subst q1
 have hold:(Builtin.firstCells i.size (hi - lo) (.slice a' (hi - lo) (c - lo))).run P w.drew= .ok xs.toArray w.drew:=by
  rcases hsrc with h0|⟨b,o,rfl,h2⟩
  ·have e1:hi - lo=0:=by rw [←hlen,h0];rfl
   have hx:xs=[]:=List.eq_nil_of_length_eq_zero (by rw [hf.1,h0];simp)
   subst hx
   rw [e1]
   cases a'<;>simp [Builtin.firstCells,loadCells,loadCellsFrom]
  ·have:=run_loadCells_list (P:=P) w.drew ⟨b,o,none⟩ xs (fun j u hj=>h2 j u hj)
   rw [hf.1,hlen,←his]at this
   exact this
 have hkb:k*i.bytes≤(hi - lo+k)*bytes:=by rw [hib];exact Nat.mul_le_mul_right _ (by omega)
 have hrun:=Lib.run_append_grow_zeros (P:=P) w t u ty e i zv kk kn hul hun hinf hzv a' (hi - lo) (c - lo) xs hold k (by omega) (by omega) (by omega) (by omega) (by omega) (growslice_fits (by omega) (by rw [hib];exact hbn))
 have hzf:=zero_flat (g:=g) (w:=w) hzs (hzr g w) (by omega) k
 rw [hz1]at hzf
 have hzo:=zc_one hzs hzr
 have hwn:Wide sz' ((els0.take hi).drop lo++List.replicate k zc):=fun x hx=>by
  rcases List.mem_append.1 hx with h|h
  ·exact hwo x h
  ·rw [(List.mem_replicate.1 h).2];exact hz1
 have hff:=hf.append hzf
 have hge:=grownCap_ge w (hi - lo+k) (c - lo) e
 have hmx:=grownCap_le_maxLen w (hi - lo+k) (c - lo) e (by simp only [maxLen];omega)
 generalize hG:grownCap w (hi - lo+k) (c - lo) e=GC at*
 have hzc2:Builtin.zeroCells zv.cells k=(Array.range (k*sz')).map (zv.cells[· % zv.cells.size]!):=by rw [Builtin.zeroCells,hzs,hz1]
 have hsz2:(xs.toArray++Builtin.zeroCells zv.cells k++Builtin.zeroCells zv.cells (GC - (hi - lo+k))).size=GC*sz':=by
  simp only [Array.size_append,List.size_toArray,size_zero,hzs,hz1,hf.1,hlen,←Nat.add_mul]
  congr 1
  omega
 have hone:∀v∈(xs.toArray++Builtin.zeroCells zv.cells k++Builtin.zeroCells zv.cells (GC - (hi - lo+k))).toList,v.oneCell'=true:=fun v hv=>by
  simp only [Array.toList_append,List.append_assoc,List.mem_append]at hv
  rcases hv with hv|hv
  ·exact hf.one hwo hz2 v hv
  ·rcases hv with hv|hv
   ·exact zeroCells_one hzo _ v hv
   ·exact zeroCells_one hzo _ v hv
 obtain⟨vs,hvs⟩:=ok_fit (I:=g.I) (w:=w) (cells:=xs.toArray++Builtin.zeroCells zv.cells k++Builtin.zeroCells zv.cells (GC - (hi - lo+k))) (off:=0) (c:=GC) (sz:=sz') (els:=(els0.take hi).drop lo++List.replicate k zc) (by omega) hone (fun p j x y hp hx hy=>by
  obtain⟨u,h1,h2⟩:=hff.2 p j x y hx hy
  refine⟨u, ?_,h2⟩
  rw [Nat.zero_add,hzc2]
  rw [←Array.getElem?_toList,Array.toList_append,Array.toList_append,List.getElem?_append_left]
  ·exact h1
  ·have:=(List.getElem?_eq_some_iff.1 h1).1
   simpa using this)
 have hfl:=fit_length GC sz' ((els0.take hi).drop lo++List.replicate k zc)
 obtain⟨h6,h7⟩:=vec_sound' hr (w.drew.alloc (.cells (xs.toArray++Builtin.zeroCells zv.cells k++Builtin.zeroCells zv.cells (GC - (hi - lo+k))) e)) (by rw [size_alloc,size_drew];omega) (fun b hb=>drew_old _ _ _ hb) (sz:=sz') (e:=e) (els:=fit GC sz' ((els0.take hi).drop lo++List.replicate k zc)) (a0:=some ⟨w.heap.size,0,none⟩) (cap:=GC)
  (by omega) hmx (fit_wide hwn) (.inr ⟨w.heap.size,_,vs,rfl,Nat.le_refl _,heap_alloc_new w.drew _,⟨hsz2,hone⟩,fun p j x y hx hy=>by
   have:=hvs p j x y hx hy
   rw [Nat.zero_add]at this
   exact this⟩) none (fun x hx=>by cases hx)
 rw [hfl]at h6 h7
 have h8:=h6.put dst (v:= .slice (some ⟨w.heap.size,0,none⟩) (hi - lo+k) GC) (d:= .view s.nx GC sz' 0 (hi - lo+k)) (by
  have:=VRel.view (g:=g.vec s.nx (some ⟨w.heap.size,0,none⟩,GC,GC)) (w:=w.drew.alloc (.cells (xs.toArray++Builtin.zeroCells zv.cells k++Builtin.zeroCells zv.cells (GC - (hi - lo+k))) e)) (some ⟨w.heap.size,0,none⟩) GC s.nx GC sz' 0 (hi - lo+k) (some ⟨w.heap.size,0,none⟩) GC GC (by simp [G.vec]) (Nat.le_refl _) (Nat.zero_le _) hge hmx (fun _=>⟨rfl,rfl,fun h=>(by cases h),fun b o hb=>by cases hb;exact⟨fun _=>by rw [Nat.zero_mul],_,rfl⟩⟩)
  exact this) hd
 refine⟨_,_,g.vec s.nx (some ⟨w.heap.size,0,none⟩,GC,GC),GC,hrun,hge,hmx, ?_, ?_⟩
 ·cases dst<;>exact h8
 ·cases dst<;>exact h7.tm
theorem ov_zero (w:World) (tS tR e:TypeId) (ht:P.underlying tS=some (.slice e)) (size:Nat) (hz:∀w,(Go.sizeOf e).run P w= .ok size w) (a b:Option Addr) (la ca lb cb:Nat) (h0:la=0∨lb=0):
 (Extern.SlicesOverlaps.overlaps #[tS,tS] #[tR] #[.slice a la ca, .slice b lb cb]).run P w= .ok (.bool false) w:=by
 have h1:la=0∨lb=0∨size=0:=by omega
 show Sem.run P (bind (underlying tS) _) w=_
 rw [Sem.run_bind,run_underlying ht]
 show Sem.run P (bind (Go.sizeOf e) _) w=_
 rw [Sem.run_bind,hz]
 cases a<;>cases b<;>simp [h1]
theorem ovo_spec (hr:Rel δ g s a w) {x:D} {v:Value} (hv:VRel g w v x) {i:Nat} (h:ovO s.os x=some i):∃a' n cap,v= .slice a' n cap∧(n=0∨∃(b:Nat) (o:Ob) (e:TypeId) (cells:Array Value) (o':Nat),a'=some ⟨b,o',none⟩∧lk i s.os=some o∧g.blk i o=some b∧w.heap[b]? =some (.cells cells e (0,0))∧cells.size≠0):=by
 unfold ovO at h
 split at h
 ·rename_i id n
  split at h
  ·rename_i hd sz e els ho
   split at h
   ·rename_i hc
    cases h
    obtain⟨rfl,hz⟩:=hc
    cases hv with
    |vec a' cap' _ _ a0 len cap hk hle hm ha hvv=>
     refine⟨a',_,cap',rfl, ?_⟩
     rcases Nat.eq_zero_or_pos els.length with h0|h0
     ·exact .inl h0
     ·obtain⟨a1,cap1,h1,h2,h3,h4,h5⟩:=hr.o.ok _ _ ho
      rw [hk]at h1;cases h1
      obtain⟨rfl,rfl⟩:=hvv rfl
      rcases h5 with⟨rfl,h5⟩|⟨b,off,cells,vs,rfl,h8,h9,h10,h11⟩
      ·omega
      ·have:1*1≤cap'*sz:=Nat.mul_le_mul (by omega) (by omega)
       exact .inr ⟨b,_,e,cells,off,rfl,ho,by simp [G.blk,hk],h8,by omega⟩
   ·cases h
  ·cases h
 ·rename_i id c sz' lo hi
  split at h
  ·rename_i hd sz e els ho
   split at h
   ·rename_i hc
    cases h
    obtain⟨hc,hsz,hz⟩:=hc
    obtain⟨a0,a',rfl,hl,hh,hm,hw0,hk,hcase⟩:=view_spec hr hv ho hc hsz
    refine⟨a',_,_,rfl, ?_⟩
    rcases hcase with⟨_,h0,_⟩|⟨b,off,cells,vs,rfl,h8,h9,h10,h11,h12,o',h13⟩
    ·exact .inl (by omega)
    ·rcases Nat.eq_zero_or_pos c with h0|h0
     ·exact .inl (by omega)
     ·have:1*1≤c*sz:=Nat.mul_le_mul h0 (by omega)
      exact .inr ⟨b,_,e,cells,o',h13,ho,by simp [G.blk,hk],h8,by omega⟩
   ·cases h
  ·cases h
 ·cases h
theorem ov_sound (hr:Rel δ g s a w) {f:FuncId} {ds:List D} {vs:Array Value} (h:ovC P f s.os ds) (hsz:vs.size=ds.length) (hv:∀(i:Nat) (v:Value) (d:D),vs[i]? =some v→ds[i]? =some d→VRel g w v d):
 (callFunc f vs).run P w= .ok (.value (.bool false)) w:=by
 unfold ovC at h
 split at h
 ·rename_i x y
  split at h
  ·rename_i i j hi hj
   obtain⟨hne,fn,t,r,e,h1,h2,h3,h4,h5,h6⟩:=h
   simp only [List.length_cons,List.length_nil]at hsz
   obtain⟨v1,v2,rfl⟩:∃v1 v2,vs= #[v1,v2]:=by
    obtain⟨l⟩:=vs
    match l,hsz with
    |[v1,v2],_=>exact⟨v1,v2,rfl⟩
   obtain⟨a1,n1,c1,rfl,hq1⟩:=ovo_spec hr (hv 0 v1 x rfl rfl) hi
   obtain⟨a2,n2,c2,rfl,hq2⟩:=ovo_spec hr (hv 1 v2 y rfl rfl) hj
   obtain⟨hu,_⟩:=elOf_spec h6
   have hs:=elOf_size h6
   rw [run_callFunc_extern h1 h2 h3 (by simpa using h4) h5]
   have hrun:(Extern.SlicesOverlaps.overlaps #[t,t] #[r] #[.slice a1 n1 c1, .slice a2 n2 c2]).run P w= .ok (.bool false) w:=by
    rcases hq1 with h0|⟨b1,o1,e1,cl1,k1,rfl,hl1,hb1,hh1,hc1⟩
    ·exact ov_zero w t r e.1 hu e.2.1 (fun w=>elOf_size h6 w) _ _ _ _ _ _ (.inl h0)
    ·rcases hq2 with h0|⟨b2,o2,e2,cl2,k2,rfl,hl2,hb2,hh2,hc2⟩
     ·exact ov_zero w t r e.1 hu e.2.1 (fun w=>elOf_size h6 w) _ _ _ _ _ _ (.inr h0)
     ·refine Lib.run_overlaps_apart w t r e.1 hu e.2.1 (fun w=>elOf_size h6 w) _ _ n1 c1 n2 c2 ?_ e1 e2 cl1.size cl2.size ?_ ?_ hc2 ?_ ?_
      ·intro hbb
       simp only at hbb
       subst hbb
       exact hne (hr.o.apart _ _ _ _ _ hl1 hl2 hb1 hb2)
      ·simp [World.shape?,hh1]
      ·simp [World.shape?,hh2]
      ·simp [World.frozen?,hh1]
      ·simp [World.frozen?,hh1]
   rw [hrun]
   rfl
  ·cases h
 ·cases h
end
open Go Go.MapKept
section
variable {δ:List Deferred} {P:Program} {g g':G} {s s':St} {a:Act} {w w':World}
theorem cval_rel {I:Nat→Prop} {c:C} (h:c.flat=true):CRel I w (cval c) c:=by
 cases c<;>simp [C.flat]at h<;>constructor
theorem fit_flat {k:KK} {c:C} (h:k.fit c=true):c.flat=true:=by
 cases k<;>cases c<;>simp [KK.fit]at h<;>rfl
theorem kfit_len:∀{ks:List KK} {cs:List C},kfit ks cs=true→cs.length=ks.length
 |[],[],_=>rfl
 |k::ks,c::cs,h=>by
  simp only [kfit,Bool.and_eq_true]at h
  simp [kfit_len h.2]
 |[],_::_,h=>by simp [kfit]at h
 |_::_,[],h=>by simp [kfit]at h
theorem kfit_flat:∀{ks:List KK} {cs:List C},kfit ks cs=true→cs.all C.flat=true
 |[],[],_=>rfl
 |k::ks,c::cs,h=>by
  simp only [kfit,Bool.and_eq_true]at h
  simp only [List.all_cons,Bool.and_eq_true]
  exact⟨fit_flat h.1,kfit_flat h.2⟩
 |[],_::_,h=>by simp [kfit]at h
 |_::_,[],h=>by simp [kfit]at h
theorem kfit_app:∀{ks ls:List KK} {cs:List C},kfit (ks++ls) cs=true→kfit ks (cs.take ks.length)=true∧kfit ls (cs.drop ks.length)=true
 |[],ls,cs,h=>⟨by simp [kfit],by simpa using h⟩
 |k::ks,ls,[],h=>by simp [kfit]at h
 |k::ks,ls,c::cs,h=>by
  simp only [List.cons_append,kfit,Bool.and_eq_true]at h
  have:=kfit_app h.2
  simp only [List.length_cons,List.take_succ_cons,List.drop_succ_cons,kfit,Bool.and_eq_true]
  exact⟨⟨h.1,this.1⟩,this.2⟩
theorem flat_val {I:Nat→Prop} {v:Value} {c:C} (h:CRel I w v c) (hf:c.flat=true):v=cval c:=by
 cases h<;>simp [C.flat]at hf<;>rfl
theorem VRel.flat_inv {v:Value} {c:C} (h:VRel g w v (.c c)) (hf:c.flat=true):v=cval c:=by
 cases h with
 |c _ _ h=>exact flat_val h hf
def valT:Bool→List C→Value
 |true,cs=> .agg (cs.map cval).toArray
 |false,[c]=>cval c
 |false,_=>undef
theorem valOf_valT (cs:List C):valOf cs=valT (!decide (cs.length=1)) cs:=by
 match cs with
 |[]=>rfl
 |[c]=>rfl
 |a::b::l=>simp [valOf,valT]
theorem aggs_val {vs:Array Value} {cs:List C} (h:vs.size=cs.length) (hp:∀(i:Nat) (v:Value) (d:D),vs[i]? =some v→(cs.map D.c)[i]? =some d→VRel g w v d) (hf:cs.all C.flat=true):vs=(cs.map cval).toArray:=by
 apply Array.ext
 ·simpa using h
 ·intro i h1 h2
  have h3:i<cs.length:=by omega
  have:=(hp i vs[i] (.c cs[i]) (by simp) (by simp [h3])).flat_inv (List.all_eq_true.1 hf _ (List.getElem_mem h3))
  rw [this]
  simp
theorem valOf_rel {cs:List C} (h:cs.all C.flat=true):VRel g w (valOf cs) (dOf cs):=by
 have hagg:VRel g w (.agg (cs.map cval).toArray) (.agg (cs.map .c)):=by
  refine .agg _ _ (by simp) fun i v d hv hd=> ?_
  simp only [List.getElem?_toArray,List.getElem?_map,Option.map_eq_some_iff]at hv hd
  obtain⟨x,hx,rfl⟩:=hv
  obtain⟨y,hy,rfl⟩:=hd
  rw [hx]at hy
  cases hy
  exact .c _ _ (cval_rel (List.all_eq_true.1 h _ (List.mem_of_getElem? hx)))
 match cs,h,hagg with
 |[],_,hagg=>exact hagg
 |[c],h,_=>exact .c _ _ (cval_rel (by simpa using h))
 |a::b::l,_,hagg=>exact hagg
theorem toCs_mem_rel {vs:Array Value} {ds:List D} {cs:List C} (hl:vs.size=ds.length) (hp:∀(i:Nat) (v:Value) (d:D),vs[i]? =some v→ds[i]? =some d→VRel g w v d) (hc:D.toCs ds=some cs):
 vs.size=cs.length∧∀(i:Nat) (v:Value) (d:D),vs[i]? =some v→(cs.map D.c)[i]? =some d→VRel g w v d:=by
 obtain⟨h1,h2⟩:=toCs_rel hc
 refine⟨by omega,fun i v d hv hd=> ?_⟩
 simp only [List.getElem?_map,Option.map_eq_some_iff]at hd
 obtain⟨x,hx,rfl⟩:=hd
 have hi:i<ds.length:=by have:=(List.getElem?_eq_some_iff.1 hx).1;omega
 have hd:=List.getElem?_eq_getElem hi
 exact .c _ _ (toC_rel (hp i v _ hv hd) (h2 i _ x hd hx))
theorem keyD_val {v:Value} {d:D} {k:List C} (hv:VRel g w v d) (hk:keyD d=some k) (hf:k.all C.flat=true):v=valOf k:=by
 unfold keyD at hk
 split at hk
 ·cases hk
  cases hv with
  |c _ _ h=>exact flat_val h (by simpa using hf)
 ·split at hk
  ·rename_i l cs hc
   split at hk
   ·cases hk
   ·rename_i hn
    cases hk
    cases hv with
    |agg vs _ hl hp=>
     obtain⟨h1,h2⟩:=toCs_mem_rel hl hp hc
     rw [aggs_val h1 h2 hf,valOf_valT]
     simp [hn,valT]
  ·cases hk
 ·cases hk
theorem flatD_val {v:Value} {d:D} {k:List C} (hv:VRel g w v d) (hk:flatD d=some k):v=valOf k∧k.all C.flat=true:=by
 unfold flatD at hk
 split at hk
 ·rename_i cs hc
  split at hk
  ·rename_i hf
   cases hk
   exact⟨keyD_val hv hc hf,hf⟩
  ·cases hk
 ·cases hk
theorem part_val {t:TypeId} {ag:Bool} {n:Nat} (ht:tyOf P t=some (ag,n)) {xs:List C} {o:Nat} (hf:xs.all C.flat=true) (hlen:o+n≤xs.length) (hag:ag=false→n=1) (w:World):
 (part t (xs.map cval).toArray o).run P w= .ok (valT ag ((xs.drop o).take n)) w:=by
 have hp:∀(i:Nat) (v:Value) (d:D),(xs.map cval).toArray[i]? =some v→(xs.map D.c)[i]? =some d→VRel (⟨fun _=>none,fun _=>none,fun _=>False⟩:G) w v d:=fun i v d hv hd=>by
  simp only [List.getElem?_toArray,List.getElem?_map,Option.map_eq_some_iff]at hv hd
  obtain⟨x,hx,rfl⟩:=hv
  obtain⟨y,hy,rfl⟩:=hd
  rw [hx]at hy
  cases hy
  exact .c _ _ (cval_rel (List.all_eq_true.1 hf _ (List.mem_of_getElem? hx)))
 have hf':((xs.drop o).take n).all C.flat=true:=by
  rw [List.all_eq_true]at hf⊢
  exact fun x hx=>hf x (List.mem_of_mem_drop (List.mem_of_mem_take hx))
 cases ag with
 |true=>
  obtain⟨u,h1,h2⟩:=run_part (P:=P) ht (vs:=(xs.map cval).toArray) (cs:=xs.map D.c) (by simp) hp (o:=o) (d:= .agg (((xs.drop o).take n).map D.c)) (by simp [ldc,hlen])
  rw [h1 w (.refl w)]
  cases h2 with
  |agg vs _ hl hp=>
   rw [aggs_val (by simpa using hl) hp hf']
   rfl
 |false=>
  have:=hag rfl
  subst this
  have hlt:o<xs.length:=by omega
  obtain⟨u,h1,h2⟩:=run_part (P:=P) ht (vs:=(xs.map cval).toArray) (cs:=xs.map D.c) (by simp) hp (o:=o) (d:= .c xs[o]) (by simp [ldc,hlt])
  rw [h1 w (.refl w)]
  have e:(xs.drop o).take 1=[xs[o]]:=by
   rw [List.drop_eq_getElem_cons hlt];rfl
  rw [e]at hf'⊢
  cases h2 with
  |c _ _ h3=>rw [flat_val h3 (by simpa using hf')];rfl
theorem kfit_segs {ks r:List KK} {xs:List C} {o:Nat} (h:kfit (ks++r) (xs.drop o)=true):kfit ks ((xs.drop o).take ks.length)=true∧kfit r (xs.drop (o+ks.length))=true:=by
 have:=kfit_app h
 rwa [List.drop_drop]at this
theorem klay_ty {n:Nat} {t:TypeId} {ks:List KK} (h:klay P n t=some ks):∃ag,tyOf P t=some (ag,ks.length)∧(ag=false→ks.length=1):=by
 cases n with
 |zero=>cases h
 |succ n=>
  unfold klay at h
  split at h
  ·rename_i h2;cases h;exact⟨_,h2,fun _=>rfl⟩
  ·rename_i h2;cases h;exact⟨_,h2,fun _=>rfl⟩
  ·rename_i h2;cases h;exact⟨_,h2,fun _=>rfl⟩
  ·rename_i h2
   split at h
   ·split at h
    ·split at h
     ·rename_i hl;cases h;exact⟨true,by rw [hl];exact h2,fun h=>by cases h⟩
     ·cases h
    ·cases h
   ·cases h
  ·cases h
open Classical in
theorem decide_segs {xs ys:List C} {o n:Nat}:decide (xs.drop o=ys.drop o)=(decide ((xs.drop o).take n=(ys.drop o).take n)&&decide (xs.drop (o+n)=ys.drop (o+n))):=by
 rw [←List.drop_drop,←List.drop_drop]
 generalize xs.drop o=a
 generalize ys.drop o=b
 by_cases h:a=b
 ·subst h;simp
 ·have:¬(a.take n=b.take n∧a.drop n=b.drop n):=fun⟨h1,h2⟩=>h (by rw [←List.take_append_drop n a,←List.take_append_drop n b,h1,h2])
  by_cases h1:a.take n=b.take n
  ·have h2:¬a.drop n=b.drop n:=fun h2=>this ⟨h1,h2⟩
   simp [h,h2]
  ·simp [h,h1]
open Classical in
theorem klay_eq:∀(n:Nat) {t:TypeId} {ks:List KK},klay P n t=some ks→∀{ag:Bool} {m:Nat},tyOf P t=some (ag,m)→∀(d:Nat) (w:World) (xs ys:List C),kfit ks xs=true→kfit ks ys=true→
 (Op.equalIn (n+d) t (valT ag xs) (valT ag ys)).run P w= .ok (decide (xs=ys)) w∧∀em,(Instr.checkKey em (n+d) t (valT ag xs)).run P w= .ok () w
 |0,t,ks,h=>by cases h
 |n+1,t,ks,h=>
  fun ht d w xs ys hx hy=>by
  rename_i ag m
  have e1:n+1+d=(n+d)+1:=by omega
  rw [e1]
  have sgl:∀{k:KK} {x:List C},kfit [k] x=true→∃c,x=[c]∧k.fit c=true:=fun{k x} h=>by
   match x,h with
   |[c],h=>exact⟨c,rfl,by simpa [kfit]using h⟩
   |[],h=>simp [kfit]at h
   |_::_::_,h=>simp [kfit]at h
  unfold klay at h
  split at h
  ·rename_i k hu ht2
   cases h
   rw [ht]at ht2;cases ht2
   obtain⟨x,rfl,fx⟩:=sgl hx
   obtain⟨y,rfl,fy⟩:=sgl hy
   cases x<;>simp [KK.fit]at fx
   cases y<;>simp [KK.fit]at fy
   subst fx;subst fy
   rename_i a b
   refine⟨?_,fun em=> ?_⟩
   ·simp only [valT,cval,Op.equalIn,Sem.run_bind,Go.run_underlying hu,Result.andThen_ok,if_true,Sem.run_pure]
    by_cases hab:a=b<;>simp [hab]
   ·exact run_checkKey hu (k:= .int k a) (by simp [IsKey]) em (n+d)
  ·rename_i hu ht2
   cases h
   rw [ht]at ht2;cases ht2
   obtain⟨x,rfl,fx⟩:=sgl hx
   obtain⟨y,rfl,fy⟩:=sgl hy
   cases x<;>simp [KK.fit]at fx
   cases y<;>simp [KK.fit]at fy
   rename_i a b
   refine⟨?_,fun em=> ?_⟩
   ·simp only [valT,cval,Op.equalIn,Sem.run_bind,Go.run_underlying hu,Result.andThen_ok,Sem.run_pure]
    by_cases hab:a=b<;>simp [hab]
   ·exact run_checkKey hu (k:= .bool a) (by simp [IsKey]) em (n+d)
  ·rename_i hu ht2
   cases h
   rw [ht]at ht2;cases ht2
   obtain⟨x,rfl,fx⟩:=sgl hx
   obtain⟨y,rfl,fy⟩:=sgl hy
   cases x<;>simp [KK.fit]at fx
   cases y<;>simp [KK.fit]at fy
   rename_i a b
   refine⟨?_,fun em=> ?_⟩
   ·simp only [valT,cval,Op.equalIn,Sem.run_bind,Go.run_underlying hu,Result.andThen_ok,Sem.run_pure]
    have hb:=bytes_beq a b
    cases h:(a==b)
    ·rw [h]at hb
     have:¬a=b:=fun e=>by have:=hb.2 e;cases this
     simp [this]
    ·rw [h]at hb
     simp [hb.1 rfl]
   ·exact run_checkKey hu (k:= .string a) (by simp [IsKey]) em (n+d)
  ·rename_i fs m' hu ht2
   rw [ht]at ht2;cases ht2
   split at h
   ·rename_i hst
    split at h
    ·rename_i ks' hfs
     split at h
     ·rename_i hl
      cases h
      have hxl:=kfit_len hx
      have hyl:=kfit_len hy
      have e:P.fieldsOf t=fs:=by simp [Program.fieldsOf,hu]
      have hfx:=kfit_flat hx
      have hfy:=kfit_flat hy
      have go:∀(l:List Field) (o:Nat) (ks':List KK),layFs (klay P n) o l=some ks'→kfit ks' (xs.drop o)=true→kfit ks' (ys.drop o)=true→
       (Op.eqFields (n+d) (xs.map cval).toArray (ys.map cval).toArray l).run P w= .ok (decide (xs.drop o=ys.drop o)) w∧
       ∀f∈l,f.name≠ "_" ∧∃v,(part f.type (xs.map cval).toArray f.offset).run P w= .ok v w∧∀em,(Instr.checkKey em (n+d) f.type v).run P w= .ok () w:=by
       intro l
       induction l with
       |nil=>
        intro o ks' h1 h2 h3
        simp only [layFs,Option.some.injEq]at h1
        subst h1
        have e2:xs.drop o=[]:=List.eq_nil_of_length_eq_zero (by have:=kfit_len h2;simpa using this)
        have e3:ys.drop o=[]:=List.eq_nil_of_length_eq_zero (by have:=kfit_len h3;simpa using this)
        refine⟨by simp [Op.eqFields,e2,e3],fun f hf=>by simp at hf⟩
       |cons f l ih=>
        intro o ks' h1 h2 h3
        simp only [layFs]at h1
        split at h1
        ·cases h1
        ·rename_i hn
         have hname:f.name≠ "_" :=fun h=>hn (.inl h)
         have hoff:f.offset=o:=Classical.byContradiction fun h=>hn (.inr h)
         split at h1
         ·rename_i k1 hk1
          split at h1
          ·cases h1
          ·rename_i hk0
           split at h1
           case h_2=>cases h1
           rename_i r hr
           cases h1
           obtain⟨a1,hty,hag⟩:=klay_ty hk1
           obtain⟨h4,h5⟩:=kfit_segs h2
           obtain⟨h6,h7⟩:=kfit_segs h3
           have hlx:=kfit_len h4
           have hly:=kfit_len h6
           rw [List.length_take,List.length_drop]at hlx hly
           have hox:o+k1.length≤xs.length:=by omega
           have hoy:o+k1.length≤ys.length:=by omega
           have hpx:=part_val (P:=P) hty hfx hox hag w
           have hpy:=part_val (P:=P) hty hfy hoy hag w
           obtain⟨hq,hc⟩:=klay_eq n hk1 hty d w _ _ h4 h6
           obtain⟨hr1,hr2⟩:=ih _ _ hr h5 h7
           refine⟨?_,fun f' hf'=> ?_⟩
           ·simp only [Op.eqFields,ne_eq,hname,not_false_iff,if_true,Sem.run_bind,hoff,hpx,hpy,hq,Result.andThen_ok,Sem.run_ite]
            rw [decide_segs (n:=k1.length)]
            by_cases hab:(xs.drop o).take k1.length=(ys.drop o).take k1.length
            ·simp only [hab,decide_true,Bool.true_and,if_true]
             simpa using hr1
            ·simp [hab]
           ·rcases List.mem_cons.1 hf' with rfl|hf'
            ·exact⟨hname,_,by rw [hoff];exact hpx,hc⟩
            ·exact hr2 f' hf'
         ·cases h1
      obtain⟨g1,g2⟩:=go fs.toList 0 ks hfs (by simpa using hx) (by simpa using hy)
      refine⟨?_,fun em=> ?_⟩
      ·rw [show valT true xs= .agg (xs.map cval).toArray from rfl,show valT true ys= .agg (ys.map cval).toArray from rfl,run_equalIn_struct w (n+d) t _ _ (by rw [e];exact hu) hst,e]
       simpa using g1
      ·show(Instr.checkKey em (n+d+1) t (.agg (xs.map cval).toArray)).run P w=_
       unfold Instr.checkKey
       simp only [Sem.run_bind,Go.run_underlying hu,Result.andThen_ok]
       rw [←Array.forIn_toList]
       clear go g1 hfs
       generalize fs.toList=L at g2
       induction L with
       |nil=>simp
       |cons f L ih=>
        obtain⟨h1,v,h2,h3⟩:=g2 f (by simp)
        simp only [List.forIn_cons,Sem.run_bind,h1,ne_eq,not_false_eq_true,if_true,Result.andThen_ok,h2,h3 em,Sem.run_pure]
        exact ih fun y hy=>g2 y (by simp [hy])
     ·cases h
    ·cases h
   ·cases h
  ·cases h
theorem kkOf_spec {kt:TypeId} {ks:List KK} (h:kkOf P kt=some ks):klay P 20 kt=some ks∧∃m,tyOf P kt=some (!decide (ks.length=1),m):=by
 unfold kkOf at h
 split at h
 ·rename_i ks' ag m h1 h2
  split at h
  ·rename_i h3
   cases h
   subst h3
   exact⟨h1,m,h2⟩
  ·cases h
 ·cases h
theorem key_valT {ks:List KK} {k:List C} (hk:kfit ks k=true):valOf k=valT (!decide (ks.length=1)) k:=by
 rw [valOf_valT,kfit_len hk]
theorem key_check {kt:TypeId} {ks:List KK} (h:kkOf P kt=some ks) {k:List C} (hk:kfit ks k=true) (w:World) (em:Bool):(Instr.checkKey em 10000 kt (valOf k)).run P w= .ok () w:=by
 obtain⟨h1,m,h2⟩:=kkOf_spec h
 rw [key_valT hk]
 exact(klay_eq 20 h1 h2 9980 w k k hk hk).2 em
open Classical in
theorem key_equal {kt:TypeId} {ks:List KK} (h:kkOf P kt=some ks) {k k':List C} (hk:kfit ks k=true) (hk':kfit ks k'=true) (w:World):(Op.equal kt (valOf k) (valOf k')).run P w= .ok (decide (k=k')) w:=by
 obtain⟨h1,m,h2⟩:=kkOf_spec h
 rw [key_valT hk,key_valT hk']
 exact(klay_eq 20 h1 h2 9980 w k k' hk hk').1
theorem key_asking {kt:TypeId} {ks:List KK} (h:kkOf P kt=some ks) {k:List C} (hk:kfit ks k=true) (w:World):∀(es:List MapEntry) (keys:List (List C)) (i:Nat),es.length=keys.length→
 (∀(i:Nat) (e:MapEntry) (x:List C),es[i]? =some e→keys[i]? =some x→kfit ks x=true∧e.key=valOf x)→
 ((Instr.findAsking kt (valOf k) es i).run P w= .ok none w∧k∉keys)∨∃j e,(Instr.findAsking kt (valOf k) es i).run P w= .ok (some (i+j,e.val)) w∧es[j]? =some e∧keys[j]? =some k
 |[],[],i,_,_=> .inl ⟨by simp [Instr.findAsking],by simp⟩
 |e::es,x::keys,i,hl,hall=>by
  obtain⟨hx,he⟩:=hall 0 e x rfl rfl
  have hq:=key_equal h hk hx w
  rw [←he]at hq
  by_cases hkx:k=x
  ·subst hkx
   simp only [decide_true]at hq
   exact .inr ⟨0,e,by simp [Instr.findAsking,hq],rfl,rfl⟩
  ·simp only [hkx,decide_false]at hq
   rcases key_asking h hk w es keys (i+1) (by simpa using hl) (fun j e y h1 h2=>hall (j+1) e y (by simpa using h1) (by simpa using h2))with⟨h1,h2⟩|⟨j,e',h1,h2,h3⟩
   ·exact .inl ⟨by simp [Instr.findAsking,hq,h1],by simp [hkx,h2]⟩
   ·exact .inr ⟨j+1,e',by simp [Instr.findAsking,hq,h1,Nat.add_assoc,Nat.add_comm 1 j],by simpa using h2,by simpa using h3⟩
 |[],_::_,_,hl,_=>by simp at hl
 |_::_,[],_,hl,_=>by simp at hl
theorem key_find {kt:TypeId} {ks:List KK} (h:kkOf P kt=some ks) {k:List C} (hk:kfit ks k=true) (w:World) (es:List MapEntry) (keys:List (List C)) (hl:es.length=keys.length)
 (hall:∀(i:Nat) (e:MapEntry) (x:List C),es[i]? =some e→keys[i]? =some x→kfit ks x=true∧e.key=valOf x):
 ((Instr.findKey kt (valOf k) es).run P w= .ok none w∧k∉keys)∨∃j e,(Instr.findKey kt (valOf k) es).run P w= .ok (some (j,e.val)) w∧es[j]? =some e∧keys[j]? =some k:=by
 have hk0:=(kkOf_spec h).1
 have plain:∀(d:TypeDesc),P.underlying kt=some d→(∀x,kfit ks x=true→IsKey d (valOf x))→(∀x y,kfit ks x=true→kfit ks y=true→valOf x=valOf y→x=y)→
  ((Instr.findKey kt (valOf k) es).run P w= .ok none w∧k∉keys)∨∃j e,(Instr.findKey kt (valOf k) es).run P w= .ok (some (j,e.val)) w∧es[j]? =some e∧keys[j]? =some k:=by
  intro d hd hi hinj
  have hmem:∀e∈es,∃i x,es[i]? =some e∧keys[i]? =some x∧kfit ks x=true∧e.key=valOf x:=fun e he=>by
   obtain⟨i,hi,rfl⟩:=List.getElem_of_mem he
   have h1:keys[i]? =some keys[i]:=List.getElem?_eq_getElem (by omega)
   exact⟨i,_,List.getElem?_eq_getElem hi,h1,hall i _ _ (List.getElem?_eq_getElem hi) h1⟩
  rcases findNow_spec (hi k hk) es 0 (fun e he=>by obtain⟨i,x,_,_,h3,h4⟩:=hmem e he;rw [h4];exact hi x h3)with⟨h1,h2⟩|⟨j,e,h1,h2,h3⟩
  ·refine .inl ⟨run_findKey hd h1,fun hm=> ?_⟩
   obtain⟨i,hi2,hx⟩:=List.getElem_of_mem hm
   have he:es[i]? =some es[i]:=List.getElem?_eq_getElem (by omega)
   have hy:keys[i]? =some k:=by rw [List.getElem?_eq_getElem hi2,hx]
   exact h2 _ (List.mem_of_getElem? he) (hall i _ _ he hy).2
  ·rw [Nat.zero_add]at h1
   refine .inr ⟨j,e,run_findKey hd h1,h2, ?_⟩
   have hj:j<keys.length:=by have:=(List.getElem?_eq_some_iff.1 h2).1;omega
   have hy:keys[j]? =some keys[j]:=List.getElem?_eq_getElem hj
   obtain⟨h4,h5⟩:=hall j e _ h2 hy
   rw [hy,hinj _ _ h4 hk (by rw [←h5,h3])]
 have sgl:∀{k:KK} {x:List C},kfit [k] x=true→∃c,x=[c]∧k.fit c=true:=fun{k x} h=>by
  match x,h with
  |[c],h=>exact⟨c,rfl,by simpa [kfit]using h⟩
  |[],h=>simp [kfit]at h
  |_::_::_,h=>simp [kfit]at h
 unfold klay at hk0
 split at hk0
 ·rename_i q hu _
  cases hk0
  refine plain _ hu (fun x hx=> ?_) fun x y hx hy hxy=> ?_
  ·obtain⟨c,rfl,hc⟩:=sgl hx
   cases c<;>simp [KK.fit]at hc
   subst hc
   simp [valOf,cval,IsKey]
  ·obtain⟨c,rfl,hc⟩:=sgl hx
   obtain⟨c',rfl,hc'⟩:=sgl hy
   cases c<;>simp [KK.fit]at hc
   cases c'<;>simp [KK.fit]at hc'
   simp only [valOf,cval,Value.int.injEq]at hxy
   rw [hxy.1,hxy.2]
 ·rename_i hu _
  cases hk0
  refine plain _ hu (fun x hx=> ?_) fun x y hx hy hxy=> ?_
  ·obtain⟨c,rfl,hc⟩:=sgl hx
   cases c<;>simp [KK.fit]at hc
   simp [valOf,cval,IsKey]
  ·obtain⟨c,rfl,hc⟩:=sgl hx
   obtain⟨c',rfl,hc'⟩:=sgl hy
   cases c<;>simp [KK.fit]at hc
   cases c'<;>simp [KK.fit]at hc'
   simp only [valOf,cval,Value.bool.injEq]at hxy
   rw [hxy]
 ·rename_i hu _
  cases hk0
  refine plain _ hu (fun x hx=> ?_) fun x y hx hy hxy=> ?_
  ·obtain⟨c,rfl,hc⟩:=sgl hx
   cases c<;>simp [KK.fit]at hc
   simp [valOf,cval,IsKey]
  ·obtain⟨c,rfl,hc⟩:=sgl hx
   obtain⟨c',rfl,hc'⟩:=sgl hy
   cases c<;>simp [KK.fit]at hc
   cases c'<;>simp [KK.fit]at hc'
   simp only [valOf,cval,Value.string.injEq]at hxy
   rw [hxy]
 ·rename_i fs _ hu _
  have he:(Instr.findKey kt (valOf k) es).run P w=(Instr.findAsking kt (valOf k) es).run P w:=by
   cases es with
   |nil=>simp [Instr.findKey,run_underlying hu,Instr.findNow,Instr.findAsking]
   |cons e es=>simp [Instr.findKey,run_underlying hu,Instr.findNow,Instr.sameNow]
  rw [he]
  have:=key_asking h hk w es keys 0 hl hall
  simpa using this
 ·cases hk0
theorem sameBits_flat {c:C} (h:c.flat=true) (n:Nat):Instr.sameBits n (cval c) (cval c)=true:=by
 cases c<;>simp [C.flat]at h<;>cases n<;>simp [cval,Instr.sameBits,bytes_beq]
theorem key_stays {k:List C} (hk:k.all C.flat=true) (w:World):(Instr.keyThatStays (valOf k) (valOf k)).run P w= .ok (valOf k) w:=by
 have:Instr.sameBits 10000 (valOf k) (valOf k)=true:=by
  have hagg:Instr.sameBits 10000 (.agg (k.map cval).toArray) (.agg (k.map cval).toArray)=true:=by
   show Instr.sameBits (9999+1) _ _=true
   simp only [Instr.sameBits,beq_self_eq_true,Bool.true_and,List.all_eq_true]
   intro p hp
   obtain⟨i,hi,e⟩:=List.getElem_of_mem hp
   rw [List.getElem_zip]at e
   rw [←e]
   simp only [List.getElem_map]
   exact sameBits_flat (List.all_eq_true.1 hk _ (List.getElem_mem _)) 9999
  match k,hk,hagg with
  |[],_,hagg=>exact hagg
  |[c],h,_=>exact sameBits_flat (by simpa using h) _
  |a::b::l,_,hagg=>exact hagg
 simp [Instr.keyThatStays,this]
theorem mlk_none {k:List C}:∀{kv:List (List C×D)},k∉kv.map (·.1)→mlk k kv=none
 |[],_=>rfl
 |(k',d)::l,h=>by
  simp only [List.map_cons,List.mem_cons,not_or]at h
  rw [mlk,if_neg h.1,mlk_none h.2]
theorem mlk_some {k:List C} {d:D}:∀{kv:List (List C×D)},(kv.map (·.1)).Nodup→(k,d)∈kv→mlk k kv=some d
 |[],_,h=>by cases h
 |(k',d')::l,hn,h=>by
  simp only [List.map_cons,List.nodup_cons]at hn
  rcases List.mem_cons.1 h with h2|h2
  ·cases h2;rw [mlk,if_pos rfl]
  ·have:¬k=k':=by
    intro e
    exact hn.1 (List.mem_map.2 ⟨(k,d),h2,e⟩)
   rw [mlk,if_neg this,mlk_some hn.2 h2]
theorem mset_none {k:List C} {v:D}:∀{kv:List (List C×D)},k∉kv.map (·.1)→mset k v kv=kv++[(k,v)]
 |[],_=>rfl
 |(k',d)::l,h=>by
  simp only [List.map_cons,List.mem_cons,not_or]at h
  rw [mset,if_neg h.1,mset_none h.2];rfl
theorem mset_some {k:List C} {v:D}:∀{kv:List (List C×D)} {j:Nat},(kv.map (·.1)).Nodup→(kv.map (·.1))[j]? =some k→mset k v kv=kv.set j (k,v)
 |[],j,_,h=>by simp at h
 |(k',d)::l,0,hn,h=>by
  simp only [List.map_cons,List.getElem?_cons_zero,Option.some.injEq]at h
  subst h
  rw [mset,if_pos rfl];rfl
 |(k',d)::l,j+1,hn,h=>by
  simp only [List.map_cons,List.nodup_cons]at hn
  simp only [List.map_cons,List.getElem?_cons_succ]at h
  have:¬k=k':=by
   rintro rfl
   exact hn.1 (List.mem_of_getElem? h)
  rw [mset,if_neg this,mset_some hn.2 h];rfl
theorem mapOf_spec {t:TypeId} {ks:List KK} {z:D} (h:mapOf P t=some (ks,z)):∃kt e,P.underlying t=some (.map kt e)∧kkOf P kt=some ks∧∃v,(∀w,(zeroValue e).run P w= .ok v w)∧∀g w,VRel g w v z:=by
 unfold mapOf at h
 split at h
 ·rename_i k e hu
  split at h
  ·rename_i ks' z' h1 h2
   cases h
   refine⟨k,e,hu,h1, ?_⟩
   unfold zOf at h2
   split at h2
   ·rename_i i hi
    split at h2
    ·rename_i v hv
     cases h2
     exact⟨v,fun w=>by simp [zeroValue,typeInfo,hi,hv],fun g w=>valD_rel v⟩
    ·cases h2
   ·cases h2
  ·cases h
 ·cases h
def lkR (r:Option D) (z:D) (ok:Bool):D:=match r with
 |some d=>if ok=true then .tup [d, .bool true]else d
 |none=>if ok=true then .tup [z, .bool false]else z
theorem lk_core {t:TypeId} {ks:List KK} {z:D} (h:mapOf P t=some (ks,z)) {b n:Nat} {es:Array MapEntry} {kv:List (List C×D)} (hb:w.heap[b]? =some (.map es n)) (hl:es.size=kv.length)
 (hn:(kv.map (·.1)).Nodup) (hf:∀x∈kv,kfit ks x.1=true) (he:∀(i:Nat) (e:MapEntry) (x:List C×D),es[i]? =some e→kv[i]? =some x→e.key=valOf x.1∧VRel g w e.val x.2) {k:List C} (hk:kfit ks k=true) (ok:Bool):
 ∃v,(Instr.lookup t (.map (some b)) (valOf k) ok).run P w= .ok v w∧VRel g w v (lkR (mlk k kv) z ok):=by
 obtain⟨kt,e,hu,hkk,zv,hz,hzr⟩:=mapOf_spec h
 have hall:∀(i:Nat) (e:MapEntry) (x:List C),es.toList[i]? =some e→(kv.map (·.1))[i]? =some x→kfit ks x=true∧e.key=valOf x:=fun i e x h1 h2=>by
  simp only [List.getElem?_map,Option.map_eq_some_iff]at h2
  obtain⟨y,hy,rfl⟩:=h2
  exact⟨hf y (List.mem_of_getElem? hy),(he i e y (by simpa using h1) hy).1⟩
 have hb':=run_getObj_map (P:=P) hb
 have hc:=key_check hkk hk w es.isEmpty
 have htup:∀{v:Value} {d:D} (b:Bool),VRel g w v d→VRel g w (.tuple #[v, .bool b]) (.tup [d, .bool b]):=fun{v d} b hv=>by
  refine .tup _ _ rfl fun i u e hu he=> ?_
  match i,hu,he with
  |0,hu,he=>simp at hu he;subst hu;subst he;exact hv
  |1,hu,he=>simp at hu he;subst hu;subst he;exact .c _ _ (.bool _)
  |i+2,hu,he=>simp at hu
 rcases key_find hkk hk w es.toList (kv.map (·.1)) (by simpa using hl) hall with⟨h1,h2⟩|⟨j,e',h1,h2,h3⟩
 ·rw [mlk_none h2]
  refine⟨if ok=true then .tuple #[zv, .bool false]else zv, ?_, ?_⟩
  ·simp only [Instr.lookup,Sem.run_bind,Go.run_underlying hu,Result.andThen_ok,hb',hc,h1,hz,Sem.run_pure]
  ·cases ok
   ·exact hzr g w
   ·exact htup false (hzr g w)
 ·simp only [List.getElem?_map,Option.map_eq_some_iff]at h3
  obtain⟨y,hy,hyk⟩:=h3
  have hmem:(k,y.2)∈kv:=by rw [←hyk];exact List.mem_of_getElem? hy
  rw [mlk_some hn hmem]
  have hv:=(he j e' y (by simpa using h2) hy).2
  refine⟨if ok=true then .tuple #[e'.val, .bool true]else e'.val, ?_, ?_⟩
  ·simp only [Instr.lookup,Sem.run_bind,Go.run_underlying hu,Result.andThen_ok,hb',hc,h1,Sem.run_pure]
  ·cases ok
   ·exact hv
   ·exact htup true hv
theorem mlk_perm {k:List C} {kv kv':List (List C×List C)} (hp:List.Perm kv' kv) (hn:(kv.map (·.1)).Nodup):mlk k (kvD kv')=mlk k (kvD kv):=by
 have hk:∀l:List (List C×List C),(kvD l).map (·.1)=l.map (·.1):=fun l=>by simp [kvD]
 have hn':(kv'.map (·.1)).Nodup:=(hp.map _).nodup_iff.2 hn
 by_cases h:k∈kv.map (·.1)
 ·obtain⟨x,hx,rfl⟩:=List.mem_map.1 h
  have h1:∀l,x∈l→(x.1,dOf x.2)∈kvD l:=fun l hl=>List.mem_map.2 ⟨x,hl,rfl⟩
  rw [mlk_some (by rw [hk];exact hn') (h1 _ (hp.mem_iff.2 hx)),mlk_some (by rw [hk];exact hn) (h1 _ hx)]
 ·have h':k∉kv'.map (·.1):=fun hm=>h ((hp.map _).mem_iff.1 hm)
  rw [mlk_none (kv:=kvD kv') (by rw [hk];exact h'),mlk_none (kv:=kvD kv) (by rw [hk];exact h)]
theorem lk_sound (hr:Rel δ g s a w) {t:TypeId} {m key z:D} {r:Option D} {mv kv:Value} (hm:VRel g w mv m) (hk:VRel g w kv key) (h:lkD P s t m key=some (r,z)) (ok:Bool):
 ∃v,(Instr.lookup t mv kv ok).run P w= .ok v w∧VRel g w v (lkR r z ok):=by
 unfold lkD at h
 split at h
 case h_2=>cases h
 rename_i ks z' k h1 h2
 split at h
 case isFalse=>cases h
 rename_i hfit
 have hkv:=keyD_val hk h2 (kfit_flat hfit)
 subst hkv
 split at h
 ·rename_i id
  split at h
  ·rename_i kt kvl hl
   split at h
   ·rename_i he
    cases h
    subst he
    obtain⟨b,es,h3,h4,h5,h6,h7,h8⟩:=hr.o.ok _ _ hl
    cases hm with
    |mp b' _ h9=>
     rw [h9]at h3;cases h3
     exact lk_core h1 h4 h5 h6 h7 (fun i e x he hx=>⟨(h8 i e x he hx).1,(h8 i e x he hx).2.2⟩) hfit ok
   ·cases h
  ·cases h
 ·rename_i kt kvl
  split at h
  ·rename_i he
   cases h
   subst he
   cases hm with
   |c _ _ hm=>
   cases hm with
   |mapnil=>
    obtain⟨kt',e,hu,hkk,zv,hz,hzr⟩:=mapOf_spec h1
    have hc:=key_check hkk hfit w true
    have hfd:((Instr.findKey kt' (valOf k) []).run P w)= .ok none w:=by
     rcases key_find hkk hfit w [] [] rfl (fun i e x h=>by simp at h)with⟨h,_⟩|⟨j,e,_,h,_⟩
     ·exact h
     ·simp at h
    refine⟨if ok=true then .tuple #[zv, .bool false]else zv, ?_, ?_⟩
    ·simp [Instr.lookup,Go.run_underlying hu,Result.andThen_ok,hc,hfd,hz]
    ·cases ok
     ·exact hzr g w
     ·refine .tup _ _ rfl fun i u e hu he=> ?_
      match i,hu,he with
      |0,hu,he=>simp at hu he;subst hu;subst he;exact hzr g w
      |1,hu,he=>simp at hu he;subst hu;subst he;exact .c _ _ (.bool _)
      |i+2,hu,he=>simp at hu
   |map b _ _ kv' es hI hat=>
    rw [←mlk_perm hat.perm hat.nd]
    refine lk_core h1 hat.heap (by rw [hat.es.1];simp [kvD]) ?_ (fun x hx=> ?_) (fun i e x he hx=> ?_) hfit ok
    ·have:(kvD kv').map (·.1)=kv'.map (·.1):=by simp [kvD]
     rw [this]
     exact(hat.perm.map _).nodup_iff.2 hat.nd
    ·obtain⟨y,hy,rfl⟩:=List.mem_map.1 hx
     exact(hat.fit y (hat.perm.mem_iff.1 hy)).1
    ·simp only [kvD,List.getElem?_map,Option.map_eq_some_iff]at hx
     obtain⟨y,hy,rfl⟩:=hx
     obtain⟨q1,q2,_⟩:=hat.es.2 i e y he hy
     refine⟨q1, ?_⟩
     rw [q2]
     exact valOf_rel (hat.fit y (hat.perm.mem_iff.1 (List.mem_of_getElem? hy))).2
  ·cases h
 ·cases h
  cases hm
  obtain⟨kt',e,hu,hkk,zv,hz,hzr⟩:=mapOf_spec h1
  have hc:=key_check hkk hfit w true
  have hfd:((Instr.findKey kt' (valOf k) []).run P w)= .ok none w:=by
   rcases key_find hkk hfit w [] [] rfl (fun i e x h=>by simp at h)with⟨h,_⟩|⟨j,e,_,h,_⟩
   ·exact h
   ·simp at h
  refine⟨if ok=true then .tuple #[zv, .bool false]else zv, ?_, ?_⟩
  ·simp [Instr.lookup,Go.run_underlying hu,Result.andThen_ok,hc,hfd,hz]
  ·cases ok
   ·exact hzr g w
   ·refine .tup _ _ rfl fun i u e hu he=> ?_
    match i,hu,he with
    |0,hu,he=>simp at hu he;subst hu;subst he;exact hzr g w
    |1,hu,he=>simp at hu he;subst hu;subst he;exact .c _ _ (.bool _)
    |i+2,hu,he=>simp at hu
 ·cases h
theorem mset_sound (hr:Rel δ g s a w) {id:Nat} {kt:List KK} {kv kv':List (List C×D)} (hl:lk id s.os=some (.map kt kv)) {b:Nat} (hb:g.ρ id=some b) {es':Array MapEntry} (h1:es'.size=kv'.length) (h2:(kv'.map (·.1)).Nodup) (h3:∀x∈kv',kfit kt x.1=true)
 (h4:∀(i:Nat) (e:MapEntry) (x:List C×D),es'[i]? =some e→kv'[i]? =some x→e.key=valOf x.1∧e.born=i∧VRel g w e.val x.2):
 Rel δ g {s with os:=upd id (.map kt kv') s.os} a {w with heap:=w.heap.setIfInBounds b (.map es' es'.size)}∧Step g s w g {s with os:=upd id (.map kt kv') s.os} {w with heap:=w.heap.setIfInBounds b (.map es' es'.size)}:=by
 obtain⟨b',es,h5,h6,_⟩:=hr.o.ok _ _ hl
 rw [hb]at h5;cases h5
 have hset:=heap_set (o':= .map es' es'.size) h6
 have hblk:g.blk id (.map kt kv)=some b:=hb
 have hs:∀b',b'<w.heap.size→g.blk id (.map kt kv)≠some b'→(w.heap.setIfInBounds b (.map es' es'.size))[b']? =w.heap[b']? :=fun b' _ hne=>hset.2 b' fun e=>hne (by rw [e];exact hblk)
 have hk:Keeps g.I w {w with heap:=w.heap.setIfInBounds b (.map es' es'.size)}:=fun b' hb'=>hs b' (hr.o.imm b' hb').1 fun e=>(hr.o.imm b' hb').2 ⟨id,_,hl,e⟩
 obtain⟨h7,h8⟩:=hr.o.replace hl (.map kt kv') s.tm (.refl g) (fun b hb=>hb) (fun i _=>rfl) (fun i _=>rfl) (w':={w with heap:=w.heap.setIfInBounds b (.map es' es'.size)}) (by simp) hs
  ⟨b,es',hb,hset.1,h1,h2,h3,fun i e x he hx=>⟨(h4 i e x he hx).1,(h4 i e x he hx).2.1,(h4 i e x he hx).2.2.mono hk (.refl g)⟩⟩ (fun b' hb'=> .inl hb')
 exact⟨hr.of h7 h8.tm rfl,h8.tm⟩
theorem upd_sound (hr:Rel δ g s a w) {t:TypeId} {m key v:D} {mv kv vv:Value} (hm:VRel g w mv m) (hk:VRel g w kv key) (hv:VRel g w vv v) (h:mpU P s t m key v=some s'):
 ∃w',(Instr.mapUpdate t mv kv vv).run P w= .ok () w'∧Rel δ g s' a w'∧Step g s w g s' w':=by
 unfold mpU at h
 split at h
 case h_2=>cases h
 rename_i ks z k id h1 h2
 split at h
 case h_2=>cases h
 rename_i kt kvl cs hl hcs
 split at h
 case isFalse=>cases h
 rename_i hc
 obtain⟨rfl,hfit⟩:=hc
 cases h
 have hkv:=keyD_val hk h2 (kfit_flat hfit)
 subst hkv
 obtain⟨kty,e,hu,hkk,_⟩:=mapOf_spec h1
 obtain⟨b,es,h3,h4,h5,h6,h7,h8⟩:=hr.o.ok _ _ hl
 cases hm with
 |mp b' _ h9=>
 rw [h9]at h3;cases h3
 have hall:∀(i:Nat) (e:MapEntry) (x:List C),es.toList[i]? =some e→(kvl.map (·.1))[i]? =some x→kfit kt x=true∧e.key=valOf x:=fun i e x h1 h2=>by
  simp only [List.getElem?_map,Option.map_eq_some_iff]at h2
  obtain⟨y,hy,rfl⟩:=h2
  exact⟨h7 y (List.mem_of_getElem? hy),(h8 i e y (by simpa using h1) hy).1⟩
 have hb':=run_getObj_map (P:=P) h4
 have hc:=key_check hkk hfit w false
 rcases key_find hkk hfit w es.toList (kvl.map (·.1)) (by simpa using h5) hall with⟨q1,q2⟩|⟨j,e',q1,q2,q3⟩
 ·have hms:mset k v kvl=kvl++[(k,v)]:=mset_none q2
  have hsz:(es.push {key:=valOf k,val:=vv,born:=es.size}).size=es.size+1:=by simp
  obtain⟨h10,h11⟩:=mset_sound hr hl h9 (es':=es.push {key:=valOf k,val:=vv,born:=es.size}) (kv':=mset k v kvl) (by rw [hms];simp [h5])
   (by rw [hms,List.map_append,List.nodup_append];exact⟨h6,by simp,fun x hx y hy=>by simp at hy;subst hy;rintro rfl;exact q2 hx⟩)
   (by rw [hms];intro x hx;rcases List.mem_append.1 hx with hx|hx
       ·exact h7 x hx
       ·simp at hx;subst hx;exact hfit)
   (by
    intro i e0 x he hx
    rw [hms]at hx
    rw [Array.getElem?_push]at he
    rw [List.getElem?_append]at hx
    split at he
    ·rename_i hi
     subst hi
     cases he
     rw [if_neg (by omega)]at hx
     have:x=(k,v):=by simpa [h5]using hx.symm
     subst this
     exact⟨rfl,rfl,hv⟩
    ·have hi:=(Array.getElem?_eq_some_iff.1 he).1
     rw [if_pos (by omega)]at hx
     exact h8 i e0 x he hx)
  rw [hsz]at h10 h11
  refine⟨_, ?_,h10,h11⟩
  simp [Instr.mapUpdate,Go.run_underlying hu,Result.andThen_ok,hb',hc,q1,run_setObj_map _ h4]
 ·have hms:mset k v kvl=kvl.set j (k,v):=mset_some h6 q3
  have hj:j<es.size:=by simpa using(List.getElem?_eq_some_iff.1 q2).1
  have hsz:(es.modify j fun e=>{e with key:=valOf k,val:=vv}).size=es.size:=by simp
  have hje:es[j]? =some e':=by simpa using q2
  obtain⟨y,hy,hyk⟩:∃y,kvl[j]? =some y∧y.1=k:=by
   simp only [List.getElem?_map,Option.map_eq_some_iff]at q3
   exact q3
  have hek:e'.key=valOf k:=by rw [(h8 j e' y hje hy).1,hyk]
  have hst:=key_stays (P:=P) (kfit_flat hfit) w
  obtain⟨h10,h11⟩:=mset_sound hr hl h9 (es':=es.modify j fun e=>{e with key:=valOf k,val:=vv}) (kv':=mset k v kvl) (by rw [hms];simp [h5])
   (by
    have:(mset k v kvl).map (·.1)=kvl.map (·.1):=by
     rw [hms,List.map_set]
     apply List.ext_getElem?
     intro i
     rw [List.getElem?_set]
     split
     ·rename_i hji;subst hji
      split
      ·exact q3.symm
      ·rename_i hn;rw [List.getElem?_eq_none (by omega)]
     ·rfl
    rw [this];exact h6)
   (by rw [hms];intro x hx
       rcases List.mem_or_eq_of_mem_set hx with hx|hx
       ·exact h7 x hx
       ·subst hx;exact hfit)
   (by
    intro i e0 x he hx
    rw [hms]at hx
    rw [Array.getElem?_modify]at he
    rw [List.getElem?_set]at hx
    split at he
    ·rename_i hi
     subst hi
     rw [hje]at he
     cases he
     rw [if_pos rfl,if_pos (by omega)]at hx
     cases hx
     exact⟨rfl,(h8 j e' y hje hy).2.1,hv⟩
    ·rename_i hi
     rw [if_neg hi]at hx
     exact h8 i e0 x he hx)
  rw [hsz]at h10 h11
  refine⟨_, ?_,h10,h11⟩
  simp [Instr.mapUpdate,Go.run_underlying hu,Result.andThen_ok,hb',hc,q1,run_setObj_map _ h4,hje,hek,hst]
theorem mpos_lt {k:List C} {z:D}:∀{kv:List (List C×D)},mpos k kv<(mzero k z kv).length
 |[]=>by simp [mpos,mzero]
 |(k',d)::l=>by
  rw [mpos,mzero]
  split
  ·simp
  ·have:=mpos_lt (k:=k) (z:=z) (kv:=l);simp;exact this
theorem mput_mset {k:List C} {z v:D}:∀{kv:List (List C×D)},mputAt (mpos k kv) v (mzero k z kv)=mset k v kv
 |[]=>rfl
 |(k',d)::l=>by
  rw [mpos,mzero,mset]
  split
  ·rfl
  ·show _::mputAt _ _ _=_
   rw [mput_mset]
theorem mzero_none {k:List C} {z:D}:∀{kv:List (List C×D)},k∉kv.map (·.1)→mzero k z kv=kv++[(k,z)]∧mpos k kv=kv.length
 |[],_=>⟨rfl,rfl⟩
 |(k',d)::l,h=>by
  simp only [List.map_cons,List.mem_cons,not_or]at h
  have:=mzero_none (z:=z) h.2
  rw [mzero,if_neg h.1,mpos,if_neg h.1,this.1,this.2];exact⟨rfl,rfl⟩
theorem mzero_some {k:List C} {z:D}:∀{kv:List (List C×D)} {j:Nat},(kv.map (·.1)).Nodup→(kv.map (·.1))[j]? =some k→mzero k z kv=kv∧mpos k kv=j
 |[],j,_,h=>by simp at h
 |(k',d)::l,0,hn,h=>by
  simp only [List.map_cons,List.getElem?_cons_zero,Option.some.injEq]at h
  subst h
  rw [mzero,if_pos rfl,mpos,if_pos rfl];exact⟨rfl,rfl⟩
 |(k',d)::l,j+1,hn,h=>by
  simp only [List.map_cons,List.nodup_cons]at hn
  simp only [List.map_cons,List.getElem?_cons_succ]at h
  have h1:¬k=k':=by
   rintro rfl
   exact hn.1 (List.mem_of_getElem? h)
  have:=mzero_some (z:=z) hn.2 h
  rw [mzero,if_neg h1,mpos,if_neg h1,this.1,this.2];exact⟨rfl,rfl⟩
theorem mputAt_set {v:D}:∀{kv:List (List C×D)} {j:Nat} {x:List C×D},kv[j]? =some x→mputAt j v kv=kv.set j (x.1,v)
 |[],j,x,h=>by simp at h
 |y::l,0,x,h=>by simp at h;subst h;rfl
 |y::l,j+1,x,h=>by
  show y::mputAt j v l=y::l.set j _
  rw [mputAt_set (by simpa using h)]
theorem mlk_mzero {k:List C} {z:D}:∀{kv:List (List C×D)},mlk k (mzero k z kv)=some ((mlk k kv).getD z)
 |[]=>by simp [mzero,mlk]
 |(k',d)::l=>by
  rw [mzero]
  by_cases h:k=k'
  ·rw [if_pos h,mlk,if_pos h];rfl
  ·rw [if_neg h,mlk,if_neg h,mlk_mzero,mlk,if_neg h]
theorem mpent_sound (hr:Rel δ g s a w) {t:TypeId} {m key d:D} {mv kv:Value} (hm:VRel g w mv m) (hk:VRel g w kv key) (h:mpE P s t m key=some (s',d)):
 ∃v w',(Instr.mapEntry t mv kv).run P w= .ok v w'∧VRel g w' v d∧Rel δ g s' a w'∧Step g s w g s' w':=by
 unfold mpE at h
 split at h
 case h_2=>cases h
 rename_i ks z k id h1 h2
 split at h
 case h_2=>cases h
 rename_i kt kvl zc hl
 split at h
 case isFalse=>cases h
 rename_i hc
 obtain⟨rfl,hfit⟩:=hc
 cases h
 have hkv:=keyD_val hk h2 (kfit_flat hfit)
 subst hkv
 obtain⟨kty,e,hu,hkk,zv,hz,hzr⟩:=mapOf_spec h1
 generalize D.c zc=z at*
 obtain⟨b,es,h3,h4,h5,h6,h7,h8⟩:=hr.o.ok _ _ hl
 cases hm with
 |mp b' _ h9=>
 rw [h9]at h3;cases h3
 have hall:∀(i:Nat) (e:MapEntry) (x:List C),es.toList[i]? =some e→(kvl.map (·.1))[i]? =some x→kfit kt x=true∧e.key=valOf x:=fun i e x h1 h2=>by
  simp only [List.getElem?_map,Option.map_eq_some_iff]at h2
  obtain⟨y,hy,rfl⟩:=h2
  exact⟨h7 y (List.mem_of_getElem? hy),(h8 i e y (by simpa using h1) hy).1⟩
 have hb':=run_getObj_map (P:=P) h4
 have hc:=key_check hkk hfit w false
 have htup:∀{w':World} {v:Value} {d:D} {n:Int},VRel g w' v d→VRel g w' (.tuple #[v,goInt n]) (.tup [d, .int .i64 n]):=fun{w' v d n} hv=>by
  refine .tup _ _ rfl fun i u e hu he=> ?_
  match i,hu,he with
  |0,hu,he=>simp at hu he;subst hu;subst he;exact hv
  |1,hu,he=>simp at hu he;subst hu;subst he;exact .c _ _ (.int _ _)
  |i+2,hu,he=>simp at hu
 rcases key_find hkk hfit w es.toList (kvl.map (·.1)) (by simpa using h5) hall with⟨q1,q2⟩|⟨j,e',q1,q2,q3⟩
 ·obtain⟨hms,hmp⟩:=mzero_none (z:=z) q2
  have hsz:(es.push {key:=valOf k,val:=zv,born:=es.size}).size=es.size+1:=by simp
  obtain⟨h10,h11⟩:=mset_sound hr hl h9 (es':=es.push {key:=valOf k,val:=zv,born:=es.size}) (kv':=mzero k z kvl) (by rw [hms];simp [h5])
   (by rw [hms,List.map_append,List.nodup_append];exact⟨h6,by simp,fun x hx y hy=>by simp at hy;subst hy;rintro rfl;exact q2 hx⟩)
   (by rw [hms];intro x hx;rcases List.mem_append.1 hx with hx|hx
       ·exact h7 x hx
       ·simp at hx;subst hx;exact hfit)
   (by
    intro i e0 x he hx
    rw [hms]at hx
    rw [Array.getElem?_push]at he
    rw [List.getElem?_append]at hx
    split at he
    ·rename_i hi
     subst hi
     cases he
     rw [if_neg (by omega)]at hx
     have:x=(k,z):=by simpa [h5]using hx.symm
     subst this
     exact⟨rfl,rfl,hzr g w⟩
    ·have hi:=(Array.getElem?_eq_some_iff.1 he).1
     rw [if_pos (by omega)]at hx
     exact h8 i e0 x he hx)
  rw [hsz]at h10 h11
  rw [mlk_none q2,hmp,←h5]
  refine⟨.tuple #[zv,goInt es.size],_, ?_,htup (hzr g _),h10,h11⟩
  simp [Instr.mapEntry,Go.run_underlying hu,Result.andThen_ok,hb',hc,q1,hz,run_setObj_map _ h4]
 ·obtain⟨hms,hmp⟩:=mzero_some (z:=z) h6 q3
  have hj:j<es.size:=by simpa using(List.getElem?_eq_some_iff.1 q2).1
  have hsz:(es.modify j fun e=>{e with key:=valOf k}).size=es.size:=by simp
  have hje:es[j]? =some e':=by simpa using q2
  obtain⟨y,hy,hyk⟩:∃y,kvl[j]? =some y∧y.1=k:=by
   simp only [List.getElem?_map,Option.map_eq_some_iff]at q3
   exact q3
  have hek:e'.key=valOf k:=by rw [(h8 j e' y hje hy).1,hyk]
  have hst:=key_stays (P:=P) (kfit_flat hfit) w
  have hyd:(k,y.2)∈kvl:=by rw [←hyk];exact List.mem_of_getElem? hy
  obtain⟨h10,h11⟩:=mset_sound hr hl h9 (es':=es.modify j fun e=>{e with key:=valOf k}) (kv':=mzero k z kvl) (by rw [hms];simp [h5]) (by rw [hms];exact h6) (by rw [hms];exact h7)
   (by
    intro i e0 x he hx
    rw [hms]at hx
    rw [Array.getElem?_modify]at he
    split at he
    ·rename_i hi
     subst hi
     rw [hje]at he
     cases he
     have:=h8 j e' x hje hx
     exact⟨by show valOf k=_;rw [←hek];exact this.1,this.2⟩
    ·exact h8 i e0 x he hx)
  rw [hsz]at h10 h11
  rw [mlk_some h6 hyd,hmp]
  refine⟨.tuple #[e'.val,goInt j],_, ?_,htup (h11.vrel hr.o (h8 j e' y hje hy).2.2),h10,h11⟩
  simp [Instr.mapEntry,Go.run_underlying hu,Result.andThen_ok,hb',hc,q1,run_setObj_map _ h4,hje,hek,hst,(h8 j e' y hje hy).2.1]
theorem mpest_sound (hr:Rel δ g s a w) {t:TypeId} {m st v:D} {mv sv vv:Value} (hm:VRel g w mv m) (hs:VRel g w sv st) (hv:VRel g w vv v) (h:esU s m st v=some s'):
 ∃w',(Instr.entryStore t mv sv vv).run P w= .ok () w'∧Rel δ g s' a w'∧Step g s w g s' w':=by
 unfold esU at h
 split at h
 case h_2=>cases h
 rename_i id i cs hcs
 split at h
 case h_2=>cases h
 rename_i kt kvl hl
 split at h
 case isFalse=>cases h
 rename_i hi
 cases h
 obtain⟨b,es,h3,h4,h5,h6,h7,h8⟩:=hr.o.ok _ _ hl
 cases hm with
 |mp b' _ h9=>
 rw [h9]at h3;cases h3
 cases hs with
 |c _ _ hs=>
 cases hs
 obtain⟨j,rfl⟩:∃j:Nat,i=j:=⟨i.toNat,by omega⟩
 rw [Int.toNat_natCast]
 have hjl:j<kvl.length:=by omega
 have hj:j<es.size:=by omega
 have hy:=List.getElem?_eq_getElem hjl
 have hje:=Array.getElem?_eq_getElem hj
 have hms:=mputAt_set (v:=v) hy
 have hb':=run_getObj_map (P:=P) h4
 have hborn:∀(i:Nat) (e:MapEntry),es[i]? =some e→e.born=i:=fun i e he=>by
  have hil:i<kvl.length:=by have:=(Array.getElem?_eq_some_iff.1 he).1;omega
  exact(h8 i e _ he (List.getElem?_eq_getElem hil)).2.1
 have hfind:es.findIdx? (fun e=>(e.born:Int)==(j:Int))=some j:=by
  rw [Array.findIdx?_eq_some_iff_getElem]
  refine⟨hj,by simp [hborn j _ hje],fun i hi=> ?_⟩
  have:=hborn i _ (Array.getElem?_eq_getElem (by omega))
  simp [this];omega
 have hsz:(es.modify j fun e=>{e with val:=vv}).size=es.size:=by simp
 obtain⟨h10,h11⟩:=mset_sound hr hl h9 (es':=es.modify j fun e=>{e with val:=vv}) (kv':=mputAt j v kvl) (by rw [hms];simp [h5])
  (by
   have:(mputAt j v kvl).map (·.1)=kvl.map (·.1):=by
    rw [hms,List.map_set]
    apply List.ext_getElem?
    intro i
    rw [List.getElem?_set]
    split
    ·rename_i hji;subst hji
     rw [if_pos (by simpa using hjl),List.getElem?_map,hy];rfl
    ·rfl
   rw [this];exact h6)
  (by rw [hms];intro x hx
      rcases List.mem_or_eq_of_mem_set hx with hx|hx
      ·exact h7 x hx
      ·subst hx;exact(show kfit kt (kvl[j]).1=true from h7 _ (List.mem_of_getElem? hy)))
  (by
   intro i e0 x he hx
   rw [hms]at hx
   rw [Array.getElem?_modify]at he
   rw [List.getElem?_set]at hx
   split at he
   ·rename_i hi
    subst hi
    rw [hje]at he
    cases he
    rw [if_pos rfl,if_pos (by omega)]at hx
    cases hx
    have:=h8 j _ _ hje hy
    exact⟨this.1,this.2.1,hv⟩
   ·rename_i hi
    rw [if_neg hi]at hx
    exact h8 i e0 x he hx)
 rw [hsz]at h10 h11
 refine⟨_, ?_,h10,h11⟩
 simp [Instr.entryStore,Result.andThen_ok,hb',asInt,asIntOf,hfind,run_setObj_map _ h4]
theorem new_sound (hr:Rel δ g s a w) (o:Ob) (ob:Obj) (d:D) (v:Value) (hok:∀g',g.Le g'→g'.ρ s.nx=some w.heap.size→g'.I=g.I→OK g' (w.alloc ob) s.nx o) (hbk:∀g':G,g'.ρ s.nx=some w.heap.size→g'.blk s.nx o=some w.heap.size)
 (hv:∀g':G,g'.ρ s.nx=some w.heap.size→VRel g' (w.alloc ob) v d) (dst:Option Tmp) (hd:∀x,dst=some x→x<a.tmps.size):
 ∃g',Rel δ g' (s.nw dst o d) (a.put dst v) (w.alloc ob)∧Step g s w g' (s.nw dst o d) (w.alloc ob):=by
 have hfr:=hr.o.fresh s.nx (Nat.le_refl _)
 have hle:g.Le (g.box s.nx w.heap.size):=⟨fun id b hb=>by
  simp only [G.box]
  split
  ·rename_i e;rw [e,hfr.1]at hb;cases hb
  ·exact hb,fun id x l c hk=>⟨x,l,c,hk,Nat.le_refl _,fun _=>⟨rfl,rfl⟩⟩,fun b hb=>hb⟩
 have hρ:(g.box s.nx w.heap.size).ρ s.nx=some w.heap.size:=by simp [G.box]
 obtain⟨h3,h4⟩:=hr.o.add o s.tm hle (fun b hb=>hb) (fun i hi=>by simp [G.box,hi]) (fun i hi=>rfl) (w':=w.alloc ob) (by rw [size_alloc];omega) (fun b hb=>heap_alloc_lt _ _ _ hb)
  (hok _ hle hρ rfl) (fun b hb=>by rw [hbk _ hρ]at hb;cases hb;exact Nat.le_refl _)
 have h5:Rel δ (g.box s.nx w.heap.size) ⟨s.tm,(s.nx,o)::s.os,s.nx+1⟩ a (w.alloc ob):=hr.of h3 h4.tm rfl
 have h6:=h5.put dst (v:=v) (d:=d) (hv _ hρ) hd
 exact⟨_,h6,h4.tm.trans (by cases dst<;>exact⟨.refl _,Nat.le_refl _,fun _ _ _=>rfl,fun _ _ h=>h,fun _ _ _ h=>h, .refl _⟩)⟩
theorem mk_map_sound (hr:Rel δ g s a w) {t:TypeId} {r:Option Operand} (dst:Option Tmp) (hd:∀x,dst=some x→x<a.tmps.size) (h:mkM P s t dst (r.map s.ev)=some s'):
 ∃v w' g',(Instr.makeMap t (r.map a.eval)).run P w= .ok v w'∧Rel δ g' s' (a.put dst v) w'∧Step g s w g' s' w':=by
 have key:∀{ks:List KK},s'=s.nw dst (.map ks []) (.mp s.nx)→
  (Instr.makeMap t (r.map a.eval)).run P w= .ok (.map (some w.heap.size)) (w.alloc (.map #[] 0))→∃v w' g',(Instr.makeMap t (r.map a.eval)).run P w= .ok v w'∧Rel δ g' s' (a.put dst v) w'∧Step g s w g' s' w':=by
  intro ks hs hrun
  obtain⟨g',h1,h2⟩:=new_sound hr (.map ks []) (.map #[] 0) (.mp s.nx) (.map (some w.heap.size)) (fun g' _ hρ _=>⟨_, #[],hρ,heap_alloc_new w _,rfl,by simp,by simp,fun i e x he=>by simp at he⟩) (fun g' hρ=>hρ) (fun g' hρ=> .mp _ _ hρ) dst hd
  rw [hs]
  exact⟨_,_,g',hrun,h1,h2⟩
 unfold mkM at h
 cases hm:mapOf P t with
 |none=>simp [hm]at h
 |some x=>
  obtain⟨ks,z⟩:=x
  obtain⟨kt,e,hu,_⟩:=mapOf_spec hm
  simp only [hm]at h
  cases r with
  |none=>
   simp only [Option.map_none,Option.some.injEq]at h
   exact key h.symm (by simp [Instr.makeMap,Result.andThen_ok])
  |some x=>
   simp only [Option.map_some]at h
   split at h
   ·rename_i h1 h2;cases h2
   ·rename_i k n h1 h2
    cases h1
    cases h
    have hx:=hr.ev x
    simp only [Option.some.injEq]at h2
    rw [h2]at hx
    have hx:=hx.int_inv
    exact key rfl (by simp [Instr.makeMap,Go.run_underlying hu,hx,asInt,asIntOf,Result.andThen_ok])
   ·cases h
theorem it_sound (hr:Rel δ g s a w) {t:TypeId} {kt:TypeId} {e:TypeId} (hu:P.underlying t=some (.map kt e)) {kv:List (List C×List C)} {mv:Value} {ks:List KK} (hm:CRel g.I w mv (.map ks kv)) (dst:Option Tmp) (hd:∀x,dst=some x→x<a.tmps.size):
 ∃v w' g',(Instr.range t mv).run P w= .ok v w'∧Rel δ g' (s.nw dst (.it kv []) (.ref s.nx 0)) (a.put dst v) w'∧Step g s w g' (s.nw dst (.it kv []) (.ref s.nx 0)) w':=by
 cases hm with
 |mapnil=>
  obtain⟨g',h1,h2⟩:=new_sound hr (.it [] []) (.mapIter none 0 #[] 0) (.ref s.nx 0) (.pointer (some ⟨w.heap.size,0,none⟩)) (fun g' _ hρ _=>⟨_,hρ, .inl ⟨rfl,rfl,heap_alloc_new w _⟩⟩) (fun g' hρ=>hρ) (fun g' hρ=> .ref _ _ _ hρ) dst hd
  exact⟨_,_,g',by simp [Instr.range,Go.run_underlying hu,Result.andThen_ok],h1,h2⟩
 |map b _ _ kv' es hI h=>
  have hb:=run_getObj_map (P:=P) h.heap
  obtain⟨g',h1,h2⟩:=new_sound hr (.it kv []) (.mapIter (some b) es.size #[] es.size) (.ref s.nx 0) (.pointer (some ⟨w.heap.size,0,none⟩))
   (fun g' hle hρ hI'=>⟨_,hρ, .inr ⟨b,ks,kv',es, #[],heap_alloc_new w _,by rw [hI'];exact hI,⟨by rw [heap_alloc_lt _ _ _ (hr.o.imm b hI).1];exact h.heap,h.es,h.perm,h.nd,h.fit⟩,rfl,fun i j x hx=>by simp at hx⟩⟩) (fun g' hρ=>hρ) (fun g' hρ=> .ref _ _ _ hρ) dst hd
  exact⟨_,_,g',by simp [Instr.range,Go.run_underlying hu,Result.andThen_ok,hb],h1,h2⟩
theorem kvC_spec:∀{kv:List (List C×D)} {kv':List (List C×List C)},kvC kv=some kv'→kv'.length=kv.length∧kv'.map (·.1)=kv.map (·.1)∧∀(i:Nat) (x:List C×D) (y:List C×List C),kv[i]? =some x→kv'[i]? =some y→x.1=y.1∧flatD x.2=some y.2
 |[],kv',h=>by
  simp only [kvC,Option.some.injEq]at h
  subst h
  exact⟨rfl,rfl,fun i x y hx=>by simp at hx⟩
 |(k,d)::l,kv',h=>by
  simp only [kvC]at h
  split at h
  ·rename_i v r h1 h2
   cases h
   obtain⟨h3,h4,h5⟩:=kvC_spec h2
   refine⟨by simp [h3],by simp [h4],fun i x y hx hy=> ?_⟩
   cases i with
   |zero=>simp at hx hy;subst hx;subst hy;exact⟨rfl,h1⟩
   |succ i=>exact h5 i x y (by simpa using hx) (by simpa using hy)
  ·cases h
theorem map_frz {id:Nat} {kt:List KK} {kv:List (List C×D)} {kv' kv'':List (List C×List C)} (h:OK g w id (.map kt kv)) (hc:kvC kv=some kv') (hp:List.Perm kv' kv''):∃b es,g.ρ id=some b∧MapAt w b kt kv'' kv' es:=by
 obtain⟨b,es,h1,h2,h3,h4,h5,h6⟩:=h
 obtain⟨h7,h8,h9⟩:=kvC_spec hc
 have each:∀(i:Nat) (e:MapEntry) (y:List C×List C),es[i]? =some e→kv'[i]? =some y→e.key=valOf y.1∧e.val=valOf y.2∧e.born=i∧kfit kt y.1=true∧y.2.all C.flat=true:=fun i e y he hy=>by
  have hi:i<kv.length:=by have:=(List.getElem?_eq_some_iff.1 hy).1;omega
  have hx:=List.getElem?_eq_getElem hi
  obtain⟨q1,q2⟩:=h9 i _ y hx hy
  obtain⟨q3,q4,q5⟩:=h6 i e _ he hx
  obtain⟨q6,q7⟩:=flatD_val q5 q2
  exact⟨by rw [q3,q1],q6,q4,by rw [←q1];exact h5 _ (List.getElem_mem hi),q7⟩
 refine⟨b,es,h1,h2,⟨by omega,fun i e y he hy=>⟨(each i e y he hy).1,(each i e y he hy).2.1,(each i e y he hy).2.2.1⟩⟩,hp, ?_,fun y hy=> ?_⟩
 ·rw [←(hp.map _).nodup_iff,h8];exact h4
 ·obtain⟨i,hi,rfl⟩:=List.getElem_of_mem (hp.mem_iff.2 hy)
  have:=each i _ _ (Array.getElem?_eq_getElem (by omega)) (List.getElem?_eq_getElem hi)
  exact⟨this.2.2.2.1,this.2.2.2.2⟩
theorem rng_sound (hr:Rel δ g s a w) {t:TypeId} {m:D} {mv:Value} (hm:VRel g w mv m) (dst:Option Tmp) (hd:∀x,dst=some x→x<a.tmps.size) (h:rngM P s t dst m=some s'):
 ∃v w' g',(Instr.range t mv).run P w= .ok v w'∧Rel δ g' s' (a.put dst v) w'∧Step g s w g' s' w':=by
 unfold rngM at h
 split at h
 case h_2=>cases h
 rename_i x hx
 obtain⟨ks,z⟩:=x
 obtain⟨kt,e,hu,_⟩:=mapOf_spec hx
 split at h
 ·cases h
  cases hm
  exact it_sound hr hu (.mapnil []) dst hd
 ·cases h
  cases hm with
  |c _ _ hm=>exact it_sound hr hu hm dst hd
 ·rename_i id
  split at h
  case h_2=>cases h
  rename_i kt' kvl hl
  split at h
  case h_2=>cases h
  rename_i kv' hkv
  cases h
  cases hm with
  |mp b _ hb=>
  obtain⟨b',es,h1,h2⟩:=map_frz (hr.o.ok _ _ hl) hkv (.refl _)
  rw [hb]at h1;cases h1
  obtain⟨h3,h4⟩:=hr.o.give [id]
  have hr':Rel δ (g.imm fun b=>g.I b∨∃i∈[id],∃o,lk i s.os=some o∧g.blk i o=some b) ⟨s.tm,rmv s.os [id],s.nx⟩ a w:=hr.of h3.tm h4 rfl
  obtain⟨v,w',g',h5,h6,h7⟩:=it_sound (P:=P) (kv:=kv') (mv:= .map (some b)) (ks:=kt') hr' hu (.map b _ _ kv' es (.inr ⟨id,by simp,_,hl,hb⟩) h2) dst hd
  exact⟨v,w',g',h5,h6,Step.trans (s':=⟨s.tm,rmv s.os [id],s.nx⟩) h4.tm h7⟩
 ·cases h
theorem itM_spec {x:D} {id:Nat} {kv seen:List (List C×List C)} (h:itM s x=some (id,kv,seen)):x= .ref id 0∧lk id s.os=some (.it kv seen):=by
 unfold itM at h
 split at h
 ·split at h
  ·rename_i hl;cases h;exact⟨rfl,hl⟩
  ·cases h
 ·cases h
theorem run_next_nil {w:World} {b:Nat} (hb:w.heap[b]? =some (.mapIter none 0 #[] 0)) (ty:TypeId):(Instr.next (.pointer (some ⟨b,0,none⟩)) false ty).run P w= .ok (.tuple #[.bool false]) w:=by
 have:(getObj b).run P w= .ok (.mapIter none 0 #[] 0) w:=by simp [getObj,Sem.run,hb]
 simp [Instr.next,this,Result.andThen_ok]
theorem choose_map (w:World) (n:Nat) (hn:0<n):∃c w',c<n∧(w'=w∨w'={w with drawn:=w.drawn+1})∧(choose (.mapNext n)).run P w= .ok c w':=by
 by_cases hf:(Question.mapNext n).forced=true
 ·refine⟨0,w,hn, .inl rfl, ?_⟩
  simp [choose,Sem.run,hf]
 ·refine⟨w.tape w.drawn (.mapNext n) % n,_,Nat.mod_lt _ hn, .inr rfl, ?_⟩
  simp [choose,Sem.run,hf,Question.cut]
theorem run_next_map {w:World} {b mb:Nat} {es:Array MapEntry} {ix:Array Nat} (hb:w.heap[b]? =some (.mapIter (some mb) es.size ix es.size)) (hm:w.heap[mb]? =some (.map es es.size)) (hbn:∀(i:Nat) (e:MapEntry),es[i]? =some e→e.born=i) (ty:TypeId):
 ((∀(i:Nat),i<es.size→i∈ix)∧(Instr.next (.pointer (some ⟨b,0,none⟩)) false ty).run P w= .ok (.tuple #[.bool false]) w)∨
 ∃i e w1,es[i]? =some e∧i∉ix∧(w1=w∨w1={w with drawn:=w.drawn+1})∧
  (Instr.next (.pointer (some ⟨b,0,none⟩)) false ty).run P w= .ok (.tuple #[.bool true,e.key,e.val]) {w1 with heap:=w1.heap.setIfInBounds b (.mapIter (some mb) es.size (ix.push i) es.size)}:=by
 have h1:(getObj b).run P w= .ok (.mapIter (some mb) es.size ix es.size) w:=by simp [getObj,Sem.run,hb]
 have h2:=run_getObj_map (P:=P) hm
 have hmem:∀e∈es,e.born<es.size∧es[e.born]? =some e:=fun e he=>by
  obtain⟨i,hi,rfl⟩:=Array.getElem_of_mem he
  have h3:=Array.getElem?_eq_getElem hi
  rw [hbn i _ h3]
  exact⟨hi,h3⟩
 have hall:(!ix.isEmpty&& !es.isEmpty&&es.all (·.born≥es.size))=false:=by
  by_cases he:es.isEmpty=true
  ·simp [he]
  ·have:es.all (fun x=>decide (x.born≥es.size))=false:=by
    have hp:0<es.size:=by
     rcases Nat.eq_zero_or_pos es.size with h|h
     ·exact absurd (by simpa using h) he
     ·exact h
    rw [Bool.eq_false_iff]
    intro hc
    rw [Array.all_eq_true]at hc
    have:=hc 0 hp
    have h4:=(hmem es[0] (Array.getElem_mem hp)).1
    simp at this
    omega
   simp [this]
 have hold:(es.filter fun e=> !ix.contains e.born).filter (fun e=>decide (e.born<es.size))=es.filter fun e=> !ix.contains e.born:=by
  rw [Array.filter_eq_self]
  intro e he
  simp only [decide_eq_true_eq]
  exact(hmem e (Array.mem_filter.1 he).1).1
 have hnew:(es.filter fun e=> !ix.contains e.born).filter (fun e=>decide (e.born≥es.size))= #[]:=by
  rw [Array.filter_eq_empty_iff]
  intro e he
  have:=(hmem e (Array.mem_filter.1 he).1).1
  simp;omega
 by_cases hemp:(es.filter fun e=> !ix.contains e.born).isEmpty=true
 ·left
  have he0:(es.filter fun e=> !ix.contains e.born)= #[]:=by simpa using hemp
  refine⟨fun i hi=> ?_, ?_⟩
  ·have:=(Array.filter_eq_empty_iff.1 he0) es[i] (Array.getElem_mem hi)
   rw [hbn i _ (Array.getElem?_eq_getElem hi)]at this
   simpa using this
  ·have hf:(Question.mapNext 1).forced=true:=rfl
   have hch:(choose (.mapNext 1)).run P w= .ok 0 w:=by simp [choose,Sem.run,hf]
   simp only [Instr.next,Sem.run_bind,h1,Result.andThen_ok,h2,hall,Bool.false_eq_true,if_false,Sem.run_pure,hold,hnew,he0]
   simp [hch,Result.andThen_ok,hf]
 ·right
  have hl:0<(es.filter fun e=> !ix.contains e.born).size:=by
   rcases Nat.eq_zero_or_pos (es.filter fun e=> !ix.contains e.born).size with h|h
   ·exact absurd (by simpa using h) hemp
   ·exact h
  obtain⟨c,w1,hc,hw1,hch⟩:=choose_map (P:=P) w (es.filter fun e=> !ix.contains e.born).size hl
  have hget:=Array.getElem?_eq_getElem hc
  generalize hee:(es.filter fun e=> !ix.contains e.born)[c]=e at hget
  have hein:e∈es.filter fun e=> !ix.contains e.born:=by rw [←hee];exact Array.getElem_mem hc
  obtain⟨he1,he2⟩:=Array.mem_filter.1 hein
  refine⟨e.born,e,w1,(hmem e he1).2,by simpa using he2,hw1, ?_⟩
  have h5:w1.heap[b]? =some (.mapIter (some mb) es.size ix es.size):=by rcases hw1 with rfl|rfl<;>exact hb
  have hset:(setObj b (.mapIter (some mb) es.size (ix.push e.born) es.size)).run P w1= .ok () {w1 with heap:=w1.heap.setIfInBounds b (.mapIter (some mb) es.size (ix.push e.born) es.size)}:=by simp [setObj,Sem.run,h5]
  have hsz:((if(es.filter fun(e:MapEntry)=> !ix.contains e.born).isEmpty=true then #[none]else #[])++((es.filter fun(e:MapEntry)=> !ix.contains e.born)++ #[]).map some:Array (Option MapEntry))=(es.filter fun(e:MapEntry)=> !ix.contains e.born).map some:=by
   rw [if_neg hemp];simp
  simp only [Instr.next,Sem.run_bind,h1,Result.andThen_ok,h2,hall,Bool.false_eq_true,if_false,Sem.run_pure,hold,hnew,hsz,Array.size_map,hch,Array.getElem?_map,hget,Option.map_some,hset]
theorem next_sound (hr:Rel δ g s a w) {x:D} {xv:Value} (hx:VRel g w xv x) (dst:Option Tmp) (hd:∀x,dst=some x→x<a.tmps.size) {K:St→Prop} (h:okN (itM s x) dst s K) (ty:TypeId):
 ∃v w' s',(Instr.next xv false ty).run P w= .ok v w'∧K s'∧Rel δ g s' (a.put dst v) w'∧Step g s w g s' w':=by
 unfold okN at h
 split at h
 case h_2=>cases h
 rename_i id kv seen hi
 obtain⟨rfl,hl⟩:=itM_spec hi
 obtain⟨hK1,hK2⟩:=h
 cases hx with
 |ref b _ _ hb=>
 obtain⟨b',h1,h2⟩:=hr.o.ok _ _ hl
 rw [hb]at h1;cases h1
 have hfalse:∀{w':World},VRel g w' (.tuple #[.bool false]) (.tup [.bool false]):=fun{w'}=> .tup _ _ rfl fun i u e hu he=>by
  match i,hu,he with
  |0,hu,he=>simp at hu he;subst hu;subst he;exact .c _ _ (.bool _)
  |i+1,hu,he=>simp at hu
 rcases h2 with⟨rfl,rfl,h2⟩|⟨mb,kt,kv',es,ix,h2,h3,h4,h5,h6⟩
 ·exact⟨_,_,_,run_next_nil h2 ty,hK2 (fun y hy=>by cases hy),hr.put dst hfalse hd,by cases dst<;>exact⟨.refl _,Nat.le_refl _,fun _ _ _=>rfl,fun _ _ h=>h,fun _ _ _ h=>h, .refl _⟩⟩
 ·have hnd':(kv'.map (·.1)).Nodup:=(h4.perm.map _).nodup_iff.2 h4.nd
  have hinj:∀(i j:Nat) (y:List C×List C),kv'[i]? =some y→kv'[j]? =some y→i=j:=fun i j y hi hj=>by
   have h7:=(List.getElem?_eq_some_iff.1 hi).1
   have h8:=(List.getElem?_eq_some_iff.1 hj).1
   have e1:(kv'.map (·.1))[i]'(by simpa using h7)=(kv'.map (·.1))[j]'(by simpa using h8):=by
    simp only [List.getElem_map]
    rw [(List.getElem?_eq_some_iff.1 hi).2,(List.getElem?_eq_some_iff.1 hj).2]
   exact(List.getElem_inj hnd').1 e1
  rcases run_next_map h2 h4.heap (fun i e he=>by
   have hlt:i<kv'.length:=by have:=(Array.getElem?_eq_some_iff.1 he).1;have:=h4.es.1;omega
   exact(h4.es.2 i e _ he (List.getElem?_eq_getElem hlt)).2.2) ty with⟨h7,h8⟩|⟨i,e,w1,h7,h8,h9,h10⟩
  ·refine⟨_,_,_,h8,hK2 (fun y hy=> ?_),hr.put dst hfalse hd,by cases dst<;>exact⟨.refl _,Nat.le_refl _,fun _ _ _=>rfl,fun _ _ h=>h,fun _ _ _ h=>h, .refl _⟩⟩
   obtain⟨i,hi,rfl⟩:=List.getElem_of_mem (h4.perm.mem_iff.2 hy)
   obtain⟨j,hj,hji⟩:=Array.getElem_of_mem (h7 i (by rw [h4.es.1];exact hi))
   have hjs:j<seen.length:=by omega
   have:=h6 j i _ (by rw [Array.getElem?_eq_getElem hj,hji]) (List.getElem?_eq_getElem hjs)
   rw [List.getElem?_eq_getElem hi]at this
   rw [Option.some.inj this]
   exact List.getElem_mem hjs
  ·have hlt:i<kv'.length:=by have:=(Array.getElem?_eq_some_iff.1 h7).1;have:=h4.es.1;omega
   have hy:=List.getElem?_eq_getElem hlt
   generalize kv'[i]=y at hy
   obtain⟨q1,q2,q3⟩:=h4.es.2 i e y h7 hy
   have hyk:y∈kv:=h4.perm.mem_iff.1 (List.mem_of_getElem? hy)
   have hns:y∉seen:=fun hs=>by
    obtain⟨j,hj,hjy⟩:=List.getElem_of_mem hs
    have hji:j<ix.size:=by omega
    have:=h6 j _ _ (Array.getElem?_eq_getElem hji) (List.getElem?_eq_getElem hj)
    rw [hjy]at this
    have:=hinj _ _ _ this hy
    exact h8 (by rw [←this];exact Array.getElem_mem hji)
   have hw1:w1.heap=w.heap:=by rcases h9 with rfl|rfl<;>rfl
   have hset:=heap_set (o':=Obj.mapIter (some mb) es.size (ix.push i) es.size) h2
   have hblk:g.blk id (.it kv seen)=some b:=hb
   have hs:∀b',b'<w.heap.size→g.blk id (.it kv seen)≠some b'→(w1.heap.setIfInBounds b (.mapIter (some mb) es.size (ix.push i) es.size))[b']? =w.heap[b']? :=fun b' _ hne=>by
    rw [hw1];exact hset.2 b' fun e=>hne (by rw [e];exact hblk)
   have hmb:(w1.heap.setIfInBounds b (.mapIter (some mb) es.size (ix.push i) es.size))[mb]? =w.heap[mb]? :=hs mb (hr.o.imm mb h3).1 fun e=>(hr.o.imm mb h3).2 ⟨id,_,hl,e⟩
   obtain⟨r1,r2⟩:=hr.o.replace hl (.it kv (seen++[y])) s.tm (.refl g) (fun b hb=>hb) (fun i _=>rfl) (fun i _=>rfl) (w':={w1 with heap:=w1.heap.setIfInBounds b (.mapIter (some mb) es.size (ix.push i) es.size)}) (by simp [hw1]) hs
    ⟨b,hb, .inr ⟨mb,kt,kv',es,ix.push i,by rw [hw1];exact hset.1,h3,⟨by rw [hmb];exact h4.heap,h4.es,h4.perm,h4.nd,h4.fit⟩,by simp [h5],fun k j x hk hx=>by
     rw [Array.getElem?_push]at hk
     rw [List.getElem?_append]at hx
     split at hk
     ·rename_i he
      subst he
      cases hk
      rw [if_neg (by omega)]at hx
      have:x=y:=by simpa [h5]using hx.symm
      subst this
      exact hy
     ·have:=(Array.getElem?_eq_some_iff.1 hk).1
      rw [if_pos (by omega)]at hx
      exact h6 k j x hk hx⟩⟩ (fun b' hb'=> .inl hb') (by rcases h9 with rfl|rfl<;>first|exact⟨rfl,rfl,rfl,Nat.le_refl _⟩|exact⟨rfl,rfl,rfl,Nat.le_succ _⟩)
   have r3:Rel δ g {s with os:=upd id (.it kv (seen++[y])) s.os} a {w1 with heap:=w1.heap.setIfInBounds b (.mapIter (some mb) es.size (ix.push i) es.size)}:=hr.of r1 r2.tm rfl
   have hfit:=h4.fit y hyk
   have htup:∀{w':World},VRel g w' (.tuple #[.bool true,e.key,e.val]) (.tup [.bool true,dOf y.1,dOf y.2]):=fun{w'}=> .tup _ _ rfl fun i u e hu he=>by
    match i,hu,he with
    |0,hu,he=>simp at hu he;subst hu;subst he;exact .c _ _ (.bool _)
    |1,hu,he=>simp at hu he;subst hu;subst he;rw [q1];exact valOf_rel (kfit_flat hfit.1)
    |2,hu,he=>simp at hu he;subst hu;subst he;rw [q2];exact valOf_rel hfit.2
    |i+3,hu,he=>simp at hu
   exact⟨_,_,_,h10,hK1 y hyk hns,r3.put dst htup hd,r2.tm.trans (by cases dst<;>exact⟨.refl _,Nat.le_refl _,fun _ _ _=>rfl,fun _ _ h=>h,fun _ _ _ h=>h, .refl _⟩)⟩
theorem entry_sound (hr:Rel δ g s a w) {x d:D} {xv:Value} (hx:VRel g w xv x) (h:enM s x=some d):∃v,(Instr.entry xv).run P w= .ok v w∧VRel g w v d:=by
 unfold enM at h
 split at h
 case h_2=>cases h
 rename_i id kv seen hi
 split at h
 case h_2=>cases h
 rename_i y hy
 cases h
 obtain⟨rfl,hl⟩:=itM_spec hi
 cases hx with
 |ref b _ _ hb=>
 obtain⟨b',h1,h2⟩:=hr.o.ok _ _ hl
 rw [hb]at h1;cases h1
 rcases h2 with⟨rfl,rfl,h2⟩|⟨mb,kt,kv',es,ix,h2,h3,h4,h5,h6⟩
 ·simp at hy
 ·have hne:0<seen.length:=by
   rcases Nat.eq_zero_or_pos seen.length with h|h
   ·have:seen=[]:=List.eq_nil_of_length_eq_zero h
    subst this;simp at hy
   ·exact h
  have hlast:seen[seen.length - 1]? =some y:=by rw [←hy,List.getLast?_eq_getElem?]
  have hixl:ix.size - 1<ix.size:=by omega
  have hix:=Array.getElem?_eq_getElem hixl
  generalize ix[ix.size - 1]=j at hix
  have hkj:=h6 _ j y hix (by rw [h5];exact hlast)
  have hjl:j<es.size:=by have:=(List.getElem?_eq_some_iff.1 hkj).1;have:=h4.es.1;omega
  obtain⟨q1,q2,q3⟩:=h4.es.2 j _ y (Array.getElem?_eq_getElem hjl) hkj
  have h7:(getObj b).run P w= .ok (.mapIter (some mb) es.size ix es.size) w:=by simp [getObj,Sem.run,h2]
  have h8:=run_getObj_map (P:=P) h4.heap
  have hback:ix.back?=some j:=by rw [Array.back?,hix]
  have hfind:es.find? (fun e=>e.born==j)=some es[j]:=by
   rw [Array.find?_eq_some_iff_getElem]
   refine⟨by simpa using q3,j,hjl,rfl,fun k hk=> ?_⟩
   have hkl:k<kv'.length:=by have:=h4.es.1;omega
   have:=(h4.es.2 k _ _ (Array.getElem?_eq_getElem (by omega)) (List.getElem?_eq_getElem hkl)).2.2
   simp [this];omega
  have hfit:=h4.fit y (h4.perm.mem_iff.1 (List.mem_of_getElem? hkj))
  refine⟨.tuple #[es[j].key,es[j].val],by simp [Instr.entry,h7,h8,hback,hfind,Result.andThen_ok], .tup _ _ rfl fun i u e hu he=> ?_⟩
  match i,hu,he with
  |0,hu,he=>simp at hu he;subst hu;subst he;rw [q1];exact valOf_rel (kfit_flat hfit.1)
  |1,hu,he=>simp at hu he;subst hu;subst he;rw [q2];exact valOf_rel hfit.2
  |i+2,hu,he=>simp at hu
end
open Go
section
variable {δ:List Deferred} {P:Program} {T:Tab} {g g':G} {s:St} {a:Act} {w w':World} {n:Nat}
def Aft (δ:List Deferred) (n:Nat) (g:G) (s:St) (w:World) (K:St→Prop):Act→World→Prop:=
 fun a' w'=>∃g' s',K s'∧Rel δ g' s' a' w'∧a'.tmps.size=n∧Step g s w g' s' w'
theorem Oper.wp_val {o:Oper} {next:Act→World→Prop} {Q:Exit→Act→World→Prop} {v:Value} (h:(execOp a.eval o).run P w= .ok (.value v) w') (hn:next (a.put o.dst v) w'):o.wp P a w next Q:=by
 unfold Oper.wp
 rw [h]
 exact hn
theorem Oper.wp_skip {o:Oper} {next:Act→World→Prop} {Q:Exit→Act→World→Prop} (h:(execOp a.eval o).run P w= .ok .skip w') (hn:next (a.put o.dst undef) w'):o.wp P a w next Q:=by
 unfold Oper.wp
 rw [h]
 exact hn
theorem Step.put {d:D} (t:Option Tmp):Step g s w g (s.put t d) w:=by
 cases t<;>exact⟨.refl g,Nat.le_refl _,fun _ _ _=>rfl,fun _ _ h=>h,fun _ _ _ h=>h, .refl w⟩
theorem Aft.put (hr:Rel δ g s a w) (hn:a.tmps.size=n) {K:St→Prop} {t:Option Tmp} (ht:∀x,t=some x→x<n) {v:Value} {d:D} (hv:VRel g w v d) (hK:K (s.put t d)):Aft δ n g s w K (a.put t v) w:=
 ⟨g,s.put t d,hK,hr.put t hv (fun x hx=>by rw [hn];exact ht x hx),by rw [put_size,hn],Step.put t⟩
theorem RelO.ext (ho:RelO g s w) (he:Ext w w'):RelO g s w'∧Step g s w g s w':=
 ⟨⟨fun id o h=>(ho.ok id o h).mono (fun b hb=>he.2.1 b (ho.imm b hb).1) (.refl g) (fun b hb=>he.2.1 b ((ho.ok id o h).lt.1 b hb)) rfl,ho.apart,ho.fresh,fun b hb=>⟨Nat.lt_of_lt_of_le (ho.imm b hb).1 he.1,(ho.imm b hb).2⟩,ho.cel.same fun b hb=>he.2.1 b (ho.imm b hb).1⟩,
   ⟨.refl g,he.1,fun b hb _=>he.2.1 b hb,fun _ _ h=>h,fun _ _ _ h=>h,he.2.2⟩⟩
theorem frb_sound {f:FuncId} (h:frb P f) (n:Int):(callFunc f #[.int .u64 n]).run P w= .ok (.value (.float .f64 n.toNat)) w:=by
 obtain⟨fn,h1,h2,h3,h4,h5⟩:=h
 have h2':¬fn.name= "runtime.NumGoroutine" :=by simpa using h2
 have h3':fn.body=none:=by simpa using h3
 have h4':Extern.findNext fn=none:=by simpa using h4
 have e:Extern.MathFloatBits.float64frombits #[.int .u64 n]=pure (.float .f64 n.toNat):=rfl
 simp [callFunc,h1,h2',h3',h4',h5,e]
theorem sb64_sound {f:FuncId} (h:sb64 P f) (x y b:Int) (hb:b=0):(callFunc f #[.int .u64 x, .int .u64 y, .int .u64 b]).run P w= .ok (.value (.tuple #[.int .u64 (((x.toNat+18446744073709551616 - y.toNat - b.toNat) % 18446744073709551616:Nat):Int), .int .u64 (if x.toNat<y.toNat+b.toNat then 1 else 0)])) w:=by
 obtain⟨fn,h1,h2,h3,h4,h5⟩:=h
 have h2':¬fn.name= "runtime.NumGoroutine" :=by simpa using h2
 have h3':fn.body=none:=by simpa using h3
 have h4':Extern.findNext fn=none:=by simpa using h4
 subst hb
 have e0:(Extern.MathBitsCarry.three "Sub64" #[.int .u64 x, .int .u64 y, .int .u64 0]).run P w= .ok (x.toNat,y.toNat,0) w:=rfl
 have e:(sub64F #[.int .u64 x, .int .u64 y, .int .u64 0]).run P w= .ok (.tuple #[.int .u64 (((x.toNat+18446744073709551616 - y.toNat - (0:Int).toNat) % 18446744073709551616:Nat):Int), .int .u64 (if x.toNat<y.toNat+(0:Int).toNat then 1 else 0)]) w:=by
  show Sem.run P (bind (Extern.MathBitsCarry.three "Sub64" #[.int .u64 x, .int .u64 y, .int .u64 0]) _) w=_
  rw [Sem.run_bind,e0]
  simp only [Result.andThen_ok,Sem.run_pure,Extern.MathBitsCarry.pair,Extern.MathBitsCarry.m64]
  congr 3
  show [Value.int .u64 _,Value.int .u64 _]=[Value.int .u64 _,Value.int .u64 _]
  congr 3
  have:(0:Int).toNat=0:=rfl
  rw [this]
  split<;>rfl
 simp [callFunc,h1,h2',h3',h4',h5,e]
theorem map_rel (hr:Rel δ g s a w) (xs:Array Operand):(xs.map a.eval).size=(xs.toList.map s.ev).length∧∀(i:Nat) (v:Value) (d:D),(xs.map a.eval)[i]? =some v→(xs.toList.map s.ev)[i]? =some d→VRel g w v d:=by
 refine⟨by simp,fun i v d hv hd=> ?_⟩
 simp only [Array.getElem?_map,Option.map_eq_some_iff]at hv
 obtain⟨x,hx,rfl⟩:=hv
 simp only [List.getElem?_map,Array.getElem?_toList,hx,Option.map_some,Option.some.injEq]at hd
 subst hd
 exact hr.ev x
theorem parts_rel (hr:Rel δ g s a w) (ps:Array (Nat×Operand)):(ps.map fun(i,x)=>(i,a.eval x)).toList.length=(ps.toList.map fun(i,x)=>(i,s.ev x)).length∧
 ∀(k:Nat) (i:Nat) (v:Value) (j:Nat) (d:D),(ps.map fun(i,x)=>(i,a.eval x)).toList[k]? =some (i,v)→(ps.toList.map fun(i,x)=>(i,s.ev x))[k]? =some (j,d)→i=j∧VRel g w v d:=by
 refine⟨by simp,fun k i v j d hv hd=> ?_⟩
 simp only [Array.toList_map,List.getElem?_map,Option.map_eq_some_iff,Prod.mk.injEq]at hv hd
 obtain⟨⟨i',x⟩,hx,rfl,rfl⟩:=hv
 obtain⟨⟨j',y⟩,hy,rfl,rfl⟩:=hd
 rw [hx]at hy
 cases hy
 exact⟨rfl,hr.ev x⟩
theorem run_call_value {c:Call} {f:Operand} (hc:c.callee= .value f) {o:Oper} (ho:o.op= .call c) {gf:FuncId} {fi ca:Array Value} (hf:a.eval f= .func (.func gf) fi ca) {fn:Func} (h1:P.funcs[gf]? =some fn) (h2:(fn.name== "runtime.NumGoroutine")=false) (h3:fn.body.isNone=false):
 (execOp a.eval o).run P w= .ok (.enter gf (fi++c.args.map a.eval++ca)) w:=by
 unfold execOp
 have h2':¬fn.name= "runtime.NumGoroutine" :=by simpa using h2
 have h3':¬fn.body=none:=fun e=>by rw [e]at h3;simp at h3
 simp [ho,resolve,hc,hf,Deferred.ofValue,invoke,callFunc,h1,h2',h3']
theorem app8_sound {t:TypeId} {x:D} {d:Option Nat} (hr:Rel δ g s a w):∃g',Rel δ g' (app8 P t x d s) a w∧Step g s w g' (app8 P t x d s) w:=by
 have triv:∃g',Rel δ g' s a w∧Step g s w g' s w:=⟨g,hr, .refl _ _ _⟩
 unfold app8
 split
 ·split
  ·split
   ·split
    ·rename_i u
     unfold frzS
     split
     ·rename_i id k hl
      split
      ·rename_i hd z el els ho
       split
       ·rename_i e1
        obtain⟨v,hv,hvr⟩:=hr.tm u _ hl
        obtain⟨g1,hr1,hv1,hst,htm⟩:=frz_sound (d':= .c (.sl els)) (s':=⟨s.tm,rmv s.os [id],s.nx⟩) hr hvr (by simp [Dm.frz,ho,e1])
        refine⟨g1,⟨fun i d hu=> ?_,hr1.defers,hr1.o.tm⟩,hst.tm⟩
        simp only [lk_upd]at hu
        split at hu
        ·rename_i hc
         cases hu
         rw [hc.1]
         exact⟨_,hv,hv1⟩
        ·exact hr1.tm i d hu
       ·exact triv
      ·exact triv
     ·exact triv
    ·exact triv
   ·exact triv
  ·exact triv
 ·exact triv
theorem aop_sound (hT:TabS P T) (o:Oper) (hd:∀x,o.dst=some x→x<n) {K:St→Prop} (h:aop P T o s K) (hr:Rel δ g s a w) (hn:a.tmps.size=n) (Q:Exit→Act→World→Prop):
 o.wp P a w (Aft δ n g s w K) Q:=by
 have hd':∀x,o.dst=some x→x<a.tmps.size:=fun x hx=>by rw [hn];exact hd x hx
 unfold aop at h
 split at h
 ·rename_i x ho
  exact Oper.wp_val (by unfold execOp;simp only [ho];rfl) (Aft.put hr hn hd (hr.ev x) h)
 ·rename_i x ho
  exact Oper.wp_val (by unfold execOp;simp only [ho];rfl) (Aft.put hr hn hd (hr.ev x) h)
 ·rename_i c x y ho
  unfold pk at h
  split at h
  ·rename_i b hb
   have hc:=hr.ev c
   rw [hb]at hc
   have hc':=hc.bool_inv
   cases b with
   |true=>exact Oper.wp_val (by unfold execOp;simp [ho,hc',asBool]) (Aft.put hr hn hd (hr.ev x) (h.1 rfl))
   |false=>exact Oper.wp_val (by unfold execOp;simp [ho,hc',asBool]) (Aft.put hr hn hd (hr.ev y) (h.2 rfl))
  ·cases h
 ·rename_i t ho
  unfold okB at h
  split at h
  ·rename_i z hz
   split at h
   ·rename_i cs hc
    unfold zOf at hz
    cases hi:P.info? t with
    |none=>simp [hi]at hz
    |some i=>
     cases hzz:i.zero with
     |none=>simp [hi,hzz]at hz
     |some v=>
      simp only [hi,hzz,Option.some.injEq]at hz
      obtain⟨g',h1,h2⟩:=box_sound hr (v:=v) (d:=z) (by rw [←hz];exact valD_rel v) hc t o.dst hd'
      exact Oper.wp_val (w':=w.alloc (.cells v.cells t)) (v:= .pointer (some ⟨w.heap.size,0,none⟩)) (by unfold execOp;simp [ho,Instr.alloc,zeroValue,typeInfo,hi,hzz,newVar,newRow]) ⟨g',_,h,h1,by rw [put_size,hn],h2⟩
   ·cases h
  ·cases h
 ·rename_i t x ho
  unfold okB at h
  split at h
  ·rename_i z hz
   cases hz
   split at h
   ·rename_i cs hc
    obtain⟨g',h1,h2⟩:=box_sound hr (hr.ev x) hc t o.dst hd'
    exact Oper.wp_val (w':=w.alloc (.cells (a.eval x).cells t)) (v:= .pointer (some ⟨w.heap.size,0,none⟩)) (by unfold execOp;simp [ho,Instr.box,newVar,newRow]) ⟨g',_,h,h1,by rw [put_size,hn],h2⟩
   ·cases h
  ·cases h
 ·rename_i t ps ho
  unfold okD at h
  split at h
  ·rename_i d hb
   obtain⟨h1,h2⟩:=parts_rel hr ps
   obtain⟨r,h3,h4⟩:=build_sound h1 h2 hb (ps.map fun(i,x)=>(i,a.eval x)) rfl
   have h3:=h3.here
   exact Oper.wp_val (by unfold execOp;simp [ho,h3]) (Aft.put hr hn hd h4 h)
  ·cases h
 ·rename_i t k ps ho
  unfold okV at h
  split at h
  ·rename_i z e els hb
   obtain⟨h1,h2⟩:=parts_rel hr ps
   obtain⟨r,w',g',h3,h4,h5⟩:=bsl_sound hr h1 h2 hb (ps.map fun(i,x)=>(i,a.eval x)) rfl o.dst hd'
   exact Oper.wp_val (by unfold execOp;simp [ho,h3]) ⟨g',_,h,h4,by rw [put_size,hn],h5⟩
  ·cases h
 ·rename_i t x ho
  unfold okD at h
  split at h
  ·rename_i d hl
   obtain⟨r,h1,h2⟩:=hr.load (hr.ev x) hl
   have h1:=h1.here
   exact Oper.wp_val (by unfold execOp;simp [ho,h1]) (Aft.put hr hn hd h2 h)
  ·cases h
 ·rename_i t p x ho
  unfold okS at h
  split at h
  ·rename_i s' hl
   obtain⟨w',g',h1,h2,h3⟩:=store_sound hr (hr.ev p) (hr.ev x) hl
   refine Oper.wp_skip (w':=w') (by unfold execOp;simp [ho,h1]) ⟨g',_,h,h2.put o.dst .skip hd',by rw [put_size,hn],h3.trans (Step.put _)⟩
  ·cases h
 ·rename_i x ho
  unfold nchk at h
  have hx:=hr.ev x
  generalize hxv:a.eval x=xv at hx
  split at h
  ·rename_i id off he
   rw [he]at hx
   have hx':=hx
   cases hx' with
   |ref b _ _ hb=>exact Oper.wp_val (by unfold execOp;simp [ho,hxv]) (Aft.put hr hn hd hx h)
  ·rename_i id m sz i off he
   rw [he]at hx
   have hx':=hx
   cases hx' with
   |eref=>exact Oper.wp_val (by unfold execOp;simp [ho,hxv]) (Aft.put hr hn hd hx h)
  ·rename_i cs he
   rw [he]at hx
   have hx':=hx
   cases hx' with
   |rp=>exact Oper.wp_val (by unfold execOp;simp [ho,hxv]) (Aft.put hr hn hd hx h)
  ·rename_i f fi ca he
   rw [he]at hx
   have hx':=hx
   cases hx' with
   |fn=>exact Oper.wp_val (by unfold execOp;simp [ho,hxv]) (Aft.put hr hn hd hx h)
  ·cases h
 ·rename_i op t x y ty ho
  unfold okU at h
  split at h
  ·rename_i neg c0 hq
   obtain⟨b,h1,h2⟩:=nilq_sound op t (hr.ev x) (hr.ev y) hq x y
   have h2:=h2.here
   exact Oper.wp_val (by unfold execOp;simp only [ho];rw [Sem.run_bind,h2];rfl) (Aft.put hr hn hd (.c _ _ (.bool _)) (h b h1))
  unfold okA at h
  split at h
  ·rename_i d hb
   obtain⟨r,w',h1,h2,h3,h4⟩:=fa_sound (P:=P) op t (hr.ev x) (hr.ev y) hb
   have hext:Ext w w':=by rcases h2 with rfl|rfl<;>first|exact .refl _|exact⟨Nat.le_refl _,fun _ _=>rfl,rfl,rfl,rfl,Nat.le_succ _⟩
   obtain⟨h5,h6⟩:=hr.o.ext hext
   exact Oper.wp_val (w':=w') (v:=r) (by unfold execOp;simp only [ho];rw [Sem.run_bind,Sem.run_bind,h3];simp only [Result.andThen_ok];rw [h1];rfl)
    ⟨g,_,h,(hr.of h5 h6.tm rfl).put o.dst (h4 _ _) hd',by rw [put_size,hn],h6.trans (Step.put _)⟩
  unfold okP at h
  split at h
  ·rename_i c0 d hb
   obtain⟨r,h1,h2⟩:=bin_sound op t (hr.ev x) (hr.ev y) hb h.1 x y
   have h1:=h1.here
   exact Oper.wp_val (by unfold execOp;simp only [ho];rw [Sem.run_bind,h1];rfl) (Aft.put hr hn hd h2 h.2)
  ·cases h
 ·rename_i op t x ho
  unfold okD at h
  split at h
  ·rename_i d hb
   obtain⟨r,h1,h2⟩:=un_sound (P:=P) op (hr.ev x) hb
   have h1:=h1.here
   exact Oper.wp_val (by unfold execOp;simp [ho,h1]) (Aft.put hr hn hd h2 h)
  ·cases h
 ·rename_i t u x ho
  unfold okD at h
  split at h
  ·rename_i d hb
   obtain⟨r,h1,h2⟩:=conv_sound (P:=P) t u (hr.ev x) hb
   have h1:=h1.here
   exact Oper.wp_val (by unfold execOp;simp [ho,h1]) (Aft.put hr hn hd h2 h)
  ·cases h
 ·rename_i f fi ca ho
  obtain⟨h1,h2⟩:=map_rel hr fi
  obtain⟨h3,h4⟩:=map_rel hr ca
  exact Oper.wp_val (v:= .func f (fi.map a.eval) (ca.map a.eval)) (by unfold execOp;simp [ho,Instr.makeFunc]) (Aft.put hr hn hd (.fn f _ _ _ _ h1 h3 h2 h4) h)
 ·rename_i t l c ho
  unfold okT at h
  split at h
  ·rename_i c0 s' hb
   obtain⟨r,w',g',h1,h2,h3⟩:=mk_sound hr (hr.ev l) (hr.ev c) o.dst hd' hb h.1
   exact Oper.wp_val (by unfold execOp;simp [ho,h1]) ⟨g',_,h.2,h2,by rw [put_size,hn],h3⟩
  ·cases h
 ·rename_i t x lo hi mx ho
  unfold okF at h
  split at h
  ·split at h
   ·rename_i p hb
    unfold bndV at hb
    split at hb
    ·rename_i id nn k l hx hlo hhi hmx
     split at hb
     ·rename_i e0 hd0 sz e els hel hlk
      cases hb
      obtain⟨⟨rfl,h1,h2⟩,h3⟩:=h
      obtain⟨hu,hs⟩:=elOf_elem hel
      have hv:=hr.ev x
      rw [hx]at hv
      obtain⟨a0,cap,hval,g1,hr1,hv1,hst1⟩:=cut_sound (l:=l.toNat) hr hv hlk (by omega)
      have hrun:(Instr.sliceAt t (a.eval x) (lo.map a.eval) (hi.map a.eval) (mx.map a.eval)).run P w= .ok (sliced a0 l.toNat els.length cap e0.2.1) w:=by
       rw [OptRel.none_inv hhi,OptRel.none_inv hmx,OptRel.some_inv hr hlo,hval,run_sliceAt_slice (h:=hu),run_slice_l w t a0 _ cap hu _ _ h1 h2,hs w];rfl
      exact Oper.wp_val (v:=sliced a0 l.toNat els.length cap e0.2.1) (by unfold execOp;simp [ho,hrun]) (Aft.put hr hn hd (.undef _) h3)
     ·cases hb
    ·rename_i id c sz lo' hi' kl l kh h' km m hx hlo hhi hmx
     split at hb
     ·rename_i e0 hd0 sz' e els hel hlk
      cases hb
      obtain⟨⟨h1,h2,h3,h4,h5,h6⟩,h7⟩:=h
      obtain⟨hu,hs⟩:=elOf_elem hel
      have hv:=hr.ev x
      rw [hx]at hv
      obtain⟨a',hval,hl,hh,hcut⟩:=view_cut hr hv hlk h1 h2
      have hrun:∃v,(Instr.sliceAt t (a.eval x) (lo.map a.eval) (hi.map a.eval) (mx.map a.eval)).run P w= .ok v w:=by
       rw [OptRel.some_inv hr hlo,OptRel.some_inv hr hhi,OptRel.some_inv hr hmx,hval,run_sliceAt_slice (h:=hu),run_slice_lhm w t a' _ (c - lo') hu _ _ _ _ _ _ h3 h4 h5 (by omega),hs w]
       exact⟨_,rfl⟩
      obtain⟨v,hrun⟩:=hrun
      exact Oper.wp_val (v:=v) (by unfold execOp;simp [ho,hrun]) (Aft.put hr hn hd (.undef _) h7)
     ·cases hb
    ·cases hb
   ·cases h
  unfold okQ at h
  split at h
  ·rename_i p d s1 hb
   unfold cutV at hb
   split at hb
   ·rename_i id nn k l hx hlo hhi hmx
    split at hb
    ·rename_i e0 z y hd0 sz e els hel hlk
     split at hb
     ·rename_i hc
      obtain⟨rfl,rfl⟩:=hc
      cases hb
      obtain⟨⟨h1,h2⟩,h3⟩:=h
      obtain⟨hu,hs⟩:=elOf_elem hel
      have hv:=hr.ev x
      rw [hx]at hv
      obtain⟨a0,cap,hval,g1,hr1,hv1,hst1⟩:=cut_sound (l:=l.toNat) hr hv hlk (by omega)
      have hrun:(Instr.sliceAt t (a.eval x) (lo.map a.eval) (hi.map a.eval) (mx.map a.eval)).run P w= .ok (sliced a0 l.toNat els.length cap sz) w:=by
       rw [OptRel.none_inv hhi,OptRel.none_inv hmx,OptRel.some_inv hr hlo,hval,run_sliceAt_slice (h:=hu),run_slice_l w t a0 _ cap hu _ _ h1 h2,hs w];rfl
      obtain⟨g2,s2,h4,h5,h6,h7⟩:=Aft.put hr1 hn hd hv1 h3
      refine Oper.wp_val (by unfold execOp;simp [ho,hrun]) ⟨g2,s2,h4,h5,h6,hst1.trans h7⟩
     ·cases hb
    ·cases hb
   ·rename_i id c sz lo' hi' hx
    split at hb
    ·rename_i e0 z y hd0 sz' e els hel hlk
     obtain⟨hu,hs⟩:=elOf_elem hel
     have hv:=hr.ev x
     rw [hx]at hv
     split at hb<;>cases hb
     ·rename_i hlo hhi hmx
      obtain⟨⟨h1,h2,h3⟩,h4⟩:=h
      subst h3
      obtain⟨a',hval,hl,hh,hcut⟩:=view_cut hr hv hlk h1 h2
      have hrun:(Instr.sliceAt t (a.eval x) (lo.map a.eval) (hi.map a.eval) (mx.map a.eval)).run P w= .ok (sliced a' 0 (hi' - lo') (c - lo') sz') w:=by
       rw [OptRel.none_inv hlo,OptRel.none_inv hhi,OptRel.none_inv hmx,hval,run_sliceAt_slice (h:=hu),run_slice_all w t a' _ (c - lo') hu,hs w];rfl
      have:=hcut 0 (hi' - lo') (Nat.zero_le _) (by omega)
      rw [Nat.add_zero,show lo'+(hi' - lo')=hi' by omega]at this
      exact Oper.wp_val (by unfold execOp;simp [ho,hrun]) (Aft.put hr hn hd this h4)
     ·rename_i k b hlo hhi hmx
      obtain⟨⟨h1,h2,h3,h5,h6⟩,h4⟩:=h
      subst h3
      obtain⟨a',hval,hl,hh,hcut⟩:=view_cut hr hv hlk h1 h2
      have hrun:(Instr.sliceAt t (a.eval x) (lo.map a.eval) (hi.map a.eval) (mx.map a.eval)).run P w= .ok (sliced a' 0 b.toNat (c - lo') sz') w:=by
       rw [OptRel.none_inv hlo,OptRel.some_inv hr hhi,OptRel.none_inv hmx,hval,run_sliceAt_slice (h:=hu),run_slice_h w t a' _ (c - lo') hu _ _ h5 (by omega),hs w];rfl
      have:=hcut 0 b.toNat (Nat.zero_le _) (by omega)
      rw [Nat.add_zero]at this
      exact Oper.wp_val (by unfold execOp;simp [ho,hrun]) (Aft.put hr hn hd this h4)
     ·rename_i k b hlo hhi hmx
      obtain⟨⟨h1,h2,h3,h5,h6⟩,h4⟩:=h
      subst h3
      obtain⟨a',hval,hl,hh,hcut⟩:=view_cut hr hv hlk h1 h2
      have hrun:(Instr.sliceAt t (a.eval x) (lo.map a.eval) (hi.map a.eval) (mx.map a.eval)).run P w= .ok (sliced a' b.toNat (hi' - lo') (c - lo') sz') w:=by
       rw [OptRel.some_inv hr hlo,OptRel.none_inv hhi,OptRel.none_inv hmx,hval,run_sliceAt_slice (h:=hu),run_slice_l w t a' _ (c - lo') hu _ _ h5 (by omega),hs w];rfl
      have:=hcut b.toNat (hi' - lo') (by omega) (by omega)
      rw [show lo'+(hi' - lo')=hi' by omega]at this
      exact Oper.wp_val (by unfold execOp;simp [ho,hrun]) (Aft.put hr hn hd this h4)
     ·rename_i k b k' b' hlo hhi hmx
      obtain⟨⟨h1,h2,h3,h5,h6,h7⟩,h4⟩:=h
      subst h3
      obtain⟨a',hval,hl,hh,hcut⟩:=view_cut hr hv hlk h1 h2
      have hrun:(Instr.sliceAt t (a.eval x) (lo.map a.eval) (hi.map a.eval) (mx.map a.eval)).run P w= .ok (sliced a' b.toNat b'.toNat (c - lo') sz') w:=by
       rw [OptRel.some_inv hr hlo,OptRel.some_inv hr hhi,OptRel.none_inv hmx,hval,run_sliceAt_slice (h:=hu),run_slice_lh w t a' _ (c - lo') hu _ _ _ _ h5 h6 (by omega),hs w];rfl
      have:=hcut b.toNat b'.toNat (by omega) (by omega)
      exact Oper.wp_val (by unfold execOp;simp [ho,hrun]) (Aft.put hr hn hd this h4)
    ·cases hb
   ·cases hb
  unfold okP at h
  split at h
  ·rename_i c0 d hb
   generalize hz:frz s (s.ev x)=z at hb h
   obtain⟨g1,hr1,hv1,hst1,htm⟩:=frz_sound (d':=z.1) (s':=z.2) hr (hr.ev x) hz
   have hev:s.ev=z.2.ev:=funext fun y=>by cases y<;>first|rfl|exact congrArg (fun l=>(lk _ l).getD D.undef) htm.symm
   rw [hev]at hb
   obtain⟨r,h1,h2⟩:=slice_sound (P:=P) hr1 t hv1 hb h.1
   have h1:=h1.here
   obtain⟨g2,s2,h3,h4,h5,h6⟩:=Aft.put hr1 hn hd h2 h.2
   exact Oper.wp_val (by unfold execOp;simp [ho,h1]) ⟨g2,s2,h3,h4,h5,hst1.trans h6⟩
  ·cases h
 ·rename_i t x f ho
  unfold okD at h
  split at h
  ·rename_i d hb
   obtain⟨r,h1,h2⟩:=fad_sound (P:=P) (hr.ev x) hb
   have h1:=h1.here
   exact Oper.wp_val (by unfold execOp;simp [ho,h1]) (Aft.put hr hn hd h2 h)
  ·cases h
 ·rename_i t x f ho
  unfold okD at h
  split at h
  ·rename_i d hb
   obtain⟨r,h1,h2⟩:=field_sound (P:=P) (hr.ev x) hb
   have h1:=h1.here
   exact Oper.wp_val (by unfold execOp;simp [ho,h1]) (Aft.put hr hn hd h2 h)
  ·cases h
 ·rename_i t x i ho
  unfold okP at h
  split at h
  ·rename_i c0 d hb
   obtain⟨r,h1,h2⟩:=ia_sound (P:=P) (hr.ev x) (hr.ev i) hb h.1
   have h1:=h1.here
   exact Oper.wp_val (by unfold execOp;simp [ho,h1]) (Aft.put hr hn hd h2 h.2)
  ·cases h
 ·rename_i t x i ho
  unfold okP at h
  split at h
  ·rename_i c0 d hb
   obtain⟨r,h1,h2⟩:=index_sound (P:=P) (hr.ev x) (hr.ev i) hb h.1
   have h1:=h1.here
   exact Oper.wp_val (by unfold execOp;simp [ho,h1]) (Aft.put hr hn hd h2 h.2)
  ·cases h
 ·rename_i x i ho
  unfold okD at h
  split at h
  ·rename_i d hb
   obtain⟨r,h1,h2⟩:=ext_sound (P:=P) i (hr.ev x) hb
   have h1:=h1.here
   exact Oper.wp_val (by unfold execOp;simp [ho,h1]) (Aft.put hr hn hd h2 h)
  ·cases h
 ·rename_i t r ho
  unfold okS at h
  split at h
  ·rename_i s' hm
   obtain⟨v,w',g',h1,h2,h3⟩:=mk_map_sound hr o.dst hd' hm
   exact Oper.wp_val (by unfold execOp;simp [ho,h1]) ⟨g',_,h,h2,by rw [put_size,hn],h3⟩
  ·cases h
 ·rename_i t x i ok ho
  unfold okL at h
  split at h
  ·rename_i v z hl
   obtain⟨u,h1,h2⟩:=lk_sound hr (hr.ev x) (hr.ev i) hl ok
   exact Oper.wp_val (by unfold execOp;simp [ho,h1]) (Aft.put hr hn hd h2 h)
  ·rename_i z hl
   obtain⟨u,h1,h2⟩:=lk_sound hr (hr.ev x) (hr.ev i) hl ok
   exact Oper.wp_val (by unfold execOp;simp [ho,h1]) (Aft.put hr hn hd h2 h)
  ·cases h
 ·rename_i t m k x ho
  unfold okS at h
  split at h
  ·rename_i s' hm
   obtain⟨w',h1,h2,h3⟩:=upd_sound hr (hr.ev m) (hr.ev k) (hr.ev x) hm
   refine Oper.wp_skip (w':=w') (by unfold execOp;simp [ho,h1]) ⟨g,_,h,h2.put o.dst .skip hd',by rw [put_size,hn],h3.trans (Step.put _)⟩
  ·cases h
 ·rename_i t m k x ho
  unfold okS at h
  split at h
  ·rename_i s' hm
   obtain⟨w',h1,h2,h3⟩:=upd_sound hr (hr.ev m) (hr.ev k) (hr.ev x) hm
   refine Oper.wp_skip (w':=w') (by unfold execOp;simp [ho,h1]) ⟨g,_,h,h2.put o.dst .skip hd',by rw [put_size,hn],h3.trans (Step.put _)⟩
  ·cases h
 ·rename_i t m k ho
  unfold okE at h
  split at h
  ·rename_i s' d hm
   obtain⟨v,w',h1,h2,h3,h4⟩:=mpent_sound hr (hr.ev m) (hr.ev k) hm
   refine Oper.wp_val (w':=w') (by unfold execOp;simp [ho,h1]) ⟨g,_,h,h3.put o.dst h2 hd',by rw [put_size,hn],h4.trans (Step.put _)⟩
  ·cases h
 ·rename_i t m k x ho
  unfold okS at h
  split at h
  ·rename_i s' hm
   obtain⟨w',h1,h2,h3⟩:=mpest_sound (P:=P) (t:=t) hr (hr.ev m) (hr.ev k) (hr.ev x) hm
   refine Oper.wp_skip (w':=w') (by unfold execOp;simp [ho,h1]) ⟨g,_,h,h2.put o.dst .skip hd',by rw [put_size,hn],h3.trans (Step.put _)⟩
  ·cases h
 ·rename_i t x ho
  unfold okS at h
  split at h
  ·rename_i s' hm
   obtain⟨v,w',g',h1,h2,h3⟩:=rng_sound hr (hr.ev x) o.dst hd' hm
   exact Oper.wp_val (by unfold execOp;simp [ho,h1]) ⟨g',_,h,h2,by rw [put_size,hn],h3⟩
  ·cases h
 ·rename_i x str ho
  obtain⟨rfl,h⟩:=h
  obtain⟨v,w',s',h1,h2,h3,h4⟩:=next_sound (P:=P) hr (hr.ev x) o.dst hd' h o.type
  exact Oper.wp_val (by unfold execOp;simp [ho,h1]) ⟨g,_,h2,h3,by rw [put_size,hn],h4⟩
 ·rename_i x ho
  unfold okD at h
  split at h
  ·rename_i d hb
   obtain⟨r,h1,h2⟩:=entry_sound (P:=P) hr (hr.ev x) hb
   exact Oper.wp_val (by unfold execOp;simp [ho,h1]) (Aft.put hr hn hd h2 h)
  ·cases h
 ·rename_i c ho
  split at h
  ·
   rename_i hc
   split at h
   ·rename_i x t hargs htys
    unfold okH at h
    obtain⟨h0,h⟩:=h
    split at h
    ·rename_i c0 d hb
     obtain⟨h1,r,h2,h3⟩:=len_sound (P:=P) t o.type h0 (hr.ev x) hb
     have h2:=h2.here
     have e1:c.args= #[x]:=Array.toList_inj.1 (by simpa using hargs)
     have e2:c.argTypes= #[t]:=Array.toList_inj.1 (by simpa using htys)
     exact Oper.wp_val (by unfold execOp;simp [ho,resolve,hc,e1,e2,invoke,builtin,h2]) (Aft.put hr hn hd h3 (h h1))
    ·cases h
   ·cases h
  ·rename_i hc
   unfold okD at h
   split at h
   ·rename_i d hb
    obtain⟨h1,h2⟩:=map_rel hr c.args
    obtain⟨r,h3,h4⟩:=min_sound (P:=P) c.argTypes o.type h1 h2 hb
    have h3:=h3.here
    exact Oper.wp_val (by unfold execOp;simp [ho,resolve,hc,invoke,builtin,h3]) (Aft.put hr hn hd h4 h)
   ·cases h
  ·rename_i hc
   unfold okD at h
   split at h
   ·rename_i d hb
    obtain⟨h1,h2⟩:=map_rel hr c.args
    obtain⟨r,h3,h4⟩:=max_sound (P:=P) c.argTypes o.type h1 h2 hb
    have h3:=h3.here
    exact Oper.wp_val (by unfold execOp;simp [ho,resolve,hc,invoke,builtin,h3]) (Aft.put hr hn hd h4 h)
   ·cases h
  ·rename_i hc
   split at h
   ·rename_i x y t u hargs htys
    have e1:c.args= #[x,y]:=Array.toList_inj.1 (by simpa using hargs)
    have e2:c.argTypes= #[t,u]:=Array.toList_inj.1 (by simpa using htys)
    unfold okM at h
    split at h
    ·rename_i p nn z e els hb
     obtain⟨r,w',g',cc,h1,h2,h3,h4,h5⟩:=apm_sound (ty:=o.type) hr (hr.ev x) (hr.ev y) o.dst hd' hb h.1
     exact Oper.wp_val (by unfold execOp;simp [ho,resolve,hc,e1,e2,invoke,builtin,h1]) ⟨g',_,h.2 cc h2 h3,h4,by rw [put_size,hn],h5⟩
    obtain⟨rfl,h⟩:=h
    unfold okT at h
    split at h
    ·rename_i c0 s' hb
     obtain⟨r,w',g',h1,h2,h3⟩:∃r w' g',(Builtin.append_ #[t,t] o.type #[a.eval x,a.eval y]).run P w= .ok r w'∧Rel δ g' s' (a.put o.dst r) w'∧Step g s w g' s' w':=by
      by_cases hvw:∃id c sz lo hi,s.ev x= .view id c sz lo hi
      ·obtain⟨id,c,sz,lo,hi,he⟩:=hvw
       have hx:=hr.ev x
       rw [he]at hx hb
       exact apv_sound hr hx (hr.ev y) o.dst hd' hb h.1
      ·exact app_sound hr (hr.ev x) (hr.ev y) o.dst hd' (fun id c sz lo hi he=>hvw ⟨id,c,sz,lo,hi,he⟩) hb h.1 o.type
     obtain⟨g1,k1,k2⟩:=app8_sound (P:=P) (t:=t) (x:=s.ev x) (d:=o.dst) h2
     exact Oper.wp_val (by unfold execOp;simp [ho,resolve,hc,e1,e2,invoke,builtin,h1]) ⟨g1,_,h.2,k1,by rw [put_size,hn],h3.trans k2⟩
    ·cases h
   ·cases h
  ·rename_i hc
   split at h
   ·rename_i x t hargs htys
    obtain⟨h0,h⟩:=h
    unfold okP at h
    split at h
    ·rename_i c0 d hb
     obtain⟨r,h2,h3⟩:=cap_sound (P:=P) hr t o.type h0 (hr.ev x) hb h.1
     have e1:c.args= #[x]:=Array.toList_inj.1 (by simpa using hargs)
     have e2:c.argTypes= #[t]:=Array.toList_inj.1 (by simpa using htys)
     exact Oper.wp_val (by unfold execOp;simp [ho,resolve,hc,e1,e2,invoke,builtin,h2]) (Aft.put hr hn hd h3 h.2)
    ·cases h
   ·cases h
  ·rename_i hc
   split at h
   ·rename_i x t hargs htys
    have e1:c.args= #[x]:=Array.toList_inj.1 (by simpa using hargs)
    have e2:c.argTypes= #[t]:=Array.toList_inj.1 (by simpa using htys)
    unfold okQ at h
    split at h
    ·rename_i p d s1 hb
     obtain⟨r,w',g',h1,h2,h3,h4,h5⟩:=clr_sound (ty:=o.type) hr (hr.ev x) hb h.1
     obtain⟨g2,s2,h6,h7,h8,h9⟩:=Aft.put h3 hn hd h2 h.2
     exact Oper.wp_val (by unfold execOp;simp [ho,resolve,hc,e1,e2,invoke,builtin,h1]) ⟨g2,s2,h6,h7,h8,h4.trans h9⟩
    ·cases h
   ·cases h
  ·rename_i hc
   split at h
   ·rename_i x y t u hargs htys
    have e1:c.args= #[x,y]:=Array.toList_inj.1 (by simpa using hargs)
    have e2:c.argTypes= #[t,u]:=Array.toList_inj.1 (by simpa using htys)
    unfold okQ at h
    split at h
    ·rename_i p d s1 hb
     obtain⟨r,w',g',h1,h2,h3,h4,h5⟩:=cpy_sound (ty:=o.type) (u:=u) hr (hr.ev x) (hr.ev y) hb h.1
     obtain⟨g2,s2,h6,h7,h8,h9⟩:=Aft.put h3 hn hd h2 h.2
     exact Oper.wp_val (by unfold execOp;simp [ho,resolve,hc,e1,e2,invoke,builtin,h1]) ⟨g2,s2,h6,h7,h8,h4.trans h9⟩
    ·cases h
   ·cases h
  ·rename_i f hc
   split at h
   ·rename_i gf fi ca hf
    split at h
    ·have hff:=hr.ev f
     rw [hf]at hff
     generalize hfv:a.eval f=fv at hff
     cases hff with
     |fn _ fiv cav _ _ h4 h5 h6 h7=>
     obtain⟨h8,h9⟩:=map_rel hr c.args
     have hall:∀(i:Nat) (v:Value) (d:D),(fiv++c.args.map a.eval++cav)[i]? =some v→(fi++c.args.toList.map s.ev++ca)[i]? =some d→VRel g w v d:=fun i v d hv hd=>by
      simp only [Array.getElem?_append]at hv
      simp only [List.getElem?_append,List.length_append]at hd
      rw [←h4,←h8]at hd
      simp only [Array.size_append]at hv
      split at hv
      ·rename_i hlt
       rw [if_pos hlt]at hd
       split at hv
       ·rename_i hlt2
        rw [if_pos hlt2]at hd
        exact h6 _ _ _ hv hd
       ·rename_i hlt2
        rw [if_neg hlt2]at hd
        exact h9 _ _ _ hv hd
      ·rename_i hlt
       rw [if_neg hlt]at hd
       exact h7 _ _ _ hv hd
     have hsz:(fiv++c.args.map a.eval++cav).size=(fi++c.args.toList.map s.ev++ca).length:=by simp only [Array.size_append,List.length_append];omega
     unfold xtK at h
     split at h
     ·rename_i m hds
      rw [hds]at hall hsz
      generalize hvs:fiv++c.args.map a.eval++cav=vs at hall hsz
      have e1:vs= #[.int .u64 m]:=by
       have h1:vs.size=1:=hsz
       have:=hall 0 vs[0] _ (Array.getElem?_eq_getElem (by omega)) rfl
       have h2:=this.int_inv
       apply Array.ext
       ·simpa using h1
       ·intro i hi1 hi2
        have:i=0:=by omega
        subst this
        simpa using h2
      subst e1
      have hrun:=frb_sound (w:=w) h.1 m
      rw [←hvs,Array.append_assoc]at hrun
      exact Oper.wp_val (by unfold execOp;simp [ho,resolve,hc,hfv,Deferred.ofValue,invoke,hrun]) (Aft.put hr hn hd (.c _ _ (.flt _ _)) h.2)
     ·rename_i x y b hds
      rw [hds]at hall hsz
      generalize hvs:fiv++c.args.map a.eval++cav=vs at hall hsz
      have h1:vs.size=3:=hsz
      have e1:vs= #[.int .u64 x, .int .u64 y, .int .u64 b]:=by
       have k0:=(hall 0 vs[0] _ (Array.getElem?_eq_getElem (by omega)) rfl).int_inv
       have k1:=(hall 1 vs[1] _ (Array.getElem?_eq_getElem (by omega)) rfl).int_inv
       have k2:=(hall 2 vs[2] _ (Array.getElem?_eq_getElem (by omega)) rfl).int_inv
       apply Array.ext
       ·simpa using h1
       ·intro i hi1 hi2
        have:i=0∨i=1∨i=2:=by omega
        rcases this with rfl|rfl|rfl
        ·simpa using k0
        ·simpa using k1
        ·simpa using k2
      subst e1
      have hrun:=sb64_sound (w:=w) h.1 x y b h.2.1
      rw [←hvs,Array.append_assoc]at hrun
      exact Oper.wp_val (by unfold execOp;simp only [ho,resolve,hc,hfv];simp [Deferred.ofValue,invoke];rw [hrun]) (Aft.put hr hn hd (.tup _ _ rfl fun i v d hv hd=>by
       have:i=0∨i=1∨i≥2:=by omega
       rcases this with rfl|rfl|hi
       ·simp at hv hd;subst hv;subst hd;exact .c _ _ (.int _ _)
       ·simp at hv hd;subst hv;subst hd;exact .c _ _ (.int _ _)
       ·rw [List.getElem?_eq_none (by simpa using hi)]at hd;cases hd) h.2.2)
     obtain⟨h0,h⟩:=h
     have hrun:=ov_sound (vs:=fiv++c.args.map a.eval++cav) hr h0 hsz hall
     exact Oper.wp_val (by unfold execOp;rw [Array.append_assoc]at hrun;simp [ho,resolve,hc,hfv,Deferred.ofValue,invoke,hrun]) (Aft.put hr hn hd (.c _ _ (.bool _)) h)
    obtain⟨⟨fn,h1,h2,h3⟩,h⟩:=hT _ _ _ _ _ h
    have hff:=hr.ev f
    rw [hf]at hff
    generalize hfv:a.eval f=fv at hff
    cases hff with
    |fn _ fiv cav _ _ h4 h5 h6 h7=>
    have hrun:=run_call_value (P:=P) (w:=w) hc ho hfv h1 h2 h3
    obtain⟨h8,h9⟩:=map_rel hr c.args
    have hcall:=h g w (fiv++c.args.map a.eval++cav) hr.o.tm (by simp only [Array.size_append,List.length_append];omega) (fun i v d hv hd=>by
     simp only [Array.getElem?_append]at hv
     simp only [List.getElem?_append,List.length_append]at hd
     rw [←h4,←h8]at hd
     simp only [Array.size_append]at hv
     split at hv
     ·rename_i hlt
      rw [if_pos hlt]at hd
      split at hv
      ·rename_i hlt2
       rw [if_pos hlt2]at hd
       exact h6 _ _ _ hv hd
      ·rename_i hlt2
       rw [if_neg hlt2]at hd
       exact h9 _ _ _ hv hd
     ·rename_i hlt
      rw [if_neg hlt]at hd
      exact h7 _ _ _ hv hd)
    unfold Oper.wp
    rw [hrun]
    refine hcall.mono fun e w' ⟨v,d,g',os',nx',he,hq,hro,hvr,hst⟩=> ?_
    subst he
    have hr':Rel δ g' ⟨s.tm,os',nx'⟩ a w':=hr.of (s':=⟨s.tm,os',nx'⟩) hro.tm hst.tm rfl
    exact⟨g',_,hq,hr'.put o.dst hvr hd',by rw [put_size,hn],(hst.tm (tm:=s.tm) (tm':=s.tm)).trans (Step.put _)⟩
   ·cases h
  ·cases h
 ·cases h
end
open Go
section
variable {δ:List Deferred} {P:Program} {T:Tab} {g g' g'':G} {s s' s'':St} {a:Act} {w w' w'':World} {n N:Nat}
theorem Step.toN (h:Step g s w g' s' w'):StepN N g s w g' s' w':=⟨fun id b _=>h.le.ρ id b,fun id a l c _=>h.le.κ id a l c,h.le.I,h.size,h.same,h.own,h.imm,h.env⟩
theorem StepN.refl (N:Nat) (g:G) (s:St) (w:World):StepN N g s w g s w:=(Step.refl g s w).toN
theorem StepN.trans (h:StepN N g s w g' s' w') (h':StepN N g' s' w' g'' s'' w''):StepN N g s w g'' s'' w'' where
 ρ id b hid hb:=h'.ρ id b hid (h.ρ id b hid hb)
 κ id x l c hid hk:=by
  obtain⟨a',l',c',h1,h2,h3⟩:=h.κ id x l c hid hk
  obtain⟨a'',l'',c'',h4,h5,h6⟩:=h'.κ id a' l' c' hid h1
  refine⟨a'',l'',c'',h4,Nat.le_trans h2 h5,fun e=> ?_⟩
  have e1:l=l':=by omega
  have e2:l'=l'':=by omega
  exact⟨(h3 e1).1.trans (h6 e2).1,(h3 e1).2.trans (h6 e2).2⟩
 I b hb:=h'.I b (h.I b hb)
 size:=Nat.le_trans h.size h'.size
 same b hb ho:=(h'.same b (Nat.lt_of_lt_of_le hb h.size) (h.own b hb ho)).trans (h.same b hb ho)
 own b hb ho:=h'.own b (Nat.lt_of_lt_of_le hb h.size) (h.own b hb ho)
 imm b hb ho hi:=h.imm b hb ho (h'.imm b (Nat.lt_of_lt_of_le hb h.size) (h.own b hb ho) hi)
 env:=h.env.trans h'.env
theorem StepN.step (h:StepN N g s w g' s' w') (ho:RelO g s w) (hN:s.nx≤N):Step g s w g' s' w' where
 le:=by
  refine⟨fun id b hb=>h.ρ id b ?_ hb,fun id a l c hk=>h.κ id a l c ?_ hk,h.I⟩
  ·rcases Nat.lt_or_ge id N with h1|h1
   ·exact h1
   ·rw [(ho.fresh id (by omega)).1]at hb;cases hb
  ·rcases Nat.lt_or_ge id N with h1|h1
   ·exact h1
   ·rw [(ho.fresh id (by omega)).2]at hk;cases hk
 size:=h.size
 same:=h.same
 own:=h.own
 imm:=h.imm
 env:=h.env
theorem StepN.tm {tm tm':List (Nat×D)} (h:StepN N g s w g' s' w'):StepN N g ⟨tm,s.os,s.nx⟩ w g' ⟨tm',s'.os,s'.nx⟩ w':=⟨h.ρ,h.κ,h.I,h.size,h.same,h.own,h.imm,h.env⟩
theorem Rel.rep (hr:Rel δ g s a w) {t:Nat} {b:Bool} (hv:a.tmps[t]? =some (.bool b)):Rel δ g (s.rep (some t) (.bool b)) a w:=by
 refine⟨fun u d hu=> ?_,hr.defers,hr.o.tm⟩
 simp only [St.rep,lk_upd]at hu
 split at hu
 ·rename_i hc
  cases hu
  rw [hc.1]
  exact⟨_,hv, .c _ _ (.bool _)⟩
 ·exact hr.tm u d hu
theorem Rel.bool_at (hr:Rel δ g s a w) {t:Nat} {b:Bool} (h:s.get t= .bool b):a.tmps[t]? =some (.bool b):=by
 unfold St.get at h
 cases hl:lk t s.tm with
 |none=>rw [hl]at h;cases h
 |some d=>
  rw [hl]at h
  obtain⟨v,h1,h2⟩:=hr.tm t d hl
  have e:d= .bool b:=h
  rw [e]at h2
  rw [h1,h2.bool_inv]
theorem Rel.skip_at (hr:Rel δ g s a w) {t:Nat} (h:s.get t= .skip):a.tmps[t]? =some Go.undef:=by
 unfold St.get at h
 cases hl:lk t s.tm with
 |none=>rw [hl]at h;cases h
 |some d=>
  rw [hl]at h
  obtain⟨v,h1,h2⟩:=hr.tm t d hl
  have e:d= .skip:=h
  rw [e]at h2
  cases h2
  exact h1
theorem yielded_gtmp (all:Array Oper) (tmps:Array Value) (j:Nat):yielded all tmps j=match (gtmp all j).bind (tmps[·]?)with|some (.bool b)=>some b|_=>none:=by
 unfold yielded gtmp
 cases all[j]? with
 |none=>rfl
 |some o=>rfl
theorem aops_sound (hT:TabS P T) (all:Array Oper):∀(l:List Oper) {g:G} {s:St} {a:Act} {w:World} {K:St→Prop} {Q:Exit→Act→World→Prop},(∀o∈l,dstOk1 n o=true)→aops P T all l s K→Rel δ g s a w→a.tmps.size=n→
 (∀a' w',Aft δ n g s w K a' w'→Q .normal a' w')→wpList P all Q l a w
 |[],g,s,a,w,K,Q,_,h,hr,hn,hQ=>hQ _ _ ⟨g,s,h,hr,hn, .refl _ _ _⟩
 |o::rest,g,s,a,w,K,Q,hd,h,hr,hn,hQ=>by
  have hdo:∀x,o.dst=some x→x<n:=fun x hx=>by
   have:=hd o (by simp)
   unfold dstOk1 at this
   rw [hx]at this
   simpa using this
  have hrest:∀o∈rest,dstOk1 n o=true:=fun o ho=>hd o (by simp [ho])
  have go:∀{s1:St},Rel δ g s1 a w→Step g s w g s1 w→Region.wanted o (yielded all a.tmps)=true→aop P T o s1 (fun s'=>aops P T all rest s' K)→wpList P all Q (o::rest) a w:=by
   intro s1 hr1 hst hw hop
   have:=aop_sound hT o hdo hop hr1 hn Q
   simp only [wpList,hw,if_true]
   refine .inl (Go.Oper.wp_mono (fun a' w' haft=> ?_) this)
   obtain⟨g',s',hK,hr',hn',hst'⟩:=haft
   exact aops_sound hT all rest hrest hK hr' hn' fun a'' w'' ⟨g'',s'',h1,h2,h3,h4⟩=>hQ _ _ ⟨g'',s'',h1,h2,h3,(hst.trans hst').trans h4⟩
  have past:∀{s1:St},Rel δ g s1 a w→Step g s w g s1 w→Region.wanted o (yielded all a.tmps)=false→aops P T all rest (s1.put o.dst .skip) K→wpList P all Q (o::rest) a w:=by
   intro s1 hr1 hst hw hop
   simp only [wpList,hw,Bool.false_eq_true,if_false]
   refine aops_sound hT all rest hrest hop (hr1.put o.dst .skip (fun x hx=>by rw [hn];exact hdo x hx)) (by rw [put_size,hn]) fun a'' w'' ⟨g'',s'',h1,h2,h3,h4⟩=>hQ _ _ ⟨g'',s'',h1,h2,h3,(hst.trans (Step.put _)).trans h4⟩
  have hrep:∀(t:Option Nat) (d:D),Step g s w g (s.rep t d) w:=fun t d=>by cases t<;>exact⟨.refl g,Nat.le_refl _,fun _ _ _=>rfl,fun _ _ h=>h,fun _ _ _ h=>h, .refl w⟩
  simp only [aops]at h
  split at h
  ·rename_i hg
   exact go hr (.refl _ _ _) (by simp [Region.wanted,hg]) h
  ·rename_i j want hg
   have hwant:Region.wanted o (yielded all a.tmps)=(yielded all a.tmps j==some want):=by simp [Region.wanted,hg]
   unfold grd at h
   split at h
   ·rename_i b hb
    cases ht:gtmp all j with
    |none=>rw [ht]at hb;cases hb
    |some t=>
     rw [ht]at hb h
     have hv:=hr.bool_at hb
     have hy:yielded all a.tmps j=some b:=by rw [yielded_gtmp,ht];simp [hv]
     rw [hy]at hwant
     by_cases hbw:b=want
     ·subst hbw
      exact go (hr.rep hv) (hrep _ _) (by rw [hwant];simp) (h.1 rfl)
     ·have hbw':b= !want:=by cases b<;>cases want<;>simp_all
      have h2:=h.2 hbw'
      rw [←hbw']at h2
      exact past (hr.rep hv) (hrep _ _) (by rw [hwant];simp [hbw]) h2
   ·rename_i hb
    cases ht:gtmp all j with
    |none=>rw [ht]at hb;cases hb
    |some t=>
     rw [ht]at hb
     have hv:=hr.skip_at hb
     have hy:yielded all a.tmps j=none:=by rw [yielded_gtmp,ht];simp [hv,Go.undef]
     rw [hy]at hwant
     exact past hr (.refl _ _ _) (by rw [hwant];rfl) h
   ·cases h
theorem lk_prune (l:List Nat) (tm:List (Nat×D)) (t:Nat) (d:D) (h:lk t (l.filterMap fun t=>match lk t tm with|some d=>some (t,d)|none=>none)=some d):lk t tm=some d:=by
 induction l with
 |nil=>cases h
 |cons u l ih=>
  simp only [List.filterMap_cons]at h
  split at h
  ·exact ih h
  ·rename_i x hx
   split at hx
   ·rename_i e he
    cases hx
    simp only [lk_cons]at h
    split at h
    ·rename_i htu;subst htu;cases h;exact he
    ·exact ih h
   ·cases hx
theorem Rel.prune (hr:Rel δ g s a w) (l:Option (List Nat)):Rel δ g (s.prune l) a w:=by
 cases l with
 |none=>exact hr
 |some l=>exact⟨fun t d h=>hr.tm t d (lk_prune l _ t d h),hr.defers,hr.o.tm⟩
theorem Step.prune (l:Option (List Nat)):Step g s w g (s.prune l) w:=by
 cases l<;>exact⟨.refl g,Nat.le_refl _,fun _ _ _=>rfl,fun _ _ h=>h,fun _ _ _ h=>h, .refl w⟩
theorem awp_sound (hT:TabS P T) (lv:Nat→Option (List Nat)):∀(c:Code) (Q:Exit→St→Prop) (s:St),dstOk n c=true→awp P T n N lv c Q s→SWp P n N c Q s
 | .skip,Q,s,_,h=>fun δ g a w hr hn=>wp_skip ⟨g,s,h,hr,hn, .refl _ _ _ _⟩
 | .label l,Q,s,_,h=>fun δ g a w hr hn=>wp_label ⟨g,s,h,hr,hn, .refl _ _ _ _⟩
 | .exit id,Q,s,_,h=>fun δ g a w hr hn=>wp_exit ⟨g,s,h,hr,hn, .refl _ _ _ _⟩
 | .ret,Q,s,_,h=>fun δ g a w hr hn=>wp_ret ⟨g,s,h,hr,hn, .refl _ _ _ _⟩
 | .region i ops false,Q,s,hd,h=>fun δ g a w hr hn=>by
  refine wp_region_list (aops_sound hT ops ops.toList (fun o ho=>List.all_eq_true.1 hd o ho) h hr hn fun a' w' ⟨g',s',h1,h2,h3,h4⟩=> ?_)
  exact⟨g',_,h1,h2.prune _,h3,(h4.trans (Step.prune _)).toN⟩
 | .region i ops true,Q,s,hd,h=>fun δ g a w hr hn=>by
  refine wp_mono (h δ g a w hr hn) fun e a' w' ⟨g',s',h1,h2,h3,h4⟩=> ?_
  cases e with
  |normal=>exact⟨g',_,h1,h2.prune _,h3,h4.trans (Step.prune _).toN⟩
  |_=>exact⟨g',s',h1,h2,h3,h4⟩
 | .seq x y,Q,s,hd,h=>fun δ g a w hr hn=>by
  simp only [dstOk,Bool.and_eq_true]at hd
  refine wp_seq (wp_mono (awp_sound hT lv x _ s hd.1 h δ g a w hr hn) fun e a' w' ⟨g',s',h1,h2,h3,h4⟩=> ?_)
  cases e with
  |normal=>exact wp_mono (awp_sound hT lv y Q s' hd.2 h1 δ g' a' w' h2 h3) fun e a'' w'' ⟨g'',s'',h5,h6,h7,h8⟩=>⟨g'',s'',h5,h6,h7,h4.trans h8⟩
  |_=>exact⟨g',s',h1,h2,h3,h4⟩
 | .cond c x y,Q,s,hd,h=>fun δ g a w hr hn=>by
  simp only [dstOk,Bool.and_eq_true]at hd
  unfold awp cd at h
  split at h
  ·rename_i b hb
   have hc:=hr.ev c
   rw [hb]at hc
   refine wp_cond hc.bool_inv ?_
   cases b with
   |true=>exact awp_sound hT lv x Q s hd.1 (h.1 rfl) δ g a w hr hn
   |false=>exact awp_sound hT lv y Q s hd.2 (h.2 rfl) δ g a w hr hn
  ·cases h
 | .block id c,Q,s,hd,h=>fun δ g a w hr hn=>by
  refine wp_block (wp_mono (awp_sound hT lv c _ s hd h δ g a w hr hn) fun e a' w' ⟨g',s',h1,h2,h3,h4⟩=> ?_)
  cases e with
  |exit i=>
   simp only [bl]at h1
   simp only [Exit.inBlock]
   split
   ·rename_i hi
    rw [if_pos hi]at h1
    exact⟨g',s',h1,h2,h3,h4⟩
   ·rename_i hi
    rw [if_neg hi]at h1
    exact⟨g',s',h1,h2,h3,h4⟩
  |_=>exact⟨g',s',h1,h2,h3,h4⟩
 | .loop c,Q,s,_,h=>h
 | .rangeFunc ..,Q,s,_,h=>h
 | .scope c,Q,s,_,h=>h
 | .goto l,Q,s,_,h=>h
 | .refuse w,Q,s,_,h=>h
end
open Go
section
variable {δ:List Deferred} {P:Program} {T:Tab} {g g' g'':G} {s s' s'':St} {a:Act} {w w' w'':World} {n N:Nat}
def resOf (tmps:Array Value):ResultVar→Sem Value
 | .tmp t=>pure (tmps.getD t Go.undef)
 | .cell x t=>do loadVar t (←asAddr (tmps.getD x Go.undef))
theorem results_eq (fn:Func) (tmps:Array Value):results fn tmps=(fn.results.mapM (resOf tmps))>>=fun vs=>(pure (if h:vs.size=1 then vs[0]else .tuple vs):Sem Value):=rfl
theorem rd1_sound (hr:Rel δ g s a w) {r:ResultVar} {d:D} (h:rd1 P s r=some d):∃v,(resOf a.tmps r).run P w= .ok v w∧VRel g w v d:=by
 cases r with
 |tmp t=>
  simp only [rd1,Option.some.injEq]at h
  subst h
  exact⟨_,rfl,hr.ev (.tmp t)⟩
 |cell x t=>
  simp only [rd1]at h
  have hx:VRel g w (a.tmps.getD x Go.undef) (s.get x):=hr.ev (.tmp x)
  obtain⟨v,h1,h2⟩:=hr.load hx h
  have h1:=h1.here
  refine⟨v, ?_,h2⟩
  show(asAddr (a.tmps.getD x Go.undef)>>=fun p=>loadVar t p).run P w=_
  generalize a.tmps.getD x Go.undef=xv at hx h1⊢
  generalize s.get x=xd at hx h
  cases xd<;>simp only [ldD,reduceCtorEq]at h<;>cases hx<;>simpa [Instr.loadAt,Instr.sureAddr,asAddr]using h1
theorem rds_sound (hr:Rel δ g s a w):∀(rs:List ResultVar) (ds:List D),rds P s rs=some ds→
 ∃vs:List Value,(rs.mapM (resOf a.tmps)).run P w= .ok vs w∧vs.length=ds.length∧∀(i:Nat) (v:Value) (d:D),vs[i]? =some v→ds[i]? =some d→VRel g w v d
 |[],ds,h=>by
  simp only [rds,Option.some.injEq]at h
  subst h
  exact⟨[],by simp,rfl,fun i v d h=>by simp at h⟩
 |r::l,ds,h=>by
  simp only [rds]at h
  split at h
  ·rename_i d ds' h1 h2
   cases h
   obtain⟨v,h3,h4⟩:=rd1_sound hr h1
   obtain⟨vs,h5,h6,h7⟩:=rds_sound hr l ds' h2
   refine⟨v::vs, ?_,by simp [h6],fun i u e hu he=> ?_⟩
   ·rw [List.mapM_cons,Sem.run_bind,h3]
    simp only [Result.andThen,Sem.run_bind,h5,Sem.run_pure]
   ·cases i with
    |zero=>simp at hu he;subst hu;subst he;exact h4
    |succ i=>exact h7 i u e (by simpa using hu) (by simpa using he)
  ·cases h
theorem rdD_sound (hr:Rel δ g s a w) (fn:Func) {rs:List ResultVar} (hrs:fn.results.toList=rs) {d:D} (h:rdD P s rs=some d):
 ∃v,(results fn a.tmps).run P w= .ok v w∧VRel g w v d:=by
 unfold rdD at h
 have key:∀ds,rds P s rs=some ds→∃vs:List Value,(results fn a.tmps).run P w= .ok (if h:vs.toArray.size=1 then vs.toArray[0]else .tuple vs.toArray) w∧vs.length=ds.length∧∀(i:Nat) (v:Value) (d:D),vs[i]? =some v→ds[i]? =some d→VRel g w v d:=by
  intro ds hds
  obtain⟨vs,h1,h2,h3⟩:=rds_sound hr rs ds hds
  refine⟨vs, ?_,h2,h3⟩
  rw [results_eq,Array.mapM_eq_mapM_toList,hrs,Sem.run_bind]
  simp only [Sem.run_map,h1]
  rfl
 split at h
 ·rename_i d' hds
  cases h
  obtain⟨vs,h1,h2,h3⟩:=key _ hds
  match vs,h2 with
  |[v],_=>exact⟨v,by rw [h1];rfl,h3 0 v d rfl rfl⟩
 ·rename_i ds hne hds
  cases h
  obtain⟨vs,h1,h2,h3⟩:=key _ hds
  refine⟨.tuple vs.toArray, ?_, .tup _ _ (by simpa using h2) (by simpa using h3)⟩
  rw [h1,dif_neg]
  simp only [List.size_toArray]
  intro he
  rw [he]at h2
  match ds,h2,hne with
  |[d],_,hne=>exact hne d rfl
 ·cases h
theorem lk_prm:∀(ds:List D) (k t:Nat) (d:D),lk t (prm k ds)=some d→k≤t∧ds[t - k]? =some d
 |[],k,t,d,h=>by cases h
 |x::l,k,t,d,h=>by
  simp only [prm,lk_cons]at h
  split at h
  ·rename_i e;subst e;cases h;exact⟨Nat.le_refl _,by simp⟩
  ·rename_i hne
   obtain⟨h1,h2⟩:=lk_prm l (k+1) t d h
   refine⟨by omega, ?_⟩
   rw [show t - k=(t - (k+1))+1 by omega,List.getElem?_cons_succ]
   exact h2
theorem acall_intro (hT:TabS P T) {f:FuncId} {fn:Func} {c:Code} {ds:List D} {os:List (Nat×Ob)} {nx:Nat} {Q:D→List (Nat×Ob)→Nat→Prop} (lv:Nat→Option (List Nat))
 (hf:P.funcs[f]? =some fn) (hname:(fn.name== "runtime.NumGoroutine")=false) (hb:fn.body=some c) (hd:dstOk n c=true) (hn:fn.ntmps=n) (hl:ds.length≤n) {rs:List ResultVar} (hrs:fn.results.toList=rs)
 (h:awp P T n nx lv c (fin P rs Q) ⟨prm 0 ds,os,nx⟩):ACall P f ds os nx Q:=by
 refine⟨⟨fn,hf,hname,by rw [hb];rfl⟩,fun g w vs ho hsz hv=> ?_⟩
 refine calls_of_wp hf hb ?_
 subst hn
 have hr:Rel [] g ⟨prm 0 ds,os,nx⟩ {tmps:=vs++Array.replicate (fn.ntmps - vs.size) undef,defers:=[]} w:=by
  refine⟨fun t d ht=> ?_,rfl,ho.tm⟩
  obtain⟨_,h2⟩:=lk_prm ds 0 t d ht
  rw [Nat.sub_zero]at h2
  have ht:t<vs.size:=by
   rw [hsz]
   rcases Nat.lt_or_ge t ds.length with h|h
   ·exact h
   ·rw [List.getElem?_eq_none h]at h2;cases h2
  refine⟨vs[t], ?_,hv t _ d (Array.getElem?_eq_getElem ht) h2⟩
  rw [Array.getElem?_append_left ht,Array.getElem?_eq_getElem ht]
 refine wp_mono (awp_sound hT lv c _ _ hd h [] g _ w hr (by simp;omega)) fun e a' w' ⟨g',s',h1,h2,h3,h4⟩=> ?_
 have fin:∀(hq:rto (rdD P s' rs) s' Q),a'.defers=[]∧∃v,(results fn a'.tmps).run P w'= .ok v w'∧(∃u d g' os' nx',Ending.returned v= .returned u∧Q d os' nx'∧RelO g' ⟨[],os',nx'⟩ w'∧VRel g' w' u d∧Step g ⟨[],os,nx⟩ w g' ⟨[],os',nx'⟩ w'):=by
  intro hq
  unfold rto at hq
  split at hq
  ·rename_i d hrd
   obtain⟨v,h5,h6⟩:=rdD_sound h2 fn hrs hrd
   exact⟨h2.defers,v,h5,v,d,g',s'.os,s'.nx,rfl,hq,h2.o.tm,h6,(h4.tm (tm:=[]) (tm':=[])).step ho (Nat.le_refl _)⟩
  ·cases hq
 cases e with
 |normal=>exact fin h1
 |ret=>exact fin h1
 |_=>cases h1
end
end Dm
