import Derived.Test.YtpiadnkkmfkmmaaGreatP5

set_option linter.unusedSimpArgs false
set_option linter.unusedVariables false
set_option linter.unusedSectionVars false
set_option linter.defProp false
set_option maxRecDepth 20000
set_option maxHeartbeats 4000000
noncomputable section
namespace Dm
open Go Go.Proofs Go.IntWalk
def wopC (v:Wl) (c:Ch):List Ch×Int:=openL v.c c
def wopF (v:Wl) (c:Ch):Fd×Nat×Int:=addF v.f 6 c.id c.loc
def wopE (v:Wl) (c:Ch):Int:=if¬okW v then 1 else if(wopC v c).2≠0 then(wopC v c).2 else(wopF v c).2.2
def wopW (v:Wl) (c:Ch):Wl×Int:=if wopE v c=0 then(⟨(wopC v c).1,v.w,v.i,v.p,(wopF v c).1,v.next,v.tick⟩,0)else(zeroW,wopE v c)
theorem open_fine {l:List Ch} {c:Ch} (h:(openL l c).2=0):okLd (openL l c).1:=by
 unfold openL at h⊢
 split at h
 ·cases h
 split at h
 ·cases h
 split at h
 ·cases h
 split at h
 ·rename_i h1 h2 h3 h4
  rw [if_neg h1,if_neg h2,if_neg h3,if_pos h4];exact h4
 ·cases h
attribute [go_sem] Tryz.f20 Tryz.f36 Tryz.f43 Tryz.f46 Tryz.f118 Tryz.f47 Tryz.f77 Tryz.f119
@[go_sem] def c_wopen:Ct Tryz.prog:=⟨20,arg kWl fun v=>arg kCh fun c=>ret (v.f.next≤18446744073709551615) (.tup [.agg [.sl (chs (wopW v c).1.c), .sl (wts (wopW v c).1.w), .sl (ivs (wopW v c).1.i), .sl (pys (wopW v c).1.p), .int .u64 (wopW v c).1.f.next, .sl (evs (wopW v c).1.f.l), .int .u64 (wopW v c).1.next, .int .u64 (wopW v c).1.tick], .int .i64 (wopW v c).2]) [],arg_ok fun v=>arg_ok fun c=>ret_ok fun h=>by
 refine run [c_wcheck,c_lopen,c_fadd,c_wown] Tryz.f20 lv20 fun hT=>vc ?_
 refine cl hT Tryz.f36 lv36 (vc ?_)
 refine dr us36_1 hT (vc ?_)
 refine⟨h, ?_⟩
 have hbad:∀e:Int,wopE v c=e→¬e=0→(chs (wopW v c).1.c=[]∧wts (wopW v c).1.w=[]∧ivs (wopW v c).1.i=[]∧pys (wopW v c).1.p=[]∧0=((wopW v c).1.f.next:Int)∧evs (wopW v c).1.f.l=[]∧0=((wopW v c).1.next:Int)∧0=((wopW v c).1.tick:Int))∧e=(wopW v c).2:=fun e h1 h2=>by
  have:wopW v c=(zeroW,e):=by rw [wopW,if_neg (by rw [h1];exact h2),h1]
  rw [this];exact⟨⟨rfl,rfl,rfl,rfl,rfl,rfl,rfl,rfl⟩,rfl⟩
 by_cases hok:okW v
 rotate_left 1
 ·have hck:(chkW v=0)=False:=eq_false fun h=>hok (chkW_0.1 h)
  have he:wopE v c=1:=by rw [wopE,if_pos hok]
  have hc1:chkW v=1:=by rw [chkW,if_neg hok]
  skip
  refine cl hT Tryz.f43 lv43 ?_
  simp -implicitDefEqProofs only [cdA,go_sem,hck,cdN,simprocAttr, -Int.reduceEq,List.cons.injEq,cdB]
  refine cl hT Tryz.f46 lv46 (vc ?_)
  refine cl hT Tryz.f118 lv118 ?_
  simp -implicitDefEqProofs only [cdA,go_sem,hck,cdN,simprocAttr, -Int.reduceEq,List.cons.injEq,cdB]
  refine cl hT Tryz.f47 lv47 ?_
  simp -implicitDefEqProofs only [cdA,go_sem,hck,cdN,simprocAttr, -Int.reduceEq,List.cons.injEq,cdB]
  refine dr us47_2 hT ?_
  simp -implicitDefEqProofs only [cdA,go_sem,hck,cdN,simprocAttr, -Int.reduceEq,List.cons.injEq,cdB]
  exact hbad _ (he.trans hc1.symm) (by rw [hc1];decide)
 have hck:(chkW v=0)=True:=eq_true (chkW_0.2 hok)
 refine cl hT Tryz.f43 lv43 ?_
 simp -implicitDefEqProofs only [cdA,go_sem,hck,cdN,simprocAttr, -Int.reduceEq,List.cons.injEq,cdB]
 refine cl hT Tryz.f77 lv77 (vc ?_)
 have eC:openL v.c c=wopC v c:=rfl
 rw [eC]
 refine⟨fun hst=> ?_,fun hst=> ?_⟩
 rotate_left 1
 ·skip
  refine cl hT Tryz.f46 lv46 (vc ?_)
  refine cl hT Tryz.f118 lv118 ?_
  simp -implicitDefEqProofs only [cdA,go_sem,hst,cdN,simprocAttr, -Int.reduceEq,List.cons.injEq,cdB]
  refine cl hT Tryz.f47 lv47 ?_
  simp -implicitDefEqProofs only [cdA,go_sem,hst,cdN,simprocAttr, -Int.reduceEq,List.cons.injEq,cdB]
  refine dr us47_2 hT ?_
  simp -implicitDefEqProofs only [cdA,go_sem,hst,cdN,simprocAttr, -Int.reduceEq,List.cons.injEq,cdB]
  exact hbad _ (by rw [wopE,if_neg (fun h=>h hok),if_pos hst]) hst
 refine cl hT Tryz.f46 lv46 (vc ?_)
 refine cl hT Tryz.f118 lv118 ?_
 simp -implicitDefEqProofs only [cdA,go_sem,hck,cdN,simprocAttr, -Int.reduceEq,List.cons.injEq,cdB]
 refine cl hT Tryz.f119 lv119 (vc ?_)
 have eF:addF v.f 6 c.id c.loc=wopF v c:=rfl
 rw [eF]
 refine⟨h,fun hfd=> ?_,fun hfd=> ?_⟩
 rotate_left 1
 ·skip
  refine cl hT Tryz.f47 lv47 ?_
  simp -implicitDefEqProofs only [cdA,go_sem,hfd,cdN,simprocAttr, -Int.reduceEq,List.cons.injEq,cdB]
  refine dr us47_2 hT ?_
  simp -implicitDefEqProofs only [cdA,go_sem,hfd,cdN,simprocAttr, -Int.reduceEq,List.cons.injEq,cdB]
  exact hbad _ (by rw [wopE,if_neg (fun h=>h hok),if_neg (fun h=>h hst)]) hfd
 have hsm:smallW ⟨(wopC v c).1,v.w,v.i,v.p,(wopF v c).1,v.next,v.tick⟩:=by
  have h1:=open_fine hst
  have h2:=small_ok hok
  have h4:=add_len (f:=v.f) (k:=6) (a:=c.id) (n:=c.loc)
  refine⟨by have:=h1.1;show(wopC v c).1.length≤_;unfold wopC;omega,fun d hd=>by have:=(h1.2.1 d hd).2.2.1;omega,h2.2.2.1,h2.2.2.2.1,h2.2.2.2.2.1,by show(wopF v c).1.l.length≤_;unfold wopF;omega⟩
 have hfin:wopW v c=(⟨(wopC v c).1,v.w,v.i,v.p,(wopF v c).1,v.next,v.tick⟩,0):=by
  have:wopE v c=0:=by rw [wopE,if_neg (fun h=>h hok),if_neg (fun h=>h hst)];exact hfd
  rw [wopW,if_pos this]
 refine cl hT Tryz.f47 lv47 ?_
 simp -implicitDefEqProofs only [cdA,go_sem,hck,eq_true hsm,cdN,simprocAttr, -Int.reduceEq,List.cons.injEq,cdB]
 rw [hfin]
 exact⟨⟨rfl,rfl,rfl,rfl,rfl,rfl,rfl,rfl⟩,rfl⟩⟩
open Go Go.Proofs Go.IntWalk
def wenP (v:Wl) (id:Nat) (paid:Bool):List Py×Int:=pendL v.p id paid
def wenC (v:Wl) (id:Nat) (paid:Bool):List Ch×Int:=((lendL v.c id paid).1,(lendL v.c id paid).2.2)
def wenF (v:Wl) (id:Nat) (paid:Bool):Fd×Nat×Int:=addF v.f (if paid=true then 1 else 2) id (lendL v.c id paid).2.1
def wenE (v:Wl) (id:Nat) (paid:Bool):Int:=if¬okW v then 1 else if(wenP v id paid).2≠0 then(wenP v id paid).2 else if(wenC v id paid).2≠0 then(wenC v id paid).2 else(wenF v id paid).2.2
def wenW (v:Wl) (id:Nat) (paid:Bool):Wl×Int:=if wenE v id paid=0 then(⟨(wenC v id paid).1,v.w,v.i,(wenP v id paid).1,(wenF v id paid).1,v.next,v.tick⟩,0)else(zeroW,wenE v id paid)
attribute [go_sem] Tryz.f10 Tryz.f36 Tryz.f40 Tryz.f43 Tryz.f46 Tryz.f118 Tryz.f47 Tryz.f53 Tryz.f55 Tryz.f119
@[go_sem] def c_wend:Ct Tryz.prog:=⟨10,arg kWl fun v=>arg kU64 fun id=>arg kBool fun paid=>ret (v.f.next≤18446744073709551615) (.tup [.agg [.sl (chs (wenW v id paid).1.c), .sl (wts (wenW v id paid).1.w), .sl (ivs (wenW v id paid).1.i), .sl (pys (wenW v id paid).1.p), .int .u64 (wenW v id paid).1.f.next, .sl (evs (wenW v id paid).1.f.l), .int .u64 (wenW v id paid).1.next, .int .u64 (wenW v id paid).1.tick], .int .i64 (wenW v id paid).2]) [],arg_ok fun v=>arg_ok fun id=>arg_ok fun paid=>ret_ok fun h=>by
 refine run [c_wcheck,c_pend,c_lendc,c_fadd,c_wown] Tryz.f10 lv10 fun hT=>vc ?_
 cases paid
 ·skip
  refine cl hT Tryz.f36 lv36 (vc ?_)
  refine dr us36_1 hT (vc ?_)
  refine⟨h, ?_⟩
  have hbad:∀e:Int,wenE v id false=e→¬e=0→(chs (wenW v id false).1.c=[]∧wts (wenW v id false).1.w=[]∧ivs (wenW v id false).1.i=[]∧pys (wenW v id false).1.p=[]∧0=((wenW v id false).1.f.next:Int)∧evs (wenW v id false).1.f.l=[]∧0=((wenW v id false).1.next:Int)∧0=((wenW v id false).1.tick:Int))∧e=(wenW v id false).2:=fun e h1 h2=>by
   have:wenW v id false=(zeroW,e):=by rw [wenW,if_neg (by rw [h1];exact h2),h1]
   rw [this];exact⟨⟨rfl,rfl,rfl,rfl,rfl,rfl,rfl,rfl⟩,rfl⟩
  by_cases hok:okW v
  rotate_left 1
  ·have hck:(chkW v=0)=False:=eq_false fun h=>hok (chkW_0.1 h)
   have he:wenE v id false=1:=by rw [wenE,if_pos hok]
   have hc1:chkW v=1:=by rw [chkW,if_neg hok]
   skip
   refine cl hT Tryz.f40 lv40 ?_
   simp -implicitDefEqProofs only [cdA,go_sem,hck,cdN,simprocAttr, -Int.reduceEq,List.cons.injEq,cdB]
   refine cl hT Tryz.f43 lv43 ?_
   simp -implicitDefEqProofs only [cdA,go_sem,hck,cdN,simprocAttr, -Int.reduceEq,List.cons.injEq,cdB]
   refine cl hT Tryz.f46 lv46 (vc ?_)
   refine cl hT Tryz.f118 lv118 ?_
   simp -implicitDefEqProofs only [cdA,go_sem,hck,cdN,simprocAttr, -Int.reduceEq,List.cons.injEq,cdB]
   refine cl hT Tryz.f47 lv47 ?_
   simp -implicitDefEqProofs only [cdA,go_sem,hck,cdN,simprocAttr, -Int.reduceEq,List.cons.injEq,cdB]
   refine dr us47_2 hT ?_
   simp -implicitDefEqProofs only [cdA,go_sem,hck,cdN,simprocAttr, -Int.reduceEq,List.cons.injEq,cdB]
   exact hbad _ (he.trans hc1.symm) (by rw [hc1];decide)
  have hck:(chkW v=0)=True:=eq_true (chkW_0.2 hok)
  refine cl hT Tryz.f40 lv40 ?_
  simp -implicitDefEqProofs only [cdA,go_sem,hck,cdN,simprocAttr, -Int.reduceEq,List.cons.injEq,cdB]
  refine cl hT Tryz.f53 lv53 (vc ?_)
  have eP:pendL v.p id false=wenP v id false:=rfl
  rw [eP]
  refine⟨fun hs0=> ?_,fun hs0=> ?_⟩
  rotate_left 1
  ·skip
   refine cl hT Tryz.f43 lv43 ?_
   simp -implicitDefEqProofs only [cdA,go_sem,hs0,cdN,simprocAttr, -Int.reduceEq,List.cons.injEq,cdB]
   refine cl hT Tryz.f46 lv46 (vc ?_)
   refine cl hT Tryz.f118 lv118 ?_
   simp -implicitDefEqProofs only [cdA,go_sem,hs0,cdN,simprocAttr, -Int.reduceEq,List.cons.injEq,cdB]
   refine cl hT Tryz.f47 lv47 ?_
   simp -implicitDefEqProofs only [cdA,go_sem,hs0,cdN,simprocAttr, -Int.reduceEq,List.cons.injEq,cdB]
   refine dr us47_2 hT ?_
   simp -implicitDefEqProofs only [cdA,go_sem,hs0,cdN,simprocAttr, -Int.reduceEq,List.cons.injEq,cdB]
   exact hbad _ (by rw [wenE,if_neg (fun h=>h hok),if_pos hs0]) hs0
  refine cl hT Tryz.f43 lv43 ?_
  simp -implicitDefEqProofs only [cdA,go_sem,hck,cdN,simprocAttr, -Int.reduceEq,List.cons.injEq,cdB]
  refine cl hT Tryz.f55 lv55 (vc ?_)
  have eC1:(lendL v.c id false).1=(wenC v id false).1:=rfl
  have eC2:(lendL v.c id false).2.2=(wenC v id false).2:=rfl
  rw [eC1,eC2]
  refine⟨fun hs1=> ?_,fun hs1=> ?_⟩
  rotate_left 1
  ·skip
   refine cl hT Tryz.f46 lv46 (vc ?_)
   refine cl hT Tryz.f118 lv118 ?_
   simp -implicitDefEqProofs only [cdA,go_sem,hs1,cdN,simprocAttr, -Int.reduceEq,List.cons.injEq,cdB]
   refine cl hT Tryz.f47 lv47 ?_
   simp -implicitDefEqProofs only [cdA,go_sem,hs1,cdN,simprocAttr, -Int.reduceEq,List.cons.injEq,cdB]
   refine dr us47_2 hT ?_
   simp -implicitDefEqProofs only [cdA,go_sem,hs1,cdN,simprocAttr, -Int.reduceEq,List.cons.injEq,cdB]
   exact hbad _ (by rw [wenE,if_neg (fun h=>h hok),if_neg (fun h=>h hs0),if_pos hs1]) hs1
  refine cl hT Tryz.f46 lv46 (vc ?_)
  refine cl hT Tryz.f118 lv118 ?_
  simp -implicitDefEqProofs only [cdA,go_sem,hck,cdN,simprocAttr, -Int.reduceEq,List.cons.injEq,cdB]
  refine cl hT Tryz.f119 lv119 (vc ?_)
  have eF:addF v.f 2 id (lendL v.c id false).2.1=wenF v id false:=rfl
  rw [eF]
  refine⟨h,fun hfd=> ?_,fun hfd=> ?_⟩
  rotate_left 1
  ·skip
   refine cl hT Tryz.f47 lv47 ?_
   simp -implicitDefEqProofs only [cdA,go_sem,hfd,cdN,simprocAttr, -Int.reduceEq,List.cons.injEq,cdB]
   refine dr us47_2 hT ?_
   simp -implicitDefEqProofs only [cdA,go_sem,hfd,cdN,simprocAttr, -Int.reduceEq,List.cons.injEq,cdB]
   exact hbad _ (by rw [wenE,if_neg (fun h=>h hok),if_neg (fun h=>h hs0),if_neg (fun h=>h hs1)]) hfd
  have hsm:smallW ⟨(wenC v id false).1,v.w,v.i,(wenP v id false).1,(wenF v id false).1,v.next,v.tick⟩:=by
   have h2:=small_ok hok
   have h50:=pend_len hs0
   have h51:=lend_fine hs1
   exact⟨(by have:=h51.1;show(wenC v id false).1.length≤_;unfold wenC;(try dsimp only);omega),(fun d hd=>by have:=(h51.2.1 d hd).2.2.1;omega),h2.2.2.1,h2.2.2.2.1,(by show(wenP v id false).1.length≤_;unfold wenP;omega),(by show(wenF v id false).1.l.length≤_;unfold wenF;exact Nat.le_trans add_len (by decide))⟩
  have hfin:wenW v id false=(⟨(wenC v id false).1,v.w,v.i,(wenP v id false).1,(wenF v id false).1,v.next,v.tick⟩,0):=by
   have:wenE v id false=0:=by rw [wenE,if_neg (fun h=>h hok),if_neg (fun h=>h hs0),if_neg (fun h=>h hs1)];exact hfd
   rw [wenW,if_pos this]
  refine cl hT Tryz.f47 lv47 ?_
  simp -implicitDefEqProofs only [cdA,go_sem,hck,eq_true hsm,cdN,simprocAttr, -Int.reduceEq,List.cons.injEq,cdB]
  rw [hfin]
  exact⟨⟨rfl,rfl,rfl,rfl,rfl,rfl,rfl,rfl⟩,rfl⟩
 ·skip
  refine cl hT Tryz.f36 lv36 (vc ?_)
  refine dr us36_1 hT (vc ?_)
  refine⟨h, ?_⟩
  have hbad:∀e:Int,wenE v id true=e→¬e=0→(chs (wenW v id true).1.c=[]∧wts (wenW v id true).1.w=[]∧ivs (wenW v id true).1.i=[]∧pys (wenW v id true).1.p=[]∧0=((wenW v id true).1.f.next:Int)∧evs (wenW v id true).1.f.l=[]∧0=((wenW v id true).1.next:Int)∧0=((wenW v id true).1.tick:Int))∧e=(wenW v id true).2:=fun e h1 h2=>by
   have:wenW v id true=(zeroW,e):=by rw [wenW,if_neg (by rw [h1];exact h2),h1]
   rw [this];exact⟨⟨rfl,rfl,rfl,rfl,rfl,rfl,rfl,rfl⟩,rfl⟩
  by_cases hok:okW v
  rotate_left 1
  ·have hck:(chkW v=0)=False:=eq_false fun h=>hok (chkW_0.1 h)
   have he:wenE v id true=1:=by rw [wenE,if_pos hok]
   have hc1:chkW v=1:=by rw [chkW,if_neg hok]
   skip
   refine cl hT Tryz.f40 lv40 ?_
   simp -implicitDefEqProofs only [cdA,go_sem,hck,cdN,simprocAttr, -Int.reduceEq,List.cons.injEq,cdB]
   refine cl hT Tryz.f43 lv43 ?_
   simp -implicitDefEqProofs only [cdA,go_sem,hck,cdN,simprocAttr, -Int.reduceEq,List.cons.injEq,cdB]
   refine cl hT Tryz.f46 lv46 (vc ?_)
   refine cl hT Tryz.f118 lv118 ?_
   simp -implicitDefEqProofs only [cdA,go_sem,hck,cdN,simprocAttr, -Int.reduceEq,List.cons.injEq,cdB]
   refine cl hT Tryz.f47 lv47 ?_
   simp -implicitDefEqProofs only [cdA,go_sem,hck,cdN,simprocAttr, -Int.reduceEq,List.cons.injEq,cdB]
   refine dr us47_2 hT ?_
   simp -implicitDefEqProofs only [cdA,go_sem,hck,cdN,simprocAttr, -Int.reduceEq,List.cons.injEq,cdB]
   exact hbad _ (he.trans hc1.symm) (by rw [hc1];decide)
  have hck:(chkW v=0)=True:=eq_true (chkW_0.2 hok)
  refine cl hT Tryz.f40 lv40 ?_
  simp -implicitDefEqProofs only [cdA,go_sem,hck,cdN,simprocAttr, -Int.reduceEq,List.cons.injEq,cdB]
  refine cl hT Tryz.f53 lv53 (vc ?_)
  have eP:pendL v.p id true=wenP v id true:=rfl
  rw [eP]
  refine⟨fun hs0=> ?_,fun hs0=> ?_⟩
  rotate_left 1
  ·skip
   refine cl hT Tryz.f43 lv43 ?_
   simp -implicitDefEqProofs only [cdA,go_sem,hs0,cdN,simprocAttr, -Int.reduceEq,List.cons.injEq,cdB]
   refine cl hT Tryz.f46 lv46 (vc ?_)
   refine cl hT Tryz.f118 lv118 ?_
   simp -implicitDefEqProofs only [cdA,go_sem,hs0,cdN,simprocAttr, -Int.reduceEq,List.cons.injEq,cdB]
   refine cl hT Tryz.f47 lv47 ?_
   simp -implicitDefEqProofs only [cdA,go_sem,hs0,cdN,simprocAttr, -Int.reduceEq,List.cons.injEq,cdB]
   refine dr us47_2 hT ?_
   simp -implicitDefEqProofs only [cdA,go_sem,hs0,cdN,simprocAttr, -Int.reduceEq,List.cons.injEq,cdB]
   exact hbad _ (by rw [wenE,if_neg (fun h=>h hok),if_pos hs0]) hs0
  refine cl hT Tryz.f43 lv43 ?_
  simp -implicitDefEqProofs only [cdA,go_sem,hck,cdN,simprocAttr, -Int.reduceEq,List.cons.injEq,cdB]
  refine cl hT Tryz.f55 lv55 (vc ?_)
  have eC1:(lendL v.c id true).1=(wenC v id true).1:=rfl
  have eC2:(lendL v.c id true).2.2=(wenC v id true).2:=rfl
  rw [eC1,eC2]
  refine⟨fun hs1=> ?_,fun hs1=> ?_⟩
  rotate_left 1
  ·skip
   refine cl hT Tryz.f46 lv46 (vc ?_)
   refine cl hT Tryz.f118 lv118 ?_
   simp -implicitDefEqProofs only [cdA,go_sem,hs1,cdN,simprocAttr, -Int.reduceEq,List.cons.injEq,cdB]
   refine cl hT Tryz.f47 lv47 ?_
   simp -implicitDefEqProofs only [cdA,go_sem,hs1,cdN,simprocAttr, -Int.reduceEq,List.cons.injEq,cdB]
   refine dr us47_2 hT ?_
   simp -implicitDefEqProofs only [cdA,go_sem,hs1,cdN,simprocAttr, -Int.reduceEq,List.cons.injEq,cdB]
   exact hbad _ (by rw [wenE,if_neg (fun h=>h hok),if_neg (fun h=>h hs0),if_pos hs1]) hs1
  refine cl hT Tryz.f46 lv46 (vc ?_)
  refine cl hT Tryz.f118 lv118 ?_
  simp -implicitDefEqProofs only [cdA,go_sem,hck,cdN,simprocAttr, -Int.reduceEq,List.cons.injEq,cdB]
  refine cl hT Tryz.f119 lv119 (vc ?_)
  have eF:addF v.f 1 id (lendL v.c id true).2.1=wenF v id true:=rfl
  rw [eF]
  refine⟨h,fun hfd=> ?_,fun hfd=> ?_⟩
  rotate_left 1
  ·skip
   refine cl hT Tryz.f47 lv47 ?_
   simp -implicitDefEqProofs only [cdA,go_sem,hfd,cdN,simprocAttr, -Int.reduceEq,List.cons.injEq,cdB]
   refine dr us47_2 hT ?_
   simp -implicitDefEqProofs only [cdA,go_sem,hfd,cdN,simprocAttr, -Int.reduceEq,List.cons.injEq,cdB]
   exact hbad _ (by rw [wenE,if_neg (fun h=>h hok),if_neg (fun h=>h hs0),if_neg (fun h=>h hs1)]) hfd
  have hsm:smallW ⟨(wenC v id true).1,v.w,v.i,(wenP v id true).1,(wenF v id true).1,v.next,v.tick⟩:=by
   have h2:=small_ok hok
   have h50:=pend_len hs0
   have h51:=lend_fine hs1
   exact⟨(by have:=h51.1;show(wenC v id true).1.length≤_;unfold wenC;(try dsimp only);omega),(fun d hd=>by have:=(h51.2.1 d hd).2.2.1;omega),h2.2.2.1,h2.2.2.2.1,(by show(wenP v id true).1.length≤_;unfold wenP;omega),(by show(wenF v id true).1.l.length≤_;unfold wenF;exact Nat.le_trans add_len (by decide))⟩
  have hfin:wenW v id true=(⟨(wenC v id true).1,v.w,v.i,(wenP v id true).1,(wenF v id true).1,v.next,v.tick⟩,0):=by
   have:wenE v id true=0:=by rw [wenE,if_neg (fun h=>h hok),if_neg (fun h=>h hs0),if_neg (fun h=>h hs1)];exact hfd
   rw [wenW,if_pos this]
  refine cl hT Tryz.f47 lv47 ?_
  simp -implicitDefEqProofs only [cdA,go_sem,hck,eq_true hsm,cdN,simprocAttr, -Int.reduceEq,List.cons.injEq,cdB]
  rw [hfin]
  exact⟨⟨rfl,rfl,rfl,rfl,rfl,rfl,rfl,rfl⟩,rfl⟩⟩
open Go Go.Proofs Go.IntWalk
open Go Go.Proofs Go.IntWalk
open Go Go.Proofs Go.IntWalk
def likW (v:Wl) (l:List Wt):Wl×Int:=if okW v∧l.length≤32 then({v with w:=l},0)else(zeroW,1)
attribute [go_sem] Tryz.f24 Tryz.f36 Tryz.f37 Tryz.f47
open Go Go.Proofs Go.IntWalk
def emptyW:Wl:=⟨[],[],[],[],⟨1,[]⟩,1,0⟩
def liveC:Ch:=⟨1,10,0,0,10,[],true⟩
theorem live1:(wopW emptyW liveC).2=0:=by decide
theorem live2:(wopW emptyW liveC).1.f.next≤18446744073709551615:=by decide
set_option maxRecDepth 100000 in
theorem live3:(payW (wopW emptyW liveC).1 7 4).2=(1,0):=by decide
set_option maxRecDepth 100000 in
theorem live4:(payW (wopW emptyW liveC).1 7 4).1.f.next≤18446744073709551615∧oursL (payW (wopW emptyW liveC).1 7 4).1.c=(6,4,0):=by decide
set_option maxRecDepth 100000 in
theorem live5:(wenW (payW (wopW emptyW liveC).1 7 4).1 1 false).2=0:=by decide
set_option maxRecDepth 100000 in
theorem live6:oursL (wenW (payW (wopW emptyW liveC).1 7 4).1 1 false).1.c=(10,0,0):=by decide
attribute [go_sem] Tryz.f6
@[go_sem] def c_few17:Ct Tryz.prog:=⟨6,arg kWl fun w=>pu (.bool (decide (((∀c∈w.c,c.holds.length≤20)∧w.c.length≤34)∧w.w.length≤40∧w.i.length≤40∧(w.p.length≤40∨256≤w.p.length∧w.p.length≤258)∧w.f.l.length≤70))),arg_ok fun w=>ret_ok fun _=>by
 refine run [c_few] Tryz.f6 lv6 fun hT=>vc ?_
 refine⟨fun hq _=>⟨fun h1 _=>⟨fun h2 _=>⟨fun h3 _=>⟨fun h4 _=>⟨fun h5 _=> ?_,fun h5=>(decide_eq_false fun h=>by have:=h.2;omega).symm⟩,fun h4=>(decide_eq_false fun h=>by have:=h.2;omega).symm⟩,fun h3 _=> ?_⟩,fun h2=>(decide_eq_false fun h=>by have:=h.2;omega).symm⟩,fun h1=>(decide_eq_false fun h=>by have:=h.2;omega).symm⟩,fun hq=>(decide_eq_false fun h=>hq h.1).symm⟩
 ·rw [decide_eq_decide];exact⟨fun h=>⟨hq,by omega,by omega,by omega,by omega⟩,fun h=>by have:=h.2;omega⟩
 ·rw [decide_eq_decide];exact⟨fun h=>⟨hq,by omega,by omega,by omega,by omega⟩,fun h=>by have:=h.2;omega⟩⟩
attribute [go_sem] Tryz.f5
@[go_sem] def c_live:Ct Tryz.prog:=⟨5,pu (.bool true),ret_ok fun _=>by
 refine run [c_wnew,c_wopen,c_wpay,c_ours,c_wend] Tryz.f5 lv5 fun hT=>vc ?_
 have a1:=live1
 have a2:=live2
 have a3:=live3
 obtain⟨a4,a5⟩:=live4
 have a6:=live5
 have a7:=live6
 unfold emptyW liveC at a1 a2 a3 a4 a5 a6 a7
 simp only [show dhds []=[]from rfl]
 refine⟨rfl, ?_⟩
 generalize wopW _ _=x at*
 generalize payW x.1 7 4=y at*
 have b1:y.2.1=1:=congrArg Prod.fst a3
 have b2:y.2.2=0:=congrArg Prod.snd a3
 rw [b1,b2,a5]
 generalize wenW y.1 1 false=z at*
 rw [a1,a6,a7]
 exact⟨a2,a4,by simp⟩⟩
open Go Go.Proofs
theorem wf_u64 {n:Int} (h:(Lit.int .u64 n).wf=true):0≤n∧n≤18446744073709551615:=by
 simp [Lit.wf,IntKind.min,IntKind.max,IntKind.bits,IntKind.signed]at h
 omega
theorem wf_i64 {n:Int} (h:(Lit.int .i64 n).wf=true): -9223372036854775808≤n∧n≤9223372036854775807:=by
 simp [Lit.wf,IntKind.min,IntKind.max,IntKind.bits,IntKind.signed]at h
 omega
theorem typ26 {k:Nat} {xs:List C} (h:Typ Tryz.prog (k+1) 26 xs):∃n:Nat,xs=[.int .u64 (n:Int)]∧n≤18446744073709551615:=by
 simp only [Typ,Tryz.underlying26]at h
 obtain⟨n,rfl,h1⟩:=h
 have:=wf_u64 h1
 exact⟨n.toNat,by rw [Int.toNat_of_nonneg (by omega)],by omega⟩
theorem typ4 {k:Nat} {xs:List C} (h:Typ Tryz.prog (k+1) 4 xs):∃b,xs=[.bool b]:=by
 simp only [Typ,Tryz.underlying4]at h
 exact h
def Hd.rng (e:Hd):Prop:=e.id≤18446744073709551615∧e.n≤18446744073709551615
theorem typ49 {k:Nat} {xs:List C} (h:Typ Tryz.prog (k+2) 49 xs):(Hd.dec xs).enc=xs∧(Hd.dec xs).rng:=by
 simp only [Typ,Tryz.underlying49,TypFs,Tryz.underlying26]at h
 obtain⟨_,_,rfl,⟨s0,rfl,h0⟩,_,_,rfl,⟨s1,rfl,h1⟩,rfl⟩:=h
 have q0:=wf_u64 h0
 have q1:=wf_u64 h1
 simp only [List.cons_append,List.nil_append,List.append_nil]
 refine⟨by simp [Hd.dec,Hd.enc,Int.toNat_of_nonneg q0.1,Int.toNat_of_nonneg q1.1], ?_⟩
 simp only [Hd.dec,Hd.rng]
 exact⟨by omega,by omega⟩
theorem hds_dhds {els:List (List C)} (h:∀x∈els,(Hd.dec x).enc=x):hds (dhds els)=els:=by
 simp only [hds,dhds,List.map_map]
 refine(List.map_congr_left fun x hx=> ?_).trans (List.map_id _)
 exact h x hx
theorem typ32 {k:Nat} {xs:List C} (h:Typ Tryz.prog (k+3) 32 xs):∃l,xs=[.sl (hds l)]∧∀e∈l,e.rng:=by
 simp only [Typ,Tryz.underlying32]at h
 obtain⟨els,rfl,_,h2⟩:=h
 have h3:∀x∈els,(Hd.dec x).enc=x∧(Hd.dec x).rng:=fun x hx=>typ49 (k:=k) (h2 x hx)
 refine⟨dhds els,by rw [hds_dhds fun x hx=>(h3 x hx).1],fun e he=> ?_⟩
 obtain⟨x,hx,rfl⟩:=List.mem_map.1 he
 exact(h3 x hx).2
def Ch.rng (e:Ch):Prop:=e.id≤18446744073709551615∧e.loc≤18446744073709551615∧e.rem≤18446744073709551615∧e.res≤18446744073709551615∧e.most≤18446744073709551615∧(∀q∈e.holds,q.rng)∧True
theorem typ34 {k:Nat} {xs:List C} (h:Typ Tryz.prog (k+4) 34 xs):(Ch.dec xs).enc=xs∧(Ch.dec xs).rng:=by
 simp only [Typ,Tryz.underlying34,TypFs,Tryz.underlying4,Tryz.underlying26]at h
 obtain⟨_,_,rfl,⟨s0,rfl,h0⟩,_,_,rfl,⟨s1,rfl,h1⟩,_,_,rfl,⟨s2,rfl,h2⟩,_,_,rfl,⟨s3,rfl,h3⟩,_,_,rfl,⟨s4,rfl,h4⟩,_,_,rfl,hs5,_,_,rfl,⟨s6,rfl⟩,rfl⟩:=h
 have q0:=wf_u64 h0
 have q1:=wf_u64 h1
 have q2:=wf_u64 h2
 have q3:=wf_u64 h3
 have q4:=wf_u64 h4
 obtain⟨s5,rfl,q5⟩:=typ32 (k:=k+0) hs5
 simp only [List.cons_append,List.nil_append,List.append_nil]
 refine⟨by simp [Ch.dec,Ch.enc,Int.toNat_of_nonneg q0.1,Int.toNat_of_nonneg q1.1,Int.toNat_of_nonneg q2.1,Int.toNat_of_nonneg q3.1,Int.toNat_of_nonneg q4.1,dhds_hds], ?_⟩
 simp only [Ch.dec,Ch.rng,dhds_hds]
 exact⟨by omega,by omega,by omega,by omega,by omega,q5,trivial⟩
theorem chs_dchs {els:List (List C)} (h:∀x∈els,(Ch.dec x).enc=x):chs (dchs els)=els:=by
 simp only [chs,dchs,List.map_map]
 refine(List.map_congr_left fun x hx=> ?_).trans (List.map_id _)
 exact h x hx
theorem typ22 {k:Nat} {xs:List C} (h:Typ Tryz.prog (k+5) 22 xs):∃l,xs=[.sl (chs l)]∧∀e∈l,e.rng:=by
 simp only [Typ,Tryz.underlying22]at h
 obtain⟨els,rfl,_,h2⟩:=h
 have h3:∀x∈els,(Ch.dec x).enc=x∧(Ch.dec x).rng:=fun x hx=>typ34 (k:=k) (h2 x hx)
 refine⟨dchs els,by rw [chs_dchs fun x hx=>(h3 x hx).1],fun e he=> ?_⟩
 obtain⟨x,hx,rfl⟩:=List.mem_map.1 he
 exact(h3 x hx).2
def Wt.rng (e:Wt):Prop:=e.id≤18446744073709551615∧True
theorem typ60 {k:Nat} {xs:List C} (h:Typ Tryz.prog (k+2) 60 xs):(Wt.dec xs).enc=xs∧(Wt.dec xs).rng:=by
 simp only [Typ,Tryz.underlying60,TypFs,Tryz.underlying26,Tryz.underlying58]at h
 obtain⟨_,_,rfl,⟨s0,rfl,h0⟩,_,_,rfl,⟨s1,rfl,h1⟩,rfl⟩:=h
 have q0:=wf_u64 h0
 simp only [List.cons_append,List.nil_append,List.append_nil]
 refine⟨by simp [Wt.dec,Wt.enc,Int.toNat_of_nonneg q0.1], ?_⟩
 simp only [Wt.dec,Wt.rng]
 exact⟨by omega,trivial⟩
theorem wts_dwts {els:List (List C)} (h:∀x∈els,(Wt.dec x).enc=x):wts (dwts els)=els:=by
 simp only [wts,dwts,List.map_map]
 refine(List.map_congr_left fun x hx=> ?_).trans (List.map_id _)
 exact h x hx
theorem typ23 {k:Nat} {xs:List C} (h:Typ Tryz.prog (k+3) 23 xs):∃l,xs=[.sl (wts l)]∧∀e∈l,e.rng:=by
 simp only [Typ,Tryz.underlying23]at h
 obtain⟨els,rfl,_,h2⟩:=h
 have h3:∀x∈els,(Wt.dec x).enc=x∧(Wt.dec x).rng:=fun x hx=>typ60 (k:=k) (h2 x hx)
 refine⟨dwts els,by rw [wts_dwts fun x hx=>(h3 x hx).1],fun e he=> ?_⟩
 obtain⟨x,hx,rfl⟩:=List.mem_map.1 he
 exact(h3 x hx).2
def Iv.rng (e:Iv):Prop:=e.hash≤18446744073709551615∧e.n≤18446744073709551615∧e.till≤18446744073709551615∧(-9223372036854775808≤e.state∧e.state≤9223372036854775807)
theorem typ51 {k:Nat} {xs:List C} (h:Typ Tryz.prog (k+2) 51 xs):(Iv.dec xs).enc=xs∧(Iv.dec xs).rng:=by
 simp only [Typ,Tryz.underlying51,TypFs,Tryz.underlying3,Tryz.underlying26]at h
 obtain⟨_,_,rfl,⟨s0,rfl,h0⟩,_,_,rfl,⟨s1,rfl,h1⟩,_,_,rfl,⟨s2,rfl,h2⟩,_,_,rfl,⟨s3,rfl,h3⟩,rfl⟩:=h
 have q0:=wf_u64 h0
 have q1:=wf_u64 h1
 have q2:=wf_u64 h2
 have q3:=wf_i64 h3
 simp only [List.cons_append,List.nil_append,List.append_nil]
 refine⟨by simp [Iv.dec,Iv.enc,Int.toNat_of_nonneg q0.1,Int.toNat_of_nonneg q1.1,Int.toNat_of_nonneg q2.1], ?_⟩
 simp only [Iv.dec,Iv.rng]
 exact⟨by omega,by omega,by omega,⟨by omega,by omega⟩⟩
theorem ivs_divs {els:List (List C)} (h:∀x∈els,(Iv.dec x).enc=x):ivs (divs els)=els:=by
 simp only [ivs,divs,List.map_map]
 refine(List.map_congr_left fun x hx=> ?_).trans (List.map_id _)
 exact h x hx
theorem typ24 {k:Nat} {xs:List C} (h:Typ Tryz.prog (k+3) 24 xs):∃l,xs=[.sl (ivs l)]∧∀e∈l,e.rng:=by
 simp only [Typ,Tryz.underlying24]at h
 obtain⟨els,rfl,_,h2⟩:=h
 have h3:∀x∈els,(Iv.dec x).enc=x∧(Iv.dec x).rng:=fun x hx=>typ51 (k:=k) (h2 x hx)
 refine⟨divs els,by rw [ivs_divs fun x hx=>(h3 x hx).1],fun e he=> ?_⟩
 obtain⟨x,hx,rfl⟩:=List.mem_map.1 he
 exact(h3 x hx).2
def Py.rng (e:Py):Prop:=e.id≤18446744073709551615∧e.hash≤18446744073709551615∧e.chan≤18446744073709551615∧e.n≤18446744073709551615∧(-9223372036854775808≤e.state∧e.state≤9223372036854775807)
theorem typ81 {k:Nat} {xs:List C} (h:Typ Tryz.prog (k+2) 81 xs):(Py.dec xs).enc=xs∧(Py.dec xs).rng:=by
 simp only [Typ,Tryz.underlying81,TypFs,Tryz.underlying3,Tryz.underlying26]at h
 obtain⟨_,_,rfl,⟨s0,rfl,h0⟩,_,_,rfl,⟨s1,rfl,h1⟩,_,_,rfl,⟨s2,rfl,h2⟩,_,_,rfl,⟨s3,rfl,h3⟩,_,_,rfl,⟨s4,rfl,h4⟩,rfl⟩:=h
 have q0:=wf_u64 h0
 have q1:=wf_u64 h1
 have q2:=wf_u64 h2
 have q3:=wf_u64 h3
 have q4:=wf_i64 h4
 simp only [List.cons_append,List.nil_append,List.append_nil]
 refine⟨by simp [Py.dec,Py.enc,Int.toNat_of_nonneg q0.1,Int.toNat_of_nonneg q1.1,Int.toNat_of_nonneg q2.1,Int.toNat_of_nonneg q3.1], ?_⟩
 simp only [Py.dec,Py.rng]
 exact⟨by omega,by omega,by omega,by omega,⟨by omega,by omega⟩⟩
theorem pys_dpys {els:List (List C)} (h:∀x∈els,(Py.dec x).enc=x):pys (dpys els)=els:=by
 simp only [pys,dpys,List.map_map]
 refine(List.map_congr_left fun x hx=> ?_).trans (List.map_id _)
 exact h x hx
theorem typ25 {k:Nat} {xs:List C} (h:Typ Tryz.prog (k+3) 25 xs):∃l,xs=[.sl (pys l)]∧∀e∈l,e.rng:=by
 simp only [Typ,Tryz.underlying25]at h
 obtain⟨els,rfl,_,h2⟩:=h
 have h3:∀x∈els,(Py.dec x).enc=x∧(Py.dec x).rng:=fun x hx=>typ81 (k:=k) (h2 x hx)
 refine⟨dpys els,by rw [pys_dpys fun x hx=>(h3 x hx).1],fun e he=> ?_⟩
 obtain⟨x,hx,rfl⟩:=List.mem_map.1 he
 exact(h3 x hx).2
def Ev.rng (e:Ev):Prop:=e.seq≤18446744073709551615∧(-9223372036854775808≤e.kind∧e.kind≤9223372036854775807)∧e.a≤18446744073709551615∧e.n≤18446744073709551615
theorem typ62 {k:Nat} {xs:List C} (h:Typ Tryz.prog (k+2) 62 xs):(Ev.dec xs).enc=xs∧(Ev.dec xs).rng:=by
 simp only [Typ,Tryz.underlying62,TypFs,Tryz.underlying3,Tryz.underlying26]at h
 obtain⟨_,_,rfl,⟨s0,rfl,h0⟩,_,_,rfl,⟨s1,rfl,h1⟩,_,_,rfl,⟨s2,rfl,h2⟩,_,_,rfl,⟨s3,rfl,h3⟩,rfl⟩:=h
 have q0:=wf_u64 h0
 have q1:=wf_i64 h1
 have q2:=wf_u64 h2
 have q3:=wf_u64 h3
 simp only [List.cons_append,List.nil_append,List.append_nil]
 refine⟨by simp [Ev.dec,Ev.enc,Int.toNat_of_nonneg q0.1,Int.toNat_of_nonneg q2.1,Int.toNat_of_nonneg q3.1], ?_⟩
 simp only [Ev.dec,Ev.rng]
 exact⟨by omega,⟨by omega,by omega⟩,by omega,by omega⟩
theorem evs_devs {els:List (List C)} (h:∀x∈els,(Ev.dec x).enc=x):evs (devs els)=els:=by
 simp only [evs,devs,List.map_map]
 refine(List.map_congr_left fun x hx=> ?_).trans (List.map_id _)
 exact h x hx
theorem typ27 {k:Nat} {xs:List C} (h:Typ Tryz.prog (k+3) 27 xs):∃l,xs=[.sl (evs l)]∧∀e∈l,e.rng:=by
 simp only [Typ,Tryz.underlying27]at h
 obtain⟨els,rfl,_,h2⟩:=h
 have h3:∀x∈els,(Ev.dec x).enc=x∧(Ev.dec x).rng:=fun x hx=>typ62 (k:=k) (h2 x hx)
 refine⟨devs els,by rw [evs_devs fun x hx=>(h3 x hx).1],fun e he=> ?_⟩
 obtain⟨x,hx,rfl⟩:=List.mem_map.1 he
 exact(h3 x hx).2
def Fd.rng (e:Fd):Prop:=e.next≤18446744073709551615∧(∀q∈e.l,q.rng)
theorem typ29 {k:Nat} {xs:List C} (h:Typ Tryz.prog (k+4) 29 xs):(Fd.dec xs).enc=xs∧(Fd.dec xs).rng:=by
 simp only [Typ,Tryz.underlying29,TypFs,Tryz.underlying26]at h
 obtain⟨_,_,rfl,⟨s0,rfl,h0⟩,_,_,rfl,hs1,rfl⟩:=h
 have q0:=wf_u64 h0
 obtain⟨s1,rfl,q1⟩:=typ27 (k:=k+0) hs1
 simp only [List.cons_append,List.nil_append,List.append_nil]
 refine⟨by simp [Fd.dec,Fd.enc,Int.toNat_of_nonneg q0.1,devs_evs], ?_⟩
 simp only [Fd.dec,Fd.rng,devs_evs]
 exact⟨by omega,q1⟩
def Wl.rng (w:Wl):Prop:=(∀e∈w.c,e.rng)∧(∀e∈w.w,e.rng)∧(∀e∈w.i,e.rng)∧(∀e∈w.p,e.rng)∧w.f.rng∧w.next≤18446744073709551615∧w.tick≤18446744073709551615
theorem typ31x {k:Nat} {xs:List C} (h:Typ Tryz.prog (k+6) 31 xs):∃w:Wl,xs=w.enc∧w.rng:=by
 rw [show k+6=(k+5)+1 from rfl,Typ,Tryz.underlying31]at h
 simp only [TypFs]at h
 obtain⟨_,_,rfl,h0,_,_,rfl,h1,_,_,rfl,h2,_,_,rfl,h3,_,_,rfl,h4,_,_,rfl,h5,_,_,rfl,h6,rfl⟩:=h
 obtain⟨c,rfl,q0⟩:=typ22 (k:=k) h0
 obtain⟨w,rfl,q1⟩:=typ23 (k:=k+2) h1
 obtain⟨i,rfl,q2⟩:=typ24 (k:=k+2) h2
 obtain⟨p,rfl,q3⟩:=typ25 (k:=k+2) h3
 obtain⟨e4,q4⟩:=typ29 (k:=k+1) h4
 obtain⟨n,rfl,q5⟩:=typ26 (k:=k+4) h5
 obtain⟨t,rfl,q6⟩:=typ26 (k:=k+4) h6
 refine⟨⟨c,w,i,p,Fd.dec _,n,t⟩, ?_,q0,q1,q2,q3,q4,q5,q6⟩
 rw [←e4]
 simp [Wl.enc,Fd.enc,Fd.dec,devs_evs]
open Go Go.Proofs Go.IntWalk
open Go Go.Proofs Go.IntWalk
attribute [go_sem] Tryz.f123
@[go_sem] def c_r13may:Ct Tryz.prog:=⟨123,arg kPy fun p=>pu (.bool (decide (okPy1 p))),arg_ok fun p=>ret_ok fun _=>by
 refine run [c_r4check] Tryz.f123 lv123 fun hT=>vc ?_
 have hm:monS [p.n]=0↔p.n≤MM:=mon1_0
 rw [hm]
 have ho:okPy1 p↔(p.n≠0∧p.n≤MM)∧1≤p.state∧p.state≤3:= .rfl
 rw [show decide (okPy1 p)=decide ((p.n≠0∧p.n≤MM)∧1≤p.state∧p.state≤3)from decide_eq_decide.2 ho]
 refine⟨fun h=>⟨fun h2=>⟨fun h3=> ?_,fun h3=> ?_⟩,fun h2=> ?_⟩,fun h=> ?_⟩
 ·rw [decide_eq_decide];exact⟨fun h4=>⟨⟨by omega,h2⟩,h3,h4⟩,fun h4=>h4.2.2⟩
 ·exact(decide_eq_false fun h4=>h3 h4.2.1).symm
 ·exact(decide_eq_false fun h4=>h2 h4.1.2).symm
 ·exact(decide_eq_false fun h4=>h4.1.1 (by omega)).symm⟩
attribute [go_sem] Tryz.f92
@[go_sem] def c_r13check:Ct Tryz.prog:=⟨92,arg kPys fun l=>pu (.int .i64 (chkP l)),arg_ok fun l=>ret_ok fun _=>by
 refine run [c_r13may] Tryz.f92 lv92 fun hT=>vc ?_
 have hbad:¬okPy l→1=chkP l:=fun h=>by rw [chkP,if_neg h]
 refine fun _=>⟨fun h=>hbad fun ho=> ?_,fun h _=> ?_⟩
 ·have:=ho.1;omega
 refine SWp.loop (ι:={i:Nat // i≤l.length∧(∀j,j<i→okPy1 (l.getD j default)∧(0<j→(l.getD (j - 1) default).id<(l.getD j default).id))}) (fun i=>⟨[(0, .sl (pys l)),(8, .sl (pys l)),(9, .int .i64 l.length),(10, .int .i64 i.1)],[],0⟩) (fun i=>l.length - i.1) ⟨0,by simp⟩ ?_ ?_
 ·simp [go_sem]
 ·rintro⟨i,hi,hall⟩
  refine aw hT lv92 (vc ?_)
  refine⟨fun h1=>⟨by omega, ?_⟩,fun h1=> ?_⟩
  ·refine dr us92_6 hT (vc ?_)
   have hi':i<l.length:=by omega
   have hm:okPy l→okPy1 (l.getD i default):=fun h=>h.2.1 _ (mem_getD.2 ⟨i,hi',rfl⟩)
   have hnext:(0<i→(l.getD (i - 1) default).id<(l.getD i default).id)→okPy1 (l.getD i default)→∃i_1:{i:Nat // i≤l.length∧(∀j,j<i→okPy1 (l.getD j default)∧(0<j→(l.getD (j - 1) default).id<(l.getD j default).id))},l.length - i_1.val<l.length - i∧IntKind.i64.wrap ((i:Int)+1)=i_1.val:=fun ho h2=>by
    refine⟨⟨i+1,hi',fun j hj=> ?_⟩,by dsimp only;omega,i64_in _ (by omega)⟩
    by_cases hji:j=i
    ·subst hji;exact⟨h2,ho⟩
    ·exact hall j (by omega)
   refine⟨fun h3=> ?_,fun h3=>⟨hnext fun h=>absurd h (by omega),fun h4=>hbad fun h=>h4 (hm h)⟩⟩
   rw [i64_in _ (by omega),show((i:Int) - 1).toNat=i - 1 by omega]
   exact⟨by omega,fun h4=>⟨hnext fun _=>by omega,fun h5=>hbad fun h=>h5 (hm h)⟩,fun h4=>hbad fun h=>by have:=h.2.2 i hi' (by omega);simp only [ltN]at this;omega⟩
  ·have hi':i=l.length:=by omega
   subst hi'
   rw [chkP,if_pos]
   exact⟨by omega,fun x hx=>by obtain⟨j,hj,rfl⟩:=mem_getD.1 hx;exact(hall j hj).1,fun j hj h0=>(hall j hj).2 h0⟩⟩
open Go Go.Proofs Go.IntWalk
attribute [go_sem] Tryz.f91
@[go_sem] def c_r12check:Ct Tryz.prog:=⟨91,arg kIvs fun l=>pu (.int .i64 (chkI l)),arg_ok fun l=>ret_ok fun _=>by
 refine run [c_r4check] Tryz.f91 lv91 fun hT=>vc ?_
 have hbad:¬okIv l→1=chkI l:=fun h=>by rw [chkI,if_neg h]
 refine fun _=>⟨fun h=>hbad fun ho=> ?_,fun h _=> ?_⟩
 ·have:=ho.1;omega
 refine SWp.loop (ι:={i:Nat // i≤l.length∧(∀j,j<i→okIv1 (l.getD j default)∧(0<j→(l.getD (j - 1) default).hash<(l.getD j default).hash))}) (fun i=>⟨[(0, .sl (ivs l)),(8, .sl (ivs l)),(9, .int .i64 l.length),(10, .int .i64 i.1)],[],0⟩) (fun i=>l.length - i.1) ⟨0,by simp⟩ ?_ ?_
 ·simp [go_sem]
 ·rintro⟨i,hi,hall⟩
  refine aw hT lv91 (vc ?_)
  refine⟨fun h1=>⟨by omega, ?_⟩,fun h1=> ?_⟩
  ·refine dr us91_6 hT (vc ?_)
   have hi':i<l.length:=by omega
   have hmn:monS [(l.getD i default).n]=0↔(l.getD i default).n≤MM:=mon1_0
   have hm:okIv l→okIv1 (l.getD i default):=fun h=>h.2.1 _ (mem_getD.2 ⟨i,hi',rfl⟩)
   rw [hmn]
   have hnext:(0<i→(l.getD (i - 1) default).hash<(l.getD i default).hash)→
    (¬((l.getD i default).n:Int)=0→((l.getD i default).n≤MM→(¬(l.getD i default).state<1→(3<(l.getD i default).state→1=chkI l)∧(¬3<(l.getD i default).state→
        ∃i_1:{i:Nat // i≤l.length∧(∀j,j<i→okIv1 (l.getD j default)∧(0<j→(l.getD (j - 1) default).hash<(l.getD j default).hash))},l.length - i_1.val<l.length - i∧IntKind.i64.wrap ((i:Int)+1)=i_1.val))∧((l.getD i default).state<1→1=chkI l))∧
     (¬(l.getD i default).n≤MM→1=chkI l))∧(((l.getD i default).n:Int)=0→1=chkI l):=fun ho=>by
    refine⟨fun h2=>⟨fun h5=>⟨fun h3=>⟨fun h4=>hbad fun h=> ?_,fun h4=>⟨⟨i+1,hi',fun j hj=> ?_⟩,by dsimp only;omega,i64_in _ (by omega)⟩⟩,fun h3=>hbad fun h=> ?_⟩,fun h5=>hbad fun h=>h5 (hm h).1.2⟩,fun h2=>hbad fun h=>(hm h).1.1 (by omega)⟩
    ·have:=(hm h).2.2;omega
    ·by_cases hji:j=i
     ·subst hji;exact⟨⟨⟨by omega,h5⟩,by omega,by omega⟩,ho⟩
     ·exact hall j (by omega)
    ·have:=(hm h).2.1;omega
   refine⟨fun h2=> ?_,fun h2=>hnext fun h=>absurd h (by omega)⟩
   rw [i64_in _ (by omega),show((i:Int) - 1).toNat=i - 1 by omega]
   exact⟨by omega,fun h3=>hnext fun _=>by omega,fun h3=>hbad fun h=>by have:=h.2.2 i hi' (by omega);simp only [ltN]at this;omega⟩
  ·have hi':i=l.length:=by omega
   subst hi'
   rw [chkI,if_pos]
   exact⟨by omega,fun x hx=>by obtain⟨j,hj,rfl⟩:=mem_getD.1 hx;exact(hall j hj).1,fun j hj h0=>(hall j hj).2 h0⟩⟩
attribute [go_sem] Tryz.f93
@[go_sem] def c_r16check:Ct Tryz.prog:=⟨93,arg kFd fun f=>ret (f.next≤18446744073709551615) (.int .i64 (chkF f)) [],arg_ok fun f=>ret_ok fun h=>by
 refine run [] Tryz.f93 lv93 fun hT=>vc ?_
 have hbad:¬okFd f→1=chkF f:=fun h=>by rw [chkF,if_neg h]
 refine⟨fun h1=>⟨fun h2 hl=>⟨fun h3 _=> ?_,fun h3=>hbad fun ho=>h3 ?_⟩,fun h2=>hbad fun ho=> ?_⟩,fun h1=>hbad fun ho=> ?_⟩
 rotate_left 1
 ·have:=ho.2.2.1
  rw [u64_in f.l.length (by omega),u64_in ((f.next:Int) - 1) (by omega)];omega
 ·have:=ho.2.1;unfold MM at this;omega
 ·have:=ho.1;omega
 rw [u64_in f.l.length (by omega),u64_in ((f.next:Int) - 1) (by omega)]at h3
 refine SWp.loop (ι:={i:Nat // i≤f.l.length∧∀j:Nat,j<i→((f.l.getD j default).seq:Int)=f.next - (f.l.length - j:Int)∧kindS (f.l.getD j default).kind=true}) (fun i=>⟨[(1, .ref 0 0),(25, .sl (evs f.l)),(26, .int .i64 f.l.length),(27, .int .i64 i.1)],
  [(0, .box [.c (.int .u64 f.next), .sl (evs f.l)])],1⟩) (fun i=>f.l.length - i.1) ⟨0,by simp⟩ ?_ ?_
 ·simp [go_sem]
 ·rintro⟨i,hi,hall⟩
  refine aw hT lv93 (vc ?_)
  have hMM:f.next≤4611686018427387904:=by omega
  refine⟨fun h4=>⟨by omega,fun _=> ?_⟩,fun h4=> ?_⟩
  ·have hi':i<f.l.length:=by omega
   have hg:okFd f→((f.l.getD i default).seq:Int)=f.next - (f.l.length - i:Int)∧kindS (f.l.getD i default).kind=true:=fun ho=>(okEv_get f.next f.l).1 ho.2.2.2 i hi'
   rw [i64_in ((f.l.length:Int) - (i:Nat)) (by omega),u64_in ((f.l.length:Int) - (i:Nat)) (by omega),u64_in ((f.next:Int) - _) (by omega)]
   have hk:kindS (f.l.getD i default).kind=true↔0≤(f.l.getD i default).kind∧(f.l.getD i default).kind<16:=decide_eq_true_iff
   refine⟨fun h5=>⟨fun h6=>⟨fun h7=>hbad fun ho=> ?_,fun h7=>⟨⟨i+1,hi',fun j hj=> ?_⟩,by dsimp only;omega,i64_in _ (by omega)⟩⟩,fun h6=>hbad fun ho=> ?_⟩,fun h5=>hbad fun ho=>h5 (hg ho).1⟩
   ·have:=hk.1 (hg ho).2;omega
   ·by_cases hji:j=i
    ·subst hji;exact⟨h5,hk.2 ⟨by omega,by omega⟩⟩
    ·exact hall j (by omega)
   ·have:=hk.1 (hg ho).2;omega
  ·have hi':i=f.l.length:=by omega
   subst hi'
   rw [chkF,if_pos]
   exact⟨by omega,by unfold MM;omega,by omega,(okEv_get f.next f.l).2 hall⟩⟩
attribute [go_sem] Tryz.f166
@[go_sem] def c_r12late:Ct Tryz.prog:=⟨166,arg kIv fun x=>arg kU64 fun t=>pu (.bool (decide (x.state=1∧x.till<t))),arg_ok fun x=>arg_ok fun t=>ret_ok fun _=>by
 refine run [] Tryz.f166 lv166 fun hT=>vc ?_
 refine⟨fun h=> ?_,fun h=>(decide_eq_false fun h2=>h h2.1).symm⟩
 rw [decide_eq_decide];exact⟨fun h2=>⟨h,by omega⟩,fun h2=>by omega⟩⟩
open Go Go.Proofs Go.IntWalk
def cclE (c:Ch):Int:=if¬okCh c then 1 else if c.op=false then 14 else if c.holds.length≠0 then 10 else 0
def cclC (c:Ch):Ch×Int:=if cclE c=0 then(⟨c.id,c.loc,c.rem,c.res,c.most,[],false⟩,0)else(default,cclE c)
theorem cclC_2 {c:Ch}:(cclC c).2=cclE c:=by
 unfold cclC
 split
 ·rename_i h;exact h.symm
 ·rfl
attribute [go_sem] Tryz.f161
@[go_sem] def c_cclose:Ct Tryz.prog:=⟨161,arg kCh fun c=>pu (.tup [.agg [.int .u64 (cclC c).1.id, .int .u64 (cclC c).1.loc, .int .u64 (cclC c).1.rem, .int .u64 (cclC c).1.res, .int .u64 (cclC c).1.most, .sl (hds (cclC c).1.holds), .bool (cclC c).1.op], .int .i64 (cclC c).2]),arg_ok fun c=>ret_ok fun _=>by
 refine run [c_ccheck] Tryz.f161 lv161 fun hT=>vc ?_
 have hc0:chkC c=0↔okCh c:=by unfold chkC;split<;>rename_i h<;>simp only [h]<;>decide
 have hbad:∀k,cclE c=k→¬k=0→(0=((cclC c).1.id:Int)∧0=((cclC c).1.loc:Int)∧0=((cclC c).1.rem:Int)∧0=((cclC c).1.res:Int)∧0=((cclC c).1.most:Int)∧hds (cclC c).1.holds=[]∧false=(cclC c).1.op)∧k=(cclC c).2:=fun k hk h0=>by
  have:cclC c=(default,k):=by rw [cclC,if_neg (by rw [hk];exact h0),hk]
  rw [this];exact⟨⟨rfl,rfl,rfl,rfl,rfl,rfl,rfl⟩,rfl⟩
 refine⟨fun h1=> ?_,fun h1=>hbad 1 (by rw [cclE,if_pos fun h=>h1 (hc0.2 h)]) (by decide)⟩
 have hok:=hc0.1 h1
 refine⟨fun h3 _=> ?_,fun h3=>hbad 14 (by rw [cclE,if_neg (fun h=>h hok),if_pos h3]) (by decide)⟩
 have h3':¬c.op=false:=by rw [h3];decide
 refine⟨fun h4=>hbad 10 (by rw [cclE,if_neg (fun h=>h hok),if_neg h3',if_pos (by omega)]) (by decide),fun h4=> ?_⟩
 have e:cclE c=0:=by rw [cclE,if_neg (fun h=>h hok),if_neg h3',if_neg (by omega)]
 rw [cclC,if_pos e]
 exact⟨⟨rfl,rfl,rfl,rfl,rfl,rfl,rfl⟩,rfl⟩⟩
attribute [go_sem] Tryz.f69 Tryz.f114 Tryz.f146
def lclL (l:List Ch) (id:Nat):List Ch×Int:=
 if okLd l then(if Srt.thr Ch.id ltN l id=true then(if cclE (l.getD (Srt.pos Ch.id ltN l id) default)=0 then(l.set (Srt.pos Ch.id ltN l id) (cclC (l.getD (Srt.pos Ch.id ltN l id) default)).1,0)else([],cclE (l.getD (Srt.pos Ch.id ltN l id) default)))else([],5))else([],1)
attribute [go_sem] Tryz.f81
@[go_sem] def c_lclose:Ct Tryz.prog:=⟨81,arg kChs fun l=>arg kU64 fun id=>pu (.tup [.sl (chs (lclL l id).1), .int .i64 (lclL l id).2]),arg_ok fun l=>arg_ok fun id=>ret_ok fun _=>by
 refine run [c_place,c_cclose,c_owns] Tryz.f81 lv81 fun hT=>vc ?_
 refine cl hT Tryz.f114 lv114 (vc ?_)
 by_cases hok:okLd l
 ·by_cases ht:Srt.thr Ch.id ltN l id=true
  ·have e1:placeL l id=(((Srt.pos Ch.id ltN l id:Nat):Int),0):=by rw [placeL,if_pos hok,if_pos ht]
   have hp:Srt.pos Ch.id ltN l id<l.length:=by
    unfold Srt.thr at ht
    exact(of_decide_eq_true ht).1
   rw [e1,Int.toNat_natCast,lclL,if_pos hok,if_pos ht]
   have h32:l.length≤1000000∧∀c∈l,c.holds.length≤1000000:=⟨by have:=hok.1;omega,fun c hc=>by have:=(hok.2.1 c hc).2.2.1;omega⟩
   rw [cclC_2]
   refine⟨fun _=>⟨⟨by omega,by omega⟩,fun h0=> ?_,fun h0=> ?_⟩,fun h=>absurd rfl h⟩
   ·rw [if_pos h0]
    exact⟨h32,by omega,hp,⟨by simp,_,_,_,rfl⟩,rfl⟩
   ·rw [if_neg h0]
    exact⟨rfl,rfl⟩
  ·have e1:placeL l id=(0,5):=by rw [placeL,if_pos hok,if_neg ht]
   have e2:lclL l id=([],5):=by rw [lclL,if_pos hok,if_neg ht]
   rw [e1,e2]
   exact⟨fun h=>absurd h (by decide),fun _=>⟨rfl,rfl⟩⟩
 ·have e1:placeL l id=(0,1):=by rw [placeL,if_neg hok]
  have e2:lclL l id=([],1):=by rw [lclL,if_neg hok]
  rw [e1,e2]
  exact⟨fun h=>absurd h (by decide),fun _=>⟨rfl,rfl⟩⟩⟩
open Go Go.Proofs Go.IntWalk
def nowI (x:Iv) (tick:Nat):Int:=if x.state=1∧x.till<tick then 4 else x.state
attribute [go_sem] Tryz.f164
@[go_sem] def c_inow:Ct Tryz.prog:=⟨164,arg kIv fun x=>arg kU64 fun tick=>pu (.int .i64 (nowI x tick)),arg_ok fun x=>arg_ok fun tick=>ret_ok fun _=>by
 refine run [] Tryz.f164 lv164 fun hT=>vc ?_
 unfold nowI
 refine⟨fun h1=>⟨fun h2=> ?_,fun h2=> ?_⟩,fun h1=> ?_⟩
 ·rw [if_pos ⟨h1,by omega⟩]
 ·rw [if_neg (by rintro⟨_,h⟩;omega)]
 ·rw [if_neg (by rintro⟨h,_⟩;exact h1 h)]⟩
attribute [go_sem] Tryz.f141
@[go_sem] def c_ivclonef:Ct Tryz.prog:=⟨141,arg kIvs fun l=>ret (l.length≤1000000) (.vec 0 l.length) ([(4,51,true,ivs l)]),arg_ok fun l=>retF_ok fun hl=>by
 refine runF [] Tryz.f141 lv141 fun hT=>vc ?_
 refine fun b hb=>⟨fun h=> ?_,fun h=> ?_⟩
 ·exact⟨[none],by simp [go_sem,hb h],by cases l<;>simp_all [go_sem,ivs]⟩
 ·exact⟨by omega,[some 0],by simp [go_sem]⟩⟩
attribute [go_sem] Tryz.f64 Tryz.f144
def overI (tick:Nat) (x:Iv):Bool:=decide (nowI x tick=4∨x.state=3)
def sweepI (l:List Iv) (tick:Nat):List Iv×Int:=if okIv l then(l.filter fun x=> !overI tick x,0)else([],1)
attribute [go_sem] Tryz.f84 Tryz.f221 Tryz.f163
@[go_sem] def c_isweep:Ct Tryz.prog:=⟨84,arg kIvs fun l=>arg kU64 fun tick=>pu (.tup [.sl (ivs (sweepI l tick).1), .int .i64 (sweepI l tick).2]),arg_ok fun l=>arg_ok fun tick=>ret_ok fun _=>by
 refine run [c_icheck,c_inow,c_ivclonef] Tryz.f84 lv84 fun hT=>vc ?_
 have hcz:chkI l=0↔okIv l:=by unfold chkI;split<;>rename_i h<;>simp only [h]<;>decide
 refine⟨fun h0=> ?_,fun h0=>by
  have hno:¬okIv l:=fun h=>h0 (hcz.2 h)
  rw [sweepI,chkI,if_neg hno,if_neg hno];exact⟨rfl,rfl⟩⟩
 have hok:=hcz.1 h0
 have h256:=hok.1
 refine⟨by omega, ?_⟩
 refine ACall.sld ?_
 refine acall_introM (n:=42) (fn:=Tryz.f165) (by kernel_rfl) rfl rfl rfl (Nat.le_of_ble_eq_true rfl) (rs:=[.tmp 4]) rfl ?_
 refine SWm.seq (SWm.awp hT.toS lv165 rfl ?_)
 refine vc ?_
 refine SWm.seq (SWm.awp hT.toS lv165 rfl ?_)
 refine vc ?_
 refine cl hT Tryz.f221 lv221 (vc ?_)
 refine fun _=>SWp.loop (ι:={i:Nat // i≤l.length∧∀j,j<i→overI tick (l.getD j default)=false}) (fun i=>⟨[(0, .vec 1 l.length),(1, .fn (.func 163) [] [.ref 0 0]),(7, .int .i64 l.length),(8, .int .i64 i.1)],
  [(1, .vec true 4 51 (ivs l)),(0, .box [.c (.int .u64 tick)])],2⟩) (fun i=>l.length - i.1) ⟨0,by simp⟩ ?_ ?_
 ·simp [go_sem]
 ·rintro⟨i,hi,hall⟩
  refine aw hT lv221 (vc ?_)
  refine⟨fun h4=>⟨by omega,by omega, ?_⟩,fun h4=> ?_⟩
  ·skip
   refine cl hT Tryz.f163 lv163 (vc ?_)
   have hi':i<l.length:=by omega
   have hov:∀x:Iv,overI tick x=true↔nowI x tick=4∨x.state=3:=fun x=>decide_eq_true_iff
   have hb0:overI tick (l.getD i default)=true→l.take i=(l.take (i+1)).filter (fun y=> !overI tick y):=fun hv=>by
    rw [take_succ hi',List.filter_append,List.filter_eq_self.2 (fun x hx=> ?_),List.filter_cons_of_neg (by rw [hv];decide),List.filter_nil,List.append_nil]
    obtain⟨j,hj,rfl⟩:=mem_getD.1 hx
    rw [List.length_take]at hj
    rw [List.getD_eq_getElem?_getD,List.getElem?_take_of_lt (by omega),←List.getD_eq_getElem?_getD,hall j (by omega)];rfl
   refine⟨fun h1=>⟨fun h2=> ?_,fun h2=>⟨⟨i+1,by omega,fun j hj=> ?_⟩,by dsimp only;omega,i64_in _ (by omega)⟩⟩,fun h1=> ?_⟩
   rotate_left 1
   ·by_cases hji:j=i
    ·subst hji
     have:¬overI tick (l.getD j default)=true:=fun h=>by
      rcases(hov _).1 h with h|h
      ·exact h1 h
      ·exact h2 h
     simpa using this
    ·exact hall j (by omega)
   all_goals
    have hb1:=hb0 ((hov _).2 (by first|exact .inl h1|exact .inr h2))
    refine SWm.seq (SWm.awp hT.toS lv165 rfl ?_)
    refine vc ?_
    refine⟨fun h=>h.elim, ?_⟩
    refine SWm.seq (SWm.seq (SWm.awp hT.toS lv165 rfl ?_))
    refine vc ?_
    rw [i64_in _ (by omega)]
    refine SWm.block (SWm.of (SWp.loop (ι:={x:Nat×Nat×List Iv // x.1<x.2.1∧x.2.1≤l.length∧x.2.2.length=l.length∧x.2.2.take x.1=(l.take x.2.1).filter (fun y=> !overI tick y)∧x.2.2.drop x.2.1=l.drop x.2.1})
     (fun x=>⟨[(0, .vec 1 l.length),(1, .fn (.func 163) [] [.ref 0 0]),(5, .int .i64 x.1.1),(6, .int .i64 x.1.2.1)],
      [(2, .box [.c (.int .u64 (l.getD i default).hash), .c (.int .u64 (l.getD i default).n), .c (.int .u64 (l.getD i default).till), .c (.int .i64 (l.getD i default).state)]),(1, .vec true 4 51 (ivs x.1.2.2)),(0, .box [.c (.int .u64 tick)])],3⟩) (fun x=>l.length - x.1.2.1) ⟨(i,i+1,l),by dsimp only;omega,by dsimp only;omega,rfl,hb1,rfl⟩ ?_ ?_))
   all_goals first|(simp [go_sem];done)|skip
   all_goals
    rintro⟨⟨k,j,m⟩,hkj,hj,hml,hmt,hmd⟩
    refine awp_sound hT.toS lv165 _ _ _ rfl ?_
    refine vc ?_
    dsimp only at hkj hj hml hmt hmd
    refine fun _=>⟨fun h5=>⟨by omega,⟨hml.symm,by omega⟩, ?_⟩,fun h5=> ?_⟩
    ·skip
     refine cl hT Tryz.f163 lv163 (vc ?_)
     have hj':j<l.length:=by omega
     have hmj:m.getD j default=l.getD j default:=by
      have h6:(m.drop j)[0]? =(l.drop j)[0]? :=by rw [hmd]
      rw [List.getElem?_drop,List.getElem?_drop,Nat.add_zero]at h6
      rw [List.getD_eq_getElem?_getD,h6,←List.getD_eq_getElem?_getD]
     have hmd2:m.drop (j+1)=l.drop (j+1):=by
      rw [←List.drop_drop,hmd,List.drop_drop]
     have hgo:overI tick (l.getD j default)=true→m.take k=(l.take (j+1)).filter (fun y=> !overI tick y):=fun hv=>by
      rw [take_succ hj',List.filter_append,List.filter_cons_of_neg (by rw [hv];decide),List.filter_nil,List.append_nil,hmt]
     have hkeep:¬overI tick (l.getD j default)=true→(m.set k (l.getD j default)).take (k+1)=(l.take (j+1)).filter (fun y=> !overI tick y):=fun hv=>by
      rw [take_succ hj',List.filter_append,List.filter_cons_of_pos (by simpa using hv),List.filter_nil,←hmt,List.take_set,take_succ (by omega),List.set_append_right _ _ (by rw [List.length_take];omega),List.length_take,show k - min k m.length=0 by omega]
      rfl
     rw [hmj]
     refine⟨fun h6=>⟨fun h7=>⟨⟨(k,j+1,m),by dsimp only;omega,hj',hml,hgo ((hov _).2 (.inr h7)),hmd2⟩,by dsimp only;omega,⟨rfl,i64_in _ (by omega)⟩,rfl⟩,fun h7=>⟨by omega,⟨hml.symm,by omega⟩,⟨(k+1,j+1,m.set k (l.getD j default)),by dsimp only;omega,hj',by dsimp only;rw [List.length_set];exact hml,hkeep (fun h=>by rcases(hov _).1 h with h|h<;>first|exact h6 h|exact h7 h), ?_⟩,by dsimp only;omega,⟨i64_in _ (by omega),i64_in _ (by omega)⟩,rfl⟩⟩,
      fun h6=>⟨⟨(k,j+1,m),by dsimp only;omega,hj',hml,hgo ((hov _).2 (.inl h6)),hmd2⟩,by dsimp only;omega,⟨rfl,i64_in _ (by omega)⟩,rfl⟩⟩
     dsimp only
     rw [List.drop_set_of_lt (by omega)];exact hmd2
    ·have hj':j=l.length:=by omega
     subst hj'
     refine SWm.opn 1 rfl fun cp hc hcm=> ?_
     rw [ivs_length]at hc
     refine SWm.awp hT.toS lv165 rfl ?_
     simp -implicitDefEqProofs only [cdA,go_sem,List.map_cons,List.map_nil,hml,eq_self,simprocAttr, -Int.reduceEq,List.cons.injEq,cdB]
     have hsw:sweepI l tick=(m.take k,0):=by rw [sweepI,if_pos hok,hmt,List.take_length]
     have hkl:(m.take k).length=k:=by rw [List.length_take];omega
     have hfin:∀Z:List (List C),List.take k (fit cp 4 (List.take k (fit cp 4 (ivs m))++Z))=ivs (m.take k):=fun Z=>by
      rw [fit_take (by rw [List.length_append,List.length_take,fit_length];omega) (by omega),List.take_append_of_le_length (by rw [List.length_take,fit_length];omega),List.take_take,Nat.min_self,fit_take (by rw [ivs_length];omega) (by omega)]
      simp [ivs,List.map_take]
     rw [hfin,hsw]
     exact⟨by omega,by omega,⟨hkl.symm,_,_,_,rfl⟩,rfl⟩
  ·have hi':i=l.length:=by omega
   subst hi'
   have hsw:sweepI l tick=(l,0):=by
    rw [sweepI,if_pos hok,List.filter_eq_self.2 fun x hx=> ?_]
    obtain⟨j,hj,rfl⟩:=mem_getD.1 hx
    rw [hall j (by omega)];rfl
   refine SWm.seq (SWm.awp hT.toS lv165 rfl ?_)
   refine vc ?_
   rw [hsw]
   exact⟨⟨rfl,_,_,_,rfl⟩,rfl⟩⟩
open Go Go.Proofs Go.IntWalk
theorem hid_eq {l:List Ch} {p:Nat} {d:Ch} (hp:p<l.length) (hh:d.holds=(l.getD p default).holds):hidL (l.set p d)=hidL l:=by
 conv=>rhs;rw [split_at hp]
 rw [split_set hp]
 simp only [hidL,List.flatMap_append,List.flatMap_cons,hh]
theorem hl_eq {l:List Ch} {p:Nat} {d:Ch} (hp:p<l.length) (hi:d.id=(l.getD p default).id) (hh:d.holds=(l.getD p default).holds):hlL (l.set p d)=hlL l:=by
 conv=>rhs;rw [split_at hp]
 rw [split_set hp]
 simp only [hlL,hlC,List.flatMap_append,List.flatMap_cons,hh,hi]
theorem led_set {l:List Ch} {p:Nat} {d:Ch} (hok:okLd l) (hp:p<l.length) (hd:okCh d) (hi:d.id=(l.getD p default).id) (hh:d.holds=(l.getD p default).holds) (ha:allC d=allC (l.getD p default)):
 okLd (l.set p d)∧hlL (l.set p d)=hlL l:=by
 have hu:Srt.Up Ch.id ltN l:=(Srt.chn_up (lt:=ltN) Srt.totNat).1 hok.2.2.1
 refine⟨⟨by rw [List.length_set];exact hok.1,fun y hy=> ?_, ?_, ?_, ?_⟩,hl_eq hp hi hh⟩
 ·rcases List.mem_or_eq_of_mem_set hy with h|rfl
  ·exact hok.2.1 y h
  ·exact hd
 ·exact(Srt.chn_up (lt:=ltN) Srt.totNat).2 (Srt.set_up hu hp hi)
 ·rw [hid_eq hp hh];exact hok.2.2.2.1
 ·rw [totL_set hp ha];exact hok.2.2.2.2
theorem ccl_ok {c:Ch} (h:cclE c=0):okCh c∧c.op=true∧c.holds=[]∧cclC c=(⟨c.id,c.loc,c.rem,c.res,c.most,[],false⟩,0)∧okCh (cclC c).1∧allC (cclC c).1=allC c:=by
 have e:cclC c=(⟨c.id,c.loc,c.rem,c.res,c.most,[],false⟩,0):=by rw [cclC,if_pos h]
 unfold cclE at h
 split at h
 ·cases h
 rename_i h1
 split at h
 ·cases h
 rename_i h2
 split at h
 ·cases h
 rename_i h3
 have hok:okCh c:=Decidable.byContradiction h1
 have hh:c.holds=[]:=List.eq_nil_of_length_eq_zero (by omega)
 obtain⟨o1,o2,o3,o4,o5,o6,o7,o8,o9,o10⟩:=hok
 have hok:okCh c:=⟨o1,o2,o3,o4,o5,o6,o7,o8,o9,o10⟩
 rw [hh]at o3 o5 o6 o7 o10
 have hok2:okCh (⟨c.id,c.loc,c.rem,c.res,c.most,[],false⟩:Ch):=⟨o1,o2,o3,fun _=>rfl,o5,o6,o7,o8,o9,o10⟩
 refine⟨hok,by simpa using h2,hh,e,by rw [e];exact hok2, ?_⟩
 rw [e]
 unfold allC sumsC
 rw [if_pos hok2,if_pos hok,hh]
theorem lcl_all {l:List Ch} {id:Nat} (h:(lclL l id).2=0):okLd l∧∃p,p<l.length∧(l.getD p default).id=id∧cclE (l.getD p default)=0∧(lclL l id).1=l.set p (cclC (l.getD p default)).1∧okLd (lclL l id).1∧hlL (lclL l id).1=hlL l:=by
 unfold lclL at h⊢
 split at h
 ·rename_i hok
  split at h
  ·rename_i ht
   split at h
   ·rename_i he
    obtain⟨h1,h2⟩:=thr_at ht
    obtain⟨g1,g2,g3,g4,g5,g6⟩:=ccl_ok he
    rw [if_pos hok,if_pos ht,if_pos he]
    have h3:=led_set hok h1 g5 (by rw [g4]) (by rw [g4,g3]) g6
    exact⟨hok,_,h1,h2,he,rfl,h3⟩
   ·rename_i he;exact absurd h he
  ·cases h
 ·cases h
theorem lcl_fine {l:List Ch} {id:Nat} (h:(lclL l id).2=0):okLd (lclL l id).1:=by
 obtain⟨_,_,_,_,_,_,h,_⟩:=lcl_all h;exact h
theorem sweep_ok {l:List Iv} {tick:Nat} (h:(sweepI l tick).2=0):okIv l∧okIv (sweepI l tick).1∧(sweepI l tick).1=l.filter fun x=> !overI tick x:=by
 unfold sweepI at h⊢
 split at h
 ·rename_i h1
  rw [if_pos h1]
  have hs:(l.filter fun x=> !overI tick x).Sublist l:=List.filter_sublist
  refine⟨h1,⟨Nat.le_trans hs.length_le h1.1,fun x hx=>h1.2.1 x (hs.subset hx), ?_⟩,rfl⟩
  exact(Srt.chn_up (lt:=ltN) Srt.totNat).2 (List.Pairwise.sublist hs ((Srt.chn_up (lt:=ltN) Srt.totNat).1 h1.2.2))
 ·cases h
open Go Go.Proofs Go.IntWalk
@[go_sem] theorem Hd.eqD {a b:Hd}:eqD Tryz.prog 49 [D.c (.int .u64 (a.id:Int)),D.c (.int .u64 (a.n:Int))] [D.c (.int .u64 (b.id:Int)),D.c (.int .u64 (b.n:Int))]=some (decide (a=b)):=by
 cases a;cases b
 simp only [Dm.eqD,eqOf_49,eqCells,eqC,List.getElem?_cons_zero,List.getElem?_cons_succ,if_true,Option.some.injEq,Hd.mk.injEq]
 rw [Bool.eq_iff_iff]
 simp [Int.ofNat_inj]
open Go Go.Proofs Go.IntWalk
attribute [go_sem] Tryz.f172
@[go_sem] def c_r13holds:Ct Tryz.prog:=⟨172,arg kChs fun cs=>arg kU64 fun id=>arg kHd fun h=>pu (.bool (decide ((id,h.id,h.n)∈hlL cs))),arg_ok fun cs=>arg_ok fun id=>arg_ok fun h=>ret_ok fun _=>by
 refine run [] Tryz.f172 lv172 fun hT=>vc ?_
 refine fun hl=>SWp.loop (ι:={i:Nat // i≤cs.length∧(id,h.id,h.n)∉hlL (cs.take i)}) (fun i=>⟨[(1, .c (.int .u64 id)),(5, .ref 0 0),(11, .sl (chs cs)),(12, .int .i64 cs.length),(13, .int .i64 i.1)],[(0, .box [.c (.int .u64 h.id), .c (.int .u64 h.n)])],1⟩) (fun i=>cs.length - i.1) ⟨0,by simp [hlL]⟩ ?_ ?_
 ·simp [go_sem]
 ·rintro⟨i,hi,hnot⟩
  refine aw hT lv172 (vc ?_)
  refine⟨fun h1=>⟨by omega,fun hhl=> ?_⟩,fun h1=> ?_⟩
  ·have hi':i<cs.length:=by omega
   have hsu:hlL (cs.take (i+1))=hlL (cs.take i)++hlC (cs.getD i default):=by
    rw [take_succ hi',hlL_app];simp [hlL]
   generalize hc:cs.getD i default=c at*
   refine SWp.loop (ι:={k:Nat // k≤c.holds.length∧∀j,j<k→¬(c.id=id∧c.holds.getD j default=h)}) (fun k=>⟨[(1, .c (.int .u64 id)),(5, .ref 0 0),(8, .ref 1 0),(11, .sl (chs cs)),(12, .int .i64 cs.length),(13, .int .i64 i),(18, .c (.sl (hds c.holds))),(19, .int .i64 c.holds.length),(20, .int .i64 k.1)],
    [(1, .box [.c (.int .u64 c.id), .c (.int .u64 c.loc), .c (.int .u64 c.rem), .c (.int .u64 c.res), .c (.int .u64 c.most), .c (.sl (hds c.holds)), .c (.bool c.op)]),(0, .box [.c (.int .u64 h.id), .c (.int .u64 h.n)])],2⟩) (fun k=>c.holds.length - k.1) ⟨0,by simp⟩ ?_ ?_
   ·simp [go_sem]
   ·rintro⟨k,hk,hin⟩
    refine aw hT lv172 (vc ?_)
    have hin1:∀a b n,(a,b,n)∈hlC c↔c.id=a∧∃x∈c.holds,x.id=b∧x.n=n:=fun a b n=>by
     unfold hlC
     rw [List.mem_map]
     constructor
     ·rintro⟨x,hx,he⟩
      simp only [Prod.mk.injEq]at he
      exact⟨he.1,x,hx,he.2⟩
     ·rintro⟨he,x,hx,h1,h2⟩
      exact⟨x,hx,by rw [he,h1,h2]⟩
    have hgo:(¬(c.id=id∧c.holds.getD k default=h))→k<c.holds.length→∃j:{k:Nat // k≤c.holds.length∧∀j,j<k→¬(c.id=id∧c.holds.getD j default=h)},c.holds.length - j.1<c.holds.length - k∧IntKind.i64.wrap ((k:Int)+1)=j.1:=fun hn hk'=>by
     refine⟨⟨k+1,hk',fun j hj=> ?_⟩,by dsimp only;omega,i64_in _ (by omega)⟩
     by_cases hji:j=k
     ·subst hji;exact hn
     ·exact hin j (by omega)
    refine⟨fun h2=>⟨by omega,fun h3=>⟨fun h4=>(decide_eq_true ?_).symm,fun h4=>hgo (fun h=>h4 h.2) (by omega)⟩,fun h3=>hgo (fun h=>h3 (by omega)) (by omega)⟩,fun h2=>⟨⟨i+1,hi', ?_⟩,by dsimp only;omega,i64_in _ (by omega)⟩⟩
    ·refine List.mem_flatMap.2 ⟨c,by rw [←hc];exact mem_getD.2 ⟨i,hi',rfl⟩,(hin1 _ _ _).2 ⟨by omega,h, ?_,rfl,rfl⟩⟩
     rw [←h4];exact mem_getD.2 ⟨k,by omega,rfl⟩
    ·rw [hsu,List.mem_append,not_or]
     refine⟨hnot,fun hm=> ?_⟩
     obtain⟨g1,x,hx,g2,g3⟩:=(hin1 _ _ _).1 hm
     obtain⟨j,hj,rfl⟩:=mem_getD.1 hx
     refine hin j (by omega) ⟨g1, ?_⟩
     cases hh:c.holds.getD j default with
     |mk a b=>rw [hh]at g2 g3;cases h;simp_all
  ·have hi':i=cs.length:=by omega
   subst hi'
   rw [List.take_length]at hnot
   exact(decide_eq_false hnot).symm⟩
attribute [go_sem] Tryz.f94
@[go_sem] def c_r13agree:Ct Tryz.prog:=⟨94,arg kPys fun l=>arg kChs fun cs=>ret (∀c∈cs,c.holds.length≤1000000) (.tup [.bool (agrL l cs).1, .int .i64 (agrL l cs).2]) [],arg_ok fun l=>arg_ok fun cs=>ret_ok fun hs=>by
 refine run [c_r13check,c_r13holds] Tryz.f94 lv94 fun hT=>vc ?_
 have hbad:¬(okPy l∧cs.length≤32∧(cs.map Ch.id).Nodup)→false=(agrL l cs).1∧1=(agrL l cs).2:=fun h=>by rw [agrL,if_neg h];exact⟨rfl,rfl⟩
 have hcz:chkP l=0↔okPy l:=by unfold chkP;split<;>rename_i h<;>simp only [h]<;>decide
 refine⟨fun h0 hl=>⟨fun h=>hbad fun ho=> ?_,fun hle _=> ?_⟩,fun h0=>hbad fun h=>h0 (hcz.2 h.1)⟩
 ·have:=ho.2.1;omega
 have hok:=hcz.1 h0
 refine SWp.loop (ι:={i:Nat // i≤cs.length∧((cs.take i).map Ch.id).Nodup}) (fun i=>⟨[(0, .sl (pys l)),(1, .sl (chs cs)),(6, .int .i64 (hlL (cs.take i.1)).length),(22, .sl (chs cs)),(23, .int .i64 cs.length),(24, .int .i64 i.1)],[],0⟩) (fun i=>cs.length - i.1) ⟨0,by simp⟩ ?_ ?_
 ·simp [go_sem,hlL]
 ·rintro⟨i,hi,hnd⟩
  refine aw hT lv94 (vc ?_)
  refine⟨fun h1=>⟨by omega,by omega,fun _=> ?_⟩,fun h1 _=> ?_⟩
  ·have hi':i<cs.length:=by omega
   have hlen:(cs.take i).length=i:=by rw [List.length_take];omega
   have hidl:(cs.take (i+1)).map Ch.id=(cs.take i).map Ch.id++[(cs.getD i default).id]:=by rw [take_succ hi',List.map_append];rfl
   have hsu:(hlL (cs.take (i+1))).length=(hlL (cs.take i)).length+(cs.getD i default).holds.length:=by
    rw [take_succ hi',hlL_app,List.length_append];simp [hlL,hlC]
   have hb1:=hs _ (mem_getD.2 ⟨i,hi',rfl⟩)
   have hb2:=hl_len (cs:=cs.take i) (n:=32) (fun c hc=>hs c (List.mem_of_mem_take hc)) (by omega)
   generalize hc:cs.getD i default=c at*
   refine SWp.loop (ι:={k:Nat // k≤(cs.take i).length∧∀j,j<k→((cs.take i).getD j default).id≠c.id}) (fun k=>⟨[(0, .sl (pys l)),(1, .sl (chs cs)),(6, .int .i64 (hlL (cs.take i)).length),(8, .ref 0 0),(22, .sl (chs cs)),(23, .int .i64 cs.length),(24, .int .i64 i),(31, .c (.sl (chs (cs.take i)))),(32, .int .i64 (cs.take i).length),(33, .int .i64 k.1)],
    [(0, .box [.c (.int .u64 c.id), .c (.int .u64 c.loc), .c (.int .u64 c.rem), .c (.int .u64 c.res), .c (.int .u64 c.most), .c (.sl (hds c.holds)), .c (.bool c.op)])],1⟩) (fun k=>(cs.take i).length - k.1) ⟨0,by simp⟩ ?_ ?_
   ·simp [go_sem]
   ·rintro⟨k,hk,hin⟩
    refine aw hT lv94 (vc ?_)
    refine⟨fun h2=>⟨by omega,fun h3=>hbad fun ho=> ?_,fun h3=>⟨⟨k+1,by omega,fun j hj=> ?_⟩,by dsimp only;omega,i64_in _ (by omega)⟩⟩,fun h2 _=>⟨⟨i+1,hi', ?_⟩,by dsimp only;omega,by rw [i64_in _ (by omega),hsu];omega,i64_in _ (by omega)⟩⟩
    ·have h4:(cs.map Ch.id).Nodup:=ho.2.2
     rw [←List.take_append_drop (i+1) cs,List.map_append]at h4
     have h5:=(List.nodup_append.1 h4).1
     rw [hidl,List.nodup_append]at h5
     exact h5.2.2 _ (List.mem_map.2 ⟨_,mem_getD.2 ⟨k,by omega,rfl⟩,rfl⟩) _ (.head _) (by omega)
    ·by_cases hji:j=k
     ·subst hji;omega
     ·exact hin j (by omega)
    ·rw [hidl,List.nodup_append]
     refine⟨hnd,List.nodup_cons.2 ⟨by simp,List.nodup_nil⟩,fun a ha b hb=> ?_⟩
     rw [List.mem_singleton]at hb
     obtain⟨x,hx,rfl⟩:=List.mem_map.1 ha
     obtain⟨j,hj,rfl⟩:=mem_getD.1 hx
     rw [hb];exact hin j (by omega)
  ·have hi':i=cs.length:=by omega
   subst hi'
   rw [List.take_length]at hnd⊢
   have hb2:=hl_len (cs:=cs) (n:=32) hs (by omega)
   have hA:agrL l cs=(decide ((∀p∈pend l,(p.chan,p.id,p.n)∈hlL cs)∧(hlL cs).length=(pend l).length),0):=by rw [agrL,if_pos ⟨hok,by omega,hnd⟩]
   have hl256:=hok.1
   refine SWp.loop (ι:={i:Nat // i≤l.length∧∀q∈pend (l.take i),(q.chan,q.id,q.n)∈hlL cs}) (fun i=>⟨[(1, .sl (chs cs)),(6, .int .i64 (hlL cs).length),(11, .int .i64 (pend (l.take i.1)).length),(49, .sl (pys l)),(50, .int .i64 l.length),(51, .int .i64 i.1)],[],0⟩) (fun i=>l.length - i.1) ⟨0,by simp,by simp [pend]⟩ ?_ ?_
   ·simp [go_sem,pend]
   ·rintro⟨i,hi,hall⟩
    refine aw hT lv94 (vc ?_)
    rw [hA]
    have hple:(pend (l.take i)).length≤i:=Nat.le_trans List.filter_sublist.length_le (by rw [List.length_take];exact Nat.min_le_left _ _)
    refine⟨fun h2=> ?_,fun h2=> ?_⟩
    ·have hi':i<l.length:=by omega
     have hsp:pend (l.take (i+1))=pend (l.take i)++(if(l.getD i default).state=1 then [l.getD i default]else []):=by
      rw [take_succ hi',pend_app]
      congr 1
      unfold pend
      split
      ·rename_i h;rw [List.filter_cons_of_pos (by simpa using h),List.filter_nil]
      ·rename_i h;rw [List.filter_cons_of_neg (by simpa using h),List.filter_nil]
     refine⟨by omega,fun h3=>⟨fun h4=>⟨⟨i+1,hi',fun q hq=> ?_⟩,by dsimp only;omega,by rw [i64_in _ (by omega),hsp,if_pos h3,List.length_append,List.length_singleton];omega,i64_in _ (by omega)⟩,fun h4=>⟨(decide_eq_false fun h=>h4 (h.1 _ (mem_pend.2 ⟨mem_getD.2 ⟨i,hi',rfl⟩,h3⟩))).symm,rfl⟩⟩,fun h3=>⟨⟨i+1,hi',fun q hq=> ?_⟩,by dsimp only;omega,by rw [hsp,if_neg h3,List.append_nil],i64_in _ (by omega)⟩⟩
     ·rw [hsp,if_pos h3,List.mem_append,List.mem_singleton]at hq
      rcases hq with hq|rfl
      ·exact hall q hq
      ·exact h4
     ·rw [hsp,if_neg h3,List.append_nil]at hq;exact hall q hq
    ·have hi':i=l.length:=by omega
     subst hi'
     rw [List.take_length]at hall⊢
     refine⟨decide_eq_decide.2 ⟨fun h=>⟨hall,by omega⟩,fun h=>by rw [h.2]⟩,rfl⟩⟩
open Go Go.Proofs Go.IntWalk
attribute [go_sem] Tryz.f29
@[go_sem] def c_r17check:Ct Tryz.prog:=⟨29,arg kWl fun w=>ret (w.f.next≤18446744073709551615) (.int .i64 (chkW w)) [],arg_ok fun w=>ret_ok fun h=>by
 refine run [c_r10check,c_r12check,c_r13check,c_r16check,c_r13agree] Tryz.f29 lv29 fun hT=>vc ?_
 have hbad:¬okW w→1=chkW w:=fun h=>by rw [chkW,if_neg h]
 have hl0:chkL w.c=0↔okLd w.c:=by unfold chkL;split<;>rename_i h<;>simp only [h]<;>decide
 have hi0:chkI w.i=0↔okIv w.i:=by unfold chkI;split<;>rename_i h<;>simp only [h]<;>decide
 have hp0:chkP w.p=0↔okPy w.p:=by unfold chkP;split<;>rename_i h<;>simp only [h]<;>decide
 refine⟨fun h1=>⟨fun h2=>⟨fun h3=>⟨h,fun h4 _=>⟨fun h5=>⟨fun h6=>⟨fun h7=>hbad fun ho=> ?_,fun h7 _=> ?_⟩,fun h6=>hbad fun ho=> ?_⟩,fun h5=>hbad fun ho=> ?_⟩,fun h4=>hbad fun ho=>h4 (chkF_0.2 ho.2.2.1)⟩,fun h3=>hbad fun ho=>h3 (hp0.2 (agr_parts.1 ho.2.2.2.2.2.2.2).1)⟩,fun h2=>hbad fun ho=>h2 (hi0.2 ho.2.1)⟩,fun h1=>hbad fun ho=>h1 (hl0.2 ho.1)⟩
 ·have:=ho.2.2.2.2.2.1;unfold MM at this;omega
 rotate_left 1
 ·have:=ho.2.2.2.2.1;omega
 ·have:=ho.2.2.2.1;omega
 have hpok:=hp0.1 h3
 have hp256:=hpok.1
 have hL:=hl0.1 h1
 refine SWp.loop (ι:={i:Nat // i≤w.p.length∧∀j,j<i→(w.p.getD j default).id<w.next}) (fun i=>⟨[(1, .ref 0 0),(46, .sl (pys w.p)),(47, .int .i64 w.p.length),(48, .int .i64 i.1)],
  [(0, .box [.sl (chs w.c), .sl (wts w.w), .sl (ivs w.i), .sl (pys w.p), .c (.int .u64 w.f.next), .sl (evs w.f.l), .c (.int .u64 w.next), .c (.int .u64 w.tick)])],1⟩) (fun i=>w.p.length - i.1) ⟨0,by simp⟩ ?_ ?_
 ·simp [go_sem]
 ·rintro⟨i,hi,hall⟩
  refine aw hT lv29 (vc ?_)
  refine⟨fun h8=>⟨by omega,fun h9=>hbad fun ho=> ?_,fun h9=>⟨⟨i+1,by omega,fun j hj=> ?_⟩,by dsimp only;omega,i64_in _ (by omega)⟩⟩,fun h8=>⟨fun c hc=>by have:=(hL.2.1 c hc).2.2.1;omega,fun h9=> ?_,fun h9=>hbad fun ho=> ?_⟩⟩
  ·have:=okW_ids ho _ (mem_getD.2 ⟨i,by omega,rfl⟩);omega
  ·by_cases hji:j=i
   ·subst hji;omega
   ·exact hall j (by omega)
  ·have ha:agrL w.p w.c=(true,0):=by
    refine Prod.ext h9 ?_
    unfold agrL at h9⊢
    split at h9
    ·rename_i h;rw [if_pos h]
    ·cases h9
   rw [chkW,if_pos]
   exact⟨hL,hi0.1 h2,chkF_0.1 h4,by omega,by omega,by unfold MM;omega,fun _=>hall _ (by omega),ha⟩
  ·rw [ho.2.2.2.2.2.2.2]at h9;cases h9⟩
attribute [go_sem] Tryz.f131
@[go_sem] def c_r16add:Ct Tryz.prog:=⟨131,arg kFd fun f=>arg kI64 fun k=>arg kU64 fun a=>arg kU64 fun n=>ret (f.next≤18446744073709551615) (.tup [.agg [.int .u64 (addF f k a n).1.next, .sl (evs (addF f k a n).1.l)], .int .u64 (addF f k a n).2.1, .int .i64 (addF f k a n).2.2]) [],arg_ok fun f=>arg_ok fun k=>arg_ok fun a=>arg_ok fun n=>ret_ok fun h=>by
 refine run [c_r16check] Tryz.f131 lv131 fun hT=>vc ?_
 have hbad:∀e:Int,addF f k a n=(⟨0,[]⟩,0,e)→(0=((addF f k a n).1.next:Int)∧evs (addF f k a n).1.l=[])∧0=((addF f k a n).2.1:Int)∧e=(addF f k a n).2.2:=fun e he=>by rw [he];exact⟨⟨rfl,rfl⟩,rfl,rfl⟩
 have hk:kindS k=true↔0≤k∧k<16:=decide_eq_true_iff
 have hno:¬(okFd f∧kindS k=true)→addF f k a n=(⟨0,[]⟩,0,1):=fun h=>by rw [addF,if_neg h]
 refine⟨h,fun h1=>⟨fun h2=>⟨fun h3=>hbad 1 (hno fun h=>by have:=hk.1 h.2;omega),fun h3=>⟨fun h4=>hbad 7 ?_,fun h4=> ?_⟩⟩,fun h2=>hbad 1 (hno fun h=>by have:=hk.1 h.2;omega)⟩,fun h1=>hbad 1 (hno fun h=>h1 (chkF_0.2 h.1))⟩
 ·rw [addF,if_pos ⟨chkF_0.1 h1,hk.2 ⟨by omega,by omega⟩⟩,if_pos (by unfold MM;omega)]
 refine dr us131_5 hT (vc ?_)
 have ho:=chkF_0.1 h1
 have hl64:f.l.length≤64:=by have:=ho.2.2.1;omega
 have hnm:f.next≤4611686018427387904:=ho.2.1
 rw [addF,if_pos ⟨ho,hk.2 ⟨by omega,by omega⟩⟩,if_neg (by unfold MM;omega)]
 refine⟨by omega,by omega,fun _=>⟨fun h5=>⟨by omega, ?_⟩,fun h5=> ?_⟩⟩
 ·refine dr us131_8 hT (vc ?_)
  rw [show f.l.length - 63=1 by omega]
  exact⟨u64_in _ (by omega),rfl,_,_,_,rfl⟩
 ·refine dr us131_8 hT (vc ?_)
  rw [show f.l.length - 63=0 by omega,List.drop_zero,List.length_append]
  exact⟨u64_in _ (by omega),rfl,_,_,_,rfl⟩⟩
open Go Go.Proofs Go.IntWalk
attribute [go_sem] Tryz.f104
@[go_sem] def c_r9copy:Ct Tryz.prog:=⟨104,arg kCh fun c=>ret (c.holds.length≤1000000) (.agg [.int .u64 c.id, .int .u64 c.loc, .int .u64 c.rem, .int .u64 c.res, .int .u64 c.most, .sl (hds c.holds), .bool c.op]) [],arg_ok fun c=>ret_ok fun h=>by
 refine run [] Tryz.f104 lv104 fun hT=>vc ?_
 exact⟨by omega,_,_,_,rfl⟩⟩
attribute [go_sem] Tryz.f35
theorem r10copyg_ok (l:List Ch) (h:l.length≤1000000∧∀c∈l,c.holds.length≤1000000):FreshFn Tryz.prog 35 [.sl (chs l)] (.vec 0 l.length) ([(7,34,true,chs l)]):=by
 refine runF [c_r9copy] Tryz.f35 lv35 fun hT=>vc ?_
 refine fun _=>SWp.nilvec 3 7 34 rfl (Nat.zero_le _) ?_
 refine SWp.loop (ι:={i:Nat // i≤l.length}) (fun i=>⟨[(3, .vec 0 i.1),(6, .sl (chs l)),(7, .int .i64 l.length),(8, .int .i64 i.1)],[(0, .vec true 7 34 (chs (l.take i.1)))],1⟩) (fun i=>l.length - i.1) ⟨0,by simp⟩ ?_ ?_
 ·simp [go_sem];rfl
 ·rintro⟨i,hi⟩
  refine aw hT lv35 (vc ?_)
  refine⟨fun h1=>⟨h1,h.2 _ (mem_getD.2 ⟨i,by omega,rfl⟩),⟨by rw [List.length_take];omega,by rw [List.length_take];omega⟩,⟨i+1,by omega⟩,by dsimp only;omega,⟨rfl,i64_in _ (by omega)⟩,by dsimp only;rw [take_succ (by omega)]⟩,fun h1=> ?_⟩
  have hi':i=l.length:=by omega
  subst hi'
  rw [List.take_length]
  exact⟨[some 0],by simp [go_sem],rfl,rfl⟩
@[go_sem] def c_r10copyp:Ct Tryz.prog:=⟨35,arg kChs fun l=>ret (l.length≤1000000∧∀c∈l,c.holds.length≤1000000) (.sl (chs l)) [],arg_ok fun l=>ret_ok fun h=>by
 refine FreshFn.toPure (r10copyg_ok l h) ?_
 simp [go_sem,pur3,pur2,pur1,pw,news,lk]⟩
attribute [go_sem] Tryz.f7
@[go_sem] def c_r17copyg:Ct Tryz.prog:=⟨7,arg kWl fun w=>ret (smallW w) (.agg [.sl (chs w.c), .sl (wts w.w), .sl (ivs w.i), .sl (pys w.p), .int .u64 w.f.next, .sl (evs w.f.l), .int .u64 w.next, .int .u64 w.tick]) [],arg_ok fun w=>ret_ok fun h=>by
 refine run [c_r10copyp] Tryz.f7 lv7 fun hT=>vc ?_
 refine dr us7_1 hT (vc ?_)
 obtain⟨h1,h2,h3,h4,h5,h6⟩:=h
 exact⟨⟨h1,h2⟩,by omega,by omega,by omega,by omega,⟨_,_,_,rfl⟩,⟨_,_,_,rfl⟩,⟨_,_,_,rfl⟩,_,_,_,rfl⟩⟩
open Go Go.Proofs Go.IntWalk
theorem pos_first {α:Type} [Inhabited α] {key:α→Nat} {l:List α} {i id:Nat} (hu:Srt.Up key ltN l) (hi:i<l.length) (h:key (l.getD i default)=id):Srt.pos key ltN l id=i∧Srt.thr key ltN l id=true:=by
 have h1:Srt.pos key ltN l id=i:=Srt.pos_eq (by omega) (fun j hj=>by have:=Srt.up_get.1 hu j i hj hi;rw [h]at this;exact this) fun _ h2=>by rw [h]at h2;exact absurd h2 (Nat.lt_irrefl _)
 exact⟨h1,(Srt.thr_iff Srt.totNat hu).2 ⟨_,mem_getD.2 ⟨i,hi,rfl⟩,h⟩⟩
theorem thr_no {α:Type} [Inhabited α] {key:α→Nat} {l:List α} {id:Nat} (hu:Srt.Up key ltN l) (h:∀j,j<l.length→key (l.getD j default)≠id):Srt.thr key ltN l id=false:=by
 rw [Bool.eq_false_iff]
 intro ht
 obtain⟨x,hx,hk⟩:=(Srt.thr_iff Srt.totNat hu).1 ht
 obtain⟨j,hj,rfl⟩:=mem_getD.1 hx
 exact h j hj hk
theorem okLd_up {l:List Ch} (h:okLd l):Srt.Up Ch.id ltN l:=(Srt.chn_up (lt:=ltN) Srt.totNat).1 (by exact h.2.2.1)
attribute [go_sem] Tryz.f159
@[go_sem] def c_r10find:Ct Tryz.prog:=⟨159,arg kChs fun l=>arg kU64 fun id=>ret (okLd l) (.int .i64 (if Srt.thr Ch.id ltN l id=true then((Srt.pos Ch.id ltN l id:Nat):Int)else -1)) [],arg_ok fun l=>arg_ok fun id=>ret_ok fun h=>by
 refine run [] Tryz.f159 lv159 fun hT=>vc ?_
 have hu:=okLd_up h
 have h32:=h.1
 refine fun _=>ixl 9 l.length (fun i=>∀j,j<i→(l.getD j default).id≠id) (by simp) fun i hi hall=> ?_
 refine aw hT lv159 (vc ?_)
 refine⟨fun h1=>⟨by omega,fun h2=> ?_,fun h2=>⟨⟨i+1,by omega,fun j hj=> ?_⟩,by dsimp only;omega,i64_in _ (by omega)⟩⟩,fun h1=> ?_⟩
 ·have:=pos_first (id:=id) hu (show i<l.length by omega) (by omega)
  rw [if_pos this.2,this.1]
 ·by_cases hji:j=i
  ·subst hji;omega
  ·exact hall j (by omega)
 ·rw [thr_no hu fun j hj=>hall j (by omega)];rfl⟩
attribute [go_sem] Tryz.f130
@[go_sem] def c_r10with:Ct Tryz.prog:=⟨130,arg kChs fun l=>arg kCh fun r=>ret ((l.length≤256∧r.holds.length≤1000000∧∀c∈l,c.holds.length≤1000000)∧Srt.Up Ch.id ltN l) (.sl (chs (Srt.put Ch.id ltN l r))) [],arg_ok fun l=>arg_ok fun r=>ret_ok fun hl=>by
 refine run [c_r10copyp] Tryz.f130 lv130 fun hT=>vc ?_
 have hu:=hl.2
 have hl1:=hl.1
 rw [←Srt.put_filter Srt.totNat hu]
 refine fun _=>nv 5 7 34 ?_
 refine lpl (ι:={i:Nat // i≤l.length}) (fun s i=>((s.up 5 (.vec 1 ((l.take i.1).filter (fun e=>decide (e.id<r.id))).length)).up 12 (.int .i64 i.1)).uo 1 (.vec true 7 34 (chs ((l.take i.1).filter (fun e=>decide (e.id<r.id)))))) (fun i=>l.length - i.1) ⟨0,by simp⟩ ?_ (by simp [go_sem];rfl)
 rintro⟨i,hi⟩
 refine aw hT lv130 (vc ?_)
 have hf:∀h:i<l.length,(l.take (i+1)).filter (fun e=>decide (e.id<r.id))=(l.take i).filter (fun e=>decide (e.id<r.id))++if(l.getD i default).id<r.id then [l.getD i default]else []:=fun h=>by
  rw [take_succ h,List.filter_append]
  congr 1
  by_cases hx:(l.getD i default).id<r.id
  ·rw [if_pos hx,List.filter_cons_of_pos (by simpa using hx)];rfl
  ·rw [if_neg hx,List.filter_cons_of_neg (by simpa using hx)];rfl
 have hlen:((l.take i).filter (fun e=>decide (e.id<r.id))).length≤i:=Nat.le_trans (List.length_filter_le _ _) (by rw [List.length_take];omega)
 refine⟨fun h2=>⟨h2,fun h3=>⟨by omega,⟨i+1,by omega⟩,by dsimp only;omega,⟨?_,i64_in _ (by omega)⟩, ?_⟩,fun h3=>⟨⟨i+1,by omega⟩,by dsimp only;omega,⟨?_,i64_in _ (by omega)⟩, ?_⟩⟩,fun h2=>⟨by omega,fun _=> ?_⟩⟩
 ·dsimp only;rw [hf (by omega),if_pos (by omega),List.length_append];rfl
 ·dsimp only;rw [hf (by omega),if_pos (by omega)]
 ·dsimp only;rw [hf (by omega),if_neg (by omega),List.append_nil]
 ·dsimp only;rw [hf (by omega),if_neg (by omega),List.append_nil]
 have hi':i=l.length:=by omega
 subst hi'
 rw [List.take_length]at hlen⊢
 clear hf
 have hA:l.filter (fun e=>decide (ltN e.id r.id))=l.filter (fun e=>decide (e.id<r.id)):=rfl
 rw [hA]
 have hm:∀x∈l.filter (fun e=>decide (e.id<r.id)),x∈l:=fun x hx=>(List.mem_filter.1 hx).1
 generalize l.filter (fun e=>decide (e.id<r.id))=A at*
 refine lpl (ι:={i:Nat // i≤l.length}) (fun s i=>((s.up 5 (.vec 1 (A++r::(l.take i.1).filter (fun e=>decide (r.id<e.id))).length)).up 32 (.int .i64 i.1)).uo 1 (.vec true 7 34 (chs (A++r::(l.take i.1).filter (fun e=>decide (r.id<e.id)))))) (fun i=>l.length - i.1) ⟨0,by simp⟩ ?_
 rintro⟨i,hi⟩
 refine aw hT lv130 (vc ?_)
 have hf:∀h:i<l.length,(l.take (i+1)).filter (fun e=>decide (r.id<e.id))=(l.take i).filter (fun e=>decide (r.id<e.id))++if r.id<(l.getD i default).id then [l.getD i default]else []:=fun h=>by
  rw [take_succ h,List.filter_append]
  congr 1
  by_cases hx:r.id<(l.getD i default).id
  ·rw [if_pos hx,List.filter_cons_of_pos (by simpa using hx)];rfl
  ·rw [if_neg hx,List.filter_cons_of_neg (by simpa using hx)];rfl
 have hlen2:((l.take i).filter (fun e=>decide (r.id<e.id))).length≤i:=Nat.le_trans (List.length_filter_le _ _) (by rw [List.length_take];omega)
 refine⟨fun h2=>⟨h2,fun h3=>⟨by omega,⟨i+1,by omega⟩,by dsimp only;omega,⟨?_,i64_in _ (by omega)⟩, ?_⟩,fun h3=>⟨⟨i+1,by omega⟩,by dsimp only;omega,⟨?_,i64_in _ (by omega)⟩, ?_⟩⟩,fun h2=> ?_⟩
 ·dsimp only;rw [hf (by omega),if_pos (by omega),List.length_append];rfl
 ·dsimp only;rw [hf (by omega),if_pos (by omega)]
 ·dsimp only;rw [hf (by omega),if_neg (by omega),List.append_nil]
 ·dsimp only;rw [hf (by omega),if_neg (by omega),List.append_nil]
 ·have hi':i=l.length:=by omega
  subst hi'
  rw [List.take_length]at hlen2⊢
  refine⟨⟨by omega,fun c hc=> ?_⟩,rfl⟩
  rcases List.mem_append.1 hc with h|h
  ·exact hl1.2.2 c (hm c h)
  ·rcases List.mem_cons.1 h with rfl|h
   ·exact hl1.2.1
   ·exact hl1.2.2 c (List.mem_filter.1 h).1⟩
open Go Go.Proofs Go.IntWalk
attribute [go_sem] Tryz.f50
attribute [go_sem] Tryz.f127
@[go_sem] def c_r10get:Ct Tryz.prog:=⟨127,arg kChs fun l=>arg kU64 fun id=>pu (.tup [.agg [.int .u64 (getL l id).1.id, .int .u64 (getL l id).1.loc, .int .u64 (getL l id).1.rem, .int .u64 (getL l id).1.res, .int .u64 (getL l id).1.most, .sl (hds (getL l id).1.holds), .bool (getL l id).1.op], .int .i64 (getL l id).2]),arg_ok fun l=>arg_ok fun id=>ret_ok fun _=>by
 refine run [c_r10check,c_r10find,c_r9copy] Tryz.f127 lv127 fun hT=>vc ?_
 have hcz:chkL l=0↔okLd l:=by unfold chkL;split<;>rename_i h<;>simp only [h]<;>decide
 rw [hcz]
 refine⟨fun hok=>⟨hok, ?_⟩,fun hok=>by rw [getL,if_neg hok];exact⟨⟨rfl,rfl,rfl,rfl,rfl,rfl,rfl⟩,rfl⟩⟩
 rw [getL,if_pos hok]
 cases ht:Srt.thr Ch.id ltN l id with
 |false=>exact⟨fun _=>⟨⟨rfl,rfl,rfl,rfl,rfl,rfl,rfl⟩,rfl⟩,fun h=>absurd (by decide:(-1:Int)<0) h⟩
 |true=>
  have hp:Srt.pos Ch.id ltN l id<l.length:=by unfold Srt.thr at ht;exact(of_decide_eq_true ht).1
  simp only [if_true,Int.toNat_natCast]
  refine⟨fun h=>by omega,fun _=>⟨⟨by omega,by omega⟩, ?_,by simp⟩⟩
  have:=(hok.2.1 _ (mem_getD.2 ⟨_,hp,rfl⟩)).2.2.1;omega⟩
open Go Go.Proofs Go.IntWalk
theorem eqL_len {α:Type} [DecidableEq α] {a b:List α} (h:¬(a.length:Int)=b.length):false=decide (a=b):=by
 rw [eq_comm,decide_eq_false_iff_not]
 rintro rfl;exact h rfl
theorem eqL_no {α:Type} [DecidableEq α] [Inhabited α] {a b:List α} {i:Nat} (h:¬a.getD i default=b.getD i default):false=decide (a=b):=by
 rw [eq_comm,decide_eq_false_iff_not]
 rintro rfl;exact h rfl
theorem eqL_all {α:Type} [DecidableEq α] {a b:List α} {i:Nat} (hl:(a.length:Int)=b.length) (hi:i≤a.length) (h:¬(i:Int)<a.length) (hab:a.take i=b.take i):true=decide (a=b):=by
 have e:i=a.length:=by omega
 rw [e,List.take_length,List.take_of_length_le (by omega)]at hab
 rw [hab,decide_eq_true rfl]
theorem eqL_step {α:Type} [DecidableEq α] [Inhabited α] {a b:List α} {i:Nat} (h:(i:Int)<a.length) (hl:(a.length:Int)=b.length) (hab:a.take i=b.take i) (he:a.getD i default=b.getD i default):i+1≤a.length∧a.take (i+1)=b.take (i+1):=
 ⟨by omega,(take_succ_iff (by omega) (by omega) hab).2 he⟩
attribute [go_sem] Hd.eqD
def lik (a b:Wt):Bool:=decide (a.id=b.id∧fkey a.w=fkey b.w)
def likL (a b:List Wt):Bool:=decide (a.length=b.length∧∀j,j<a.length→lik (a.getD j default) (b.getD j default)=true)
theorem likL_len {a b:List Wt} (h:¬(a.length:Int)=b.length):false=likL a b:=by
 rw [eq_comm,likL,decide_eq_false_iff_not];exact fun h1=>h (by omega)
theorem likL_no {a b:List Wt} {i:Nat} (h0:(i:Int)<a.length) (h:lik (a.getD i default) (b.getD i default)=false):false=likL a b:=by
 rw [eq_comm,likL,decide_eq_false_iff_not];exact fun h1=>by have:=h1.2 i (by omega);rw [h]at this;cases this
theorem likL_all {a b:List Wt} {i:Nat} (hl:(a.length:Int)=b.length) (h:¬(i:Int)<a.length) (hab:∀j,j<i→lik (a.getD j default) (b.getD j default)=true):likL a b=true:=by
 rw [likL,decide_eq_true_eq];exact⟨by omega,fun j hj=>hab j (by omega)⟩
theorem likL_step {a b:List Wt} {i:Nat} (h:(i:Int)<a.length) (hab:∀j,j<i→lik (a.getD j default) (b.getD j default)=true) (he:lik (a.getD i default) (b.getD i default)=true):i+1≤a.length∧∀j,j<i+1→lik (a.getD j default) (b.getD j default)=true:=
 ⟨by omega,fun j hj=>by
  by_cases e:j=i
  ·rw [e];exact he
  ·exact hab j (by omega)⟩
theorem likL_self (a:List Wt):likL a a=true:=decide_eq_true ⟨rfl,fun _ _=>decide_eq_true ⟨rfl,rfl⟩⟩
def sameW (a b:Wl):Bool:=decide (a.c=b.c∧likL a.w b.w=true∧a.i=b.i∧a.p=b.p∧a.f=b.f∧a.next=b.next∧a.tick=b.tick)
attribute [go_sem] Tryz.f73
@[go_sem] def c_r12sameg:Ct Tryz.prog:=⟨73,arg kIvs fun a=>arg kIvs fun b=>pu (.bool (decide (a=b))),arg_ok fun a=>arg_ok fun b=>ret_ok fun _=>by
 refine run [] Tryz.f73 lv73 fun hT=>vc ?_
 refine fun _ _=>⟨fun hl _=> ?_,eqL_len⟩
 refine SWp.loop (ι:={i:Nat // i≤a.length∧a.take i=b.take i}) (fun i=>⟨[(0, .sl (ivs a)),(1, .sl (ivs b)),(12, .int .i64 a.length),(13, .int .i64 i.1)],[],0⟩) (fun i=>a.length - i.1) ⟨0,by simp⟩ ?_ ?_
 ·simp [go_sem]
 ·rintro⟨i,hi,hab⟩
  refine aw hT lv73 (vc ?_)
  refine⟨fun h=> ?_,fun h=>eqL_all hl hi h hab⟩
  refine dr us73_6 hT (vc ?_)
  exact⟨by omega,by omega,fun he=>⟨⟨i+1,eqL_step h hl hab he⟩,by dsimp only;omega,i64_in _ (by omega)⟩,eqL_no⟩⟩
attribute [go_sem] Tryz.f74
@[go_sem] def c_r13sameg:Ct Tryz.prog:=⟨74,arg kPys fun a=>arg kPys fun b=>pu (.bool (decide (a=b))),arg_ok fun a=>arg_ok fun b=>ret_ok fun _=>by
 refine run [] Tryz.f74 lv74 fun hT=>vc ?_
 refine fun _ _=>⟨fun hl _=> ?_,eqL_len⟩
 refine SWp.loop (ι:={i:Nat // i≤a.length∧a.take i=b.take i}) (fun i=>⟨[(0, .sl (pys a)),(1, .sl (pys b)),(12, .int .i64 a.length),(13, .int .i64 i.1)],[],0⟩) (fun i=>a.length - i.1) ⟨0,by simp⟩ ?_ ?_
 ·simp [go_sem]
 ·rintro⟨i,hi,hab⟩
  refine aw hT lv74 (vc ?_)
  refine⟨fun h=> ?_,fun h=>eqL_all hl hi h hab⟩
  refine dr us74_6 hT (vc ?_)
  exact⟨by omega,by omega,fun he=>⟨⟨i+1,eqL_step h hl hab he⟩,by dsimp only;omega,i64_in _ (by omega)⟩,eqL_no⟩⟩
attribute [go_sem] Tryz.f150
@[go_sem] def c_r16evsg:Ct Tryz.prog:=⟨150,arg kEvs fun a=>arg kEvs fun b=>pu (.bool (decide (a=b))),arg_ok fun a=>arg_ok fun b=>ret_ok fun _=>by
 refine run [] Tryz.f150 lv150 fun hT=>vc ?_
 refine fun _ _=>⟨fun hl _=> ?_,eqL_len⟩
 refine SWp.loop (ι:={i:Nat // i≤a.length∧a.take i=b.take i}) (fun i=>⟨[(0, .sl (evs a)),(1, .sl (evs b)),(12, .int .i64 a.length),(13, .int .i64 i.1)],[],0⟩) (fun i=>a.length - i.1) ⟨0,by simp⟩ ?_ ?_
 ·simp [go_sem]
 ·rintro⟨i,hi,hab⟩
  refine aw hT lv150 (vc ?_)
  refine⟨fun h=> ?_,fun h=>eqL_all hl hi h hab⟩
  refine dr us150_6 hT (vc ?_)
  exact⟨by omega,by omega,fun he=>⟨⟨i+1,eqL_step h hl hab he⟩,by dsimp only;omega,i64_in _ (by omega)⟩,eqL_no⟩⟩
attribute [go_sem] Tryz.f75
@[go_sem] def c_r16sameg:Ct Tryz.prog:=⟨75,arg kFd fun a=>arg kFd fun b=>pu (.bool (decide (a=b))),arg_ok fun a=>arg_ok fun b=>ret_ok fun _=>by
 refine run [c_r16evsg] Tryz.f75 lv75 fun hT=>vc ?_
 cases a;cases b
 simp only [Fd.mk.injEq,Int.natCast_inj]
 grind⟩
attribute [go_sem] Tryz.f149
@[go_sem] def c_r9sameg:Ct Tryz.prog:=⟨149,arg kCh fun a=>arg kCh fun b=>pu (.bool (decide (a=b))),arg_ok fun a=>arg_ok fun b=>ret_ok fun _=>by
 refine run [] Tryz.f149 lv149 fun hT=>vc ?_
 have no:a≠b→false=decide (a=b):=fun h=>(decide_eq_false h).symm
 refine⟨fun h1=>⟨fun h2=>⟨fun h3=>⟨fun h4=>⟨fun h5=>⟨fun h6 _ _=>⟨fun hl _=> ?_,fun hl=>no fun h=>hl (by rw [h])⟩,fun h6=>no fun h=>by rw [h]at h6;simp at h6⟩,fun h5=>no fun h=>h5 (by rw [h])⟩,fun h4=>no fun h=>h4 (by rw [h])⟩,fun h3=>no fun h=>h3 (by rw [h])⟩,fun h2=>no fun h=>h2 (by rw [h])⟩,fun h1=>no fun h=>h1 (by rw [h])⟩
 have e:decide (a=b)=decide (a.holds=b.holds):=by
  cases a;cases b
  simp only [Int.natCast_inj]at h1 h2 h3 h4 h5
  simp only [Ch.mk.injEq]
  have h6:=by simpa using h6
  simp [h1,h2,h3,h4,h5,h6]
 rw [e]
 refine SWp.loop (ι:={i:Nat // i≤a.holds.length∧a.holds.take i=b.holds.take i}) (fun i=>⟨[(2, .ref 0 0),(3, .ref 1 0),(57, .int .i64 a.holds.length),(58, .int .i64 i.1)],[(1, .box [.c (.int .u64 b.id), .c (.int .u64 b.loc), .c (.int .u64 b.rem), .c (.int .u64 b.res), .c (.int .u64 b.most), .sl (hds b.holds), .c (.bool b.op)]),(0, .box [.c (.int .u64 a.id), .c (.int .u64 a.loc), .c (.int .u64 a.rem), .c (.int .u64 a.res), .c (.int .u64 a.most), .sl (hds a.holds), .c (.bool a.op)])],2⟩) (fun i=>a.holds.length - i.1) ⟨0,by simp⟩ ?_ ?_
 ·simp [go_sem]
 ·rintro⟨i,hi,hab⟩
  refine aw hT lv149 (vc ?_)
  refine⟨fun h=> ?_,fun h=>eqL_all hl hi h hab⟩
  refine dr us149_6 hT (vc ?_)
  exact⟨h,by omega,fun he=>⟨⟨i+1,eqL_step h hl hab he⟩,by dsimp only;omega,i64_in _ (by omega)⟩,eqL_no⟩⟩
attribute [go_sem] Tryz.f72
@[go_sem] def c_r10sameg:Ct Tryz.prog:=⟨72,arg kChs fun a=>arg kChs fun b=>pu (.bool (decide (a=b))),arg_ok fun a=>arg_ok fun b=>ret_ok fun _=>by
 refine run [c_r9sameg] Tryz.f72 lv72 fun hT=>vc ?_
 refine fun _ _=>⟨fun hl _=> ?_,eqL_len⟩
 refine SWp.loop (ι:={i:Nat // i≤a.length∧a.take i=b.take i}) (fun i=>⟨[(0, .sl (chs a)),(1, .sl (chs b)),(12, .int .i64 a.length),(13, .int .i64 i.1)],[],0⟩) (fun i=>a.length - i.1) ⟨0,by simp⟩ ?_ ?_
 ·simp [go_sem]
 ·rintro⟨i,hi,hab⟩
  refine aw hT lv72 (vc ?_)
  refine⟨fun h=> ?_,fun h=>eqL_all hl hi h hab⟩
  refine dr us72_6 hT (vc ?_)
  exact⟨by omega,by omega,fun he=>⟨⟨i+1,eqL_step h hl hab he⟩,by dsimp only;omega,i64_in _ (by omega)⟩,eqL_no⟩⟩
attribute [go_sem] Tryz.f18
@[go_sem] def c_r17sameg:Ct Tryz.prog:=⟨18,arg kWl fun a=>arg kWl fun b=>pu (.bool (sameW a b)),arg_ok fun a=>arg_ok fun b=>ret_ok fun _=>by
 refine run [c_r10sameg,c_r12sameg,c_r13sameg,c_r16sameg,c_rfsame] Tryz.f18 lv18 fun hT=>vc ?_
 have no:¬(a.c=b.c∧likL a.w b.w=true∧a.i=b.i∧a.p=b.p∧a.f=b.f∧a.next=b.next∧a.tick=b.tick)→false=sameW a b:=fun h=>(decide_eq_false h).symm
 refine⟨fun hc _ _=>⟨fun hl=>⟨fun h1=>⟨fun h2=>⟨fun h3=>⟨fun h4=>⟨fun h5 _=> ?_,fun h5=>no fun h=>h5 (by rw [h.2.2.2.2.2.2])⟩,fun h4=>no fun h=>h4 (by rw [h.2.2.2.2.2.1])⟩,fun h3=>no fun h=>h3 h.2.2.2.2.1⟩,fun h2=>no fun h=>h2 h.2.2.2.1⟩,fun h1=>no fun h=>h1 h.2.2.1⟩,fun hl=>no fun h=>by have:=h.2.1;rw [←likL_len hl]at this;cases this⟩,fun hc=>no fun h=>hc h.1⟩
 refine SWp.loop (ι:={i:Nat // i≤a.w.length∧∀j,j<i→lik (a.w.getD j default) (b.w.getD j default)=true}) (fun i=>⟨[(2, .ref 0 0),(3, .ref 1 0),(61, .int .i64 a.w.length),(62, .int .i64 i.1)],[(1, .box [.sl (chs b.c), .sl (wts b.w), .sl (ivs b.i), .sl (pys b.p), .c (.int .u64 b.f.next), .sl (evs b.f.l), .c (.int .u64 b.next), .c (.int .u64 b.tick)]),(0, .box [.sl (chs a.c), .sl (wts a.w), .sl (ivs a.i), .sl (pys a.p), .c (.int .u64 a.f.next), .sl (evs a.f.l), .c (.int .u64 a.next), .c (.int .u64 a.tick)])],2⟩) (fun i=>a.w.length - i.1) ⟨0,by simp⟩ ?_ ?_
 ·simp [go_sem]
 ·rintro⟨i,hi,hab⟩
  refine aw hT lv18 (vc ?_)
  refine⟨fun h=> ?_,fun h=>(decide_eq_true ⟨hc,likL_all hl h hab,h1,h2,h3,by omega,by omega⟩).symm⟩
  refine dr us18_6 hT (vc ?_)
  have hlk:(a.c=b.c∧likL a.w b.w=true∧a.i=b.i∧a.p=b.p∧a.f=b.f∧a.next=b.next∧a.tick=b.tick)→(a.w.getD i default).id=(b.w.getD i default).id∧fkey (a.w.getD i default).w=fkey (b.w.getD i default).w:=fun g=>of_decide_eq_true ((of_decide_eq_true g.2.1).2 i (by omega))
  refine⟨h,by omega,fun he=>⟨h,by omega,fun hk=>⟨⟨i+1,likL_step h hab (decide_eq_true ⟨by omega,of_decide_eq_true hk⟩)⟩,by dsimp only;omega,i64_in _ (by omega)⟩,fun hk=>no fun g=>of_decide_eq_false hk (hlk g).2⟩,fun he=>no fun g=>he (by rw [(hlk g).1])⟩⟩
theorem sameW_self (a:Wl):sameW a a=true:=decide_eq_true ⟨rfl,likL_self _,rfl,rfl,rfl,rfl,rfl⟩
open Go Go.Proofs Go.IntWalk
def noteW (w:Wl) (k:Int) (a n:Nat):Wl×Int:=if(addF w.f k a n).2.2=0 then({w with f:=(addF w.f k a n).1},0)else(zeroW,(addF w.f k a n).2.2)
attribute [go_sem] Tryz.f52
@[go_sem] def c_r17note:Ct Tryz.prog:=⟨52,arg kWl fun w=>arg kI64 fun k=>arg kU64 fun a=>arg kU64 fun n=>ret (w.f.next≤18446744073709551615∧smallW w) (.tup [kWl.d (noteW w k a n).1, .int .i64 (noteW w k a n).2]) [],arg_ok fun w=>arg_ok fun k=>arg_ok fun a=>arg_ok fun n=>ret_ok fun h=>by
 refine run [c_r16add,c_r17copyg] Tryz.f52 lv52 fun hT=>vc ?_
 refine⟨h.1,fun h1=>⟨?_, ?_⟩,fun h1=> ?_⟩
 ·obtain⟨s1,s2,s3,s4,s5,s6⟩:=h.2
  exact⟨s1,s2,s3,s4,s5,by have:=add_len (f:=w.f) (k:=k) (a:=a) (n:=n);exact Nat.le_trans this (by decide)⟩
 ·rw [noteW,if_pos h1];simp
 ·rw [noteW,if_neg h1];exact⟨⟨rfl,rfl,rfl,rfl,rfl,rfl,rfl,rfl⟩,rfl⟩⟩
open Go Go.Proofs Go.IntWalk
theorem i13_0:((13:Int)=0)=False:=eq_false (by decide)
def wlaE (v:Wl) (t:Nat):Int:=if¬okW v then 1 else if t<v.tick then 13 else 0
def wlaW (v:Wl) (t:Nat):Wl×Int:=if wlaE v t=0 then({v with i:=(sweepI v.i t).1,tick:=t},0)else(zeroW,wlaE v t)
attribute [go_sem] Tryz.f26 Tryz.f36 Tryz.f37 Tryz.f59 Tryz.f47 Tryz.f83
open Go Go.Proofs Go.IntWalk
def wclC (v:Wl) (ch:Nat):List Ch×Int:=lclL v.c ch
def wclF (v:Wl) (ch:Nat):Fd×Nat×Int:=addF v.f 7 ch 0
def wclE (v:Wl) (ch:Nat):Int:=if¬okW v then 1 else if(wclC v ch).2≠0 then(wclC v ch).2 else(wclF v ch).2.2
def wclW (v:Wl) (ch:Nat):Wl×Int:=if wclE v ch=0 then(⟨(wclC v ch).1,v.w,v.i,v.p,(wclF v ch).1,v.next,v.tick⟩,0)else(zeroW,wclE v ch)
attribute [go_sem] Tryz.f22 Tryz.f36 Tryz.f43 Tryz.f46 Tryz.f118 Tryz.f47 Tryz.f80 Tryz.f119
@[go_sem] def c_wclose:Ct Tryz.prog:=⟨22,arg kWl fun v=>arg kU64 fun ch=>ret (v.f.next≤18446744073709551615) (.tup [.agg [.sl (chs (wclW v ch).1.c), .sl (wts (wclW v ch).1.w), .sl (ivs (wclW v ch).1.i), .sl (pys (wclW v ch).1.p), .int .u64 (wclW v ch).1.f.next, .sl (evs (wclW v ch).1.f.l), .int .u64 (wclW v ch).1.next, .int .u64 (wclW v ch).1.tick], .int .i64 (wclW v ch).2]) [],arg_ok fun v=>arg_ok fun ch=>ret_ok fun h=>by
 refine run [c_wcheck,c_lclose,c_fadd,c_wown] Tryz.f22 lv22 fun hT=>vc ?_
 refine cl hT Tryz.f36 lv36 (vc ?_)
 refine dr us36_1 hT (vc ?_)
 refine⟨h, ?_⟩
 have hbad:∀e:Int,wclE v ch=e→¬e=0→(chs (wclW v ch).1.c=[]∧wts (wclW v ch).1.w=[]∧ivs (wclW v ch).1.i=[]∧pys (wclW v ch).1.p=[]∧0=((wclW v ch).1.f.next:Int)∧evs (wclW v ch).1.f.l=[]∧0=((wclW v ch).1.next:Int)∧0=((wclW v ch).1.tick:Int))∧e=(wclW v ch).2:=fun e h1 h2=>by
  have:wclW v ch=(zeroW,e):=by rw [wclW,if_neg (by rw [h1];exact h2),h1]
  rw [this];exact⟨⟨rfl,rfl,rfl,rfl,rfl,rfl,rfl,rfl⟩,rfl⟩
 by_cases hok:okW v
 rotate_left 1
 ·have hck:(chkW v=0)=False:=eq_false fun h=>hok (chkW_0.1 h)
  have he:wclE v ch=1:=by rw [wclE,if_pos hok]
  have hc1:chkW v=1:=by rw [chkW,if_neg hok]
  skip
  refine cl hT Tryz.f43 lv43 ?_
  simp -implicitDefEqProofs only [cdA,go_sem,hck,cdN,simprocAttr, -Int.reduceEq,List.cons.injEq,cdB]
  refine cl hT Tryz.f46 lv46 (vc ?_)
  refine cl hT Tryz.f118 lv118 ?_
  simp -implicitDefEqProofs only [cdA,go_sem,hck,cdN,simprocAttr, -Int.reduceEq,List.cons.injEq,cdB]
  refine cl hT Tryz.f47 lv47 ?_
  simp -implicitDefEqProofs only [cdA,go_sem,hck,cdN,simprocAttr, -Int.reduceEq,List.cons.injEq,cdB]
  refine dr us47_2 hT ?_
  simp -implicitDefEqProofs only [cdA,go_sem,hck,cdN,simprocAttr, -Int.reduceEq,List.cons.injEq,cdB]
  exact hbad _ (he.trans hc1.symm) (by rw [hc1];decide)
 have hck:(chkW v=0)=True:=eq_true (chkW_0.2 hok)
 refine cl hT Tryz.f43 lv43 ?_
 simp -implicitDefEqProofs only [cdA,go_sem,hck,cdN,simprocAttr, -Int.reduceEq,List.cons.injEq,cdB]
 refine cl hT Tryz.f80 lv80 (vc ?_)
 have eC:lclL v.c ch=wclC v ch:=rfl
 rw [eC]
 refine⟨fun hs0=> ?_,fun hs0=> ?_⟩
 rotate_left 1
 ·skip
  refine cl hT Tryz.f46 lv46 (vc ?_)
  refine cl hT Tryz.f118 lv118 ?_
  simp -implicitDefEqProofs only [cdA,go_sem,hs0,cdN,simprocAttr, -Int.reduceEq,List.cons.injEq,cdB]
  refine cl hT Tryz.f47 lv47 ?_
  simp -implicitDefEqProofs only [cdA,go_sem,hs0,cdN,simprocAttr, -Int.reduceEq,List.cons.injEq,cdB]
  refine dr us47_2 hT ?_
  simp -implicitDefEqProofs only [cdA,go_sem,hs0,cdN,simprocAttr, -Int.reduceEq,List.cons.injEq,cdB]
  exact hbad _ (by rw [wclE,if_neg (fun h=>h hok),if_pos hs0]) hs0
 refine cl hT Tryz.f46 lv46 (vc ?_)
 refine cl hT Tryz.f118 lv118 ?_
 simp -implicitDefEqProofs only [cdA,go_sem,hck,cdN,simprocAttr, -Int.reduceEq,List.cons.injEq,cdB]
 refine cl hT Tryz.f119 lv119 (vc ?_)
 have eF:addF v.f 7 ch 0=wclF v ch:=rfl
 rw [eF]
 refine⟨h,fun hfd=> ?_,fun hfd=> ?_⟩
 rotate_left 1
 ·skip
  refine cl hT Tryz.f47 lv47 ?_
  simp -implicitDefEqProofs only [cdA,go_sem,hfd,cdN,simprocAttr, -Int.reduceEq,List.cons.injEq,cdB]
  refine dr us47_2 hT ?_
  simp -implicitDefEqProofs only [cdA,go_sem,hfd,cdN,simprocAttr, -Int.reduceEq,List.cons.injEq,cdB]
  exact hbad _ (by rw [wclE,if_neg (fun h=>h hok),if_neg (fun h=>h hs0)]) hfd
 have hsm:smallW ⟨(wclC v ch).1,v.w,v.i,v.p,(wclF v ch).1,v.next,v.tick⟩:=by
  have h2:=small_ok hok
  have h50:=lcl_fine hs0
  exact⟨(by have:=h50.1;show(wclC v ch).1.length≤_;unfold wclC;(try dsimp only);omega),(fun d hd=>by have:=(h50.2.1 d hd).2.2.1;omega),h2.2.2.1,h2.2.2.2.1,h2.2.2.2.2.1,(by show(wclF v ch).1.l.length≤_;unfold wclF;exact Nat.le_trans add_len (by decide))⟩
 have hfin:wclW v ch=(⟨(wclC v ch).1,v.w,v.i,v.p,(wclF v ch).1,v.next,v.tick⟩,0):=by
  have:wclE v ch=0:=by rw [wclE,if_neg (fun h=>h hok),if_neg (fun h=>h hs0)];exact hfd
  rw [wclW,if_pos this]
 refine cl hT Tryz.f47 lv47 ?_
 simp -implicitDefEqProofs only [cdA,go_sem,hck,eq_true hsm,cdN,simprocAttr, -Int.reduceEq,List.cons.injEq,cdB]
 rw [hfin]
 exact⟨⟨rfl,rfl,rfl,rfl,rfl,rfl,rfl,rfl⟩,rfl⟩⟩
open Go Go.Proofs Go.IntWalk
theorem mem_ins {α:Type} [Inhabited α] {l:List α} {i:Nat} {x y:α}:y∈Srt.ins l i x↔y=x∨y∈l:=by
 rw [Srt.ins_perm.mem_iff,List.mem_cons]
theorem open_okLd {l:List Ch} {c:Ch} (hok:okLd l) (hc:okCh c) (hh:c.holds=[]) (ht:¬Srt.thr Ch.id ltN l c.id=true) (hl:l.length≠32):okLd (Srt.ins l (Srt.pos Ch.id ltN l c.id) c)↔totL (Srt.ins l (Srt.pos Ch.id ltN l c.id) c)≤MM:=by
 refine⟨fun h=>h.2.2.2.2,fun h=>⟨by rw [Srt.ins_len];have:=hok.1;omega,fun x hx=> ?_,(Srt.chn_up (lt:=ltN) Srt.totNat).2 (Srt.ins_up Srt.totNat (okLd_up hok) ht), ?_,h⟩⟩
 ·rcases mem_ins.1 hx with rfl|hx
  ·exact hc
  ·exact hok.2.1 x hx
 ·have hp:(hidL (Srt.ins l (Srt.pos Ch.id ltN l c.id) c)).Perm (hidL (c::l)):=by
   unfold hidL;exact List.Perm.flatMap_right _ Srt.ins_perm
  rw [hp.nodup_iff]
  show(c.holds.map Hd.id++hidL l).Nodup
  rw [hh];exact hok.2.2.2.1
attribute [go_sem] Tryz.f162
@[go_sem] def c_r9close:Ct Tryz.prog:=⟨162,arg kCh fun c=>pu (.tup [kCh.d (cclC c).1, .int .i64 (cclC c).2]),arg_ok fun c=>ret_ok fun _=>by
 refine run [c_r9check,c_r9copy] Tryz.f162 lv162 fun hT=>vc ?_
 have hbad:∀k,cclE c=k→¬k=0→(0=((cclC c).1.id:Int)∧0=((cclC c).1.loc:Int)∧0=((cclC c).1.rem:Int)∧0=((cclC c).1.res:Int)∧0=((cclC c).1.most:Int)∧hds (cclC c).1.holds=[]∧false=(cclC c).1.op)∧k=(cclC c).2:=fun k hk h0=>by
  rw [cclC,if_neg (by rw [hk];exact h0),hk];exact⟨⟨rfl,rfl,rfl,rfl,rfl,rfl,rfl⟩,rfl⟩
 have hc0:chkCh c=0↔okCh c:=by unfold chkCh;split<;>rename_i h<;>simp only [h]<;>decide
 rw [hc0]
 refine⟨fun hok=>⟨fun hop _=>⟨fun hh=>hbad 10 ?_ (by decide),fun hh=>⟨by omega, ?_⟩⟩,fun hop=>hbad 14 ?_ (by decide)⟩,fun hok=>hbad 1 ?_ (by decide)⟩
 ·rw [cclE,if_neg (fun h=>h hok),if_neg (by rw [hop];decide),if_pos (by omega)]
 ·have hz:c.holds=[]:=List.eq_nil_of_length_eq_zero (by omega)
  have hE:cclE c=0:=by rw [cclE,if_neg (fun h=>h hok),if_neg (by rw [hop];decide),if_neg (by omega)]
  rw [cclC,if_pos hE,hz];exact⟨⟨rfl,rfl,rfl,rfl,rfl,rfl,rfl⟩,rfl⟩
 ·rw [cclE,if_neg (fun h=>h hok),if_pos hop]
 ·rw [cclE,if_pos hok]⟩
attribute [go_sem] Tryz.f79
@[go_sem] def c_r10open:Ct Tryz.prog:=⟨79,arg kChs fun l=>arg kCh fun c=>pu (.tup [.sl (chs (openL l c).1), .int .i64 (openL l c).2]),arg_ok fun l=>arg_ok fun c=>ret_ok fun _=>by
 refine run [c_r10check,c_r9check,c_r10find,c_r10with,c_r10all] Tryz.f79 lv79 fun hT=>vc ?_
 have hbad:(¬okCh c∨c.op=false∨0<c.holds.length∨¬okLd l)→chs (openL l c).1=[]∧1=(openL l c).2:=fun h=>by rw [openL,if_pos h];exact⟨rfl,rfl⟩
 have hc0:chkCh c=0↔okCh c:=by unfold chkCh;split<;>rename_i h<;>simp only [h]<;>decide
 have hl0:chkL l=0↔okLd l:=by unfold chkL;split<;>rename_i h<;>simp only [h]<;>decide
 rw [hc0,hl0]
 refine⟨fun hok=>⟨fun hcc=>⟨fun hop _=>⟨fun hh=>hbad (.inr (.inr (.inl (by omega)))),fun hh=>⟨hok, ?_⟩⟩,fun hop=>hbad (.inr (.inl (by simpa using hop)))⟩,fun hcc=>hbad (.inl hcc)⟩,fun hok=>hbad (.inr (.inr (.inr hok)))⟩
 have hz:c.holds=[]:=List.eq_nil_of_length_eq_zero (by omega)
 have hop':¬c.op=false:=by simpa using hop
 have hA:¬(¬okCh c∨c.op=false∨0<c.holds.length∨¬okLd l):=by
  rintro(h|h|h|h)
  ·exact h hcc
  ·exact hop' h
  ·omega
  ·exact h hok
 cases ht:Srt.thr Ch.id ltN l c.id with
 |true=>rw [openL,if_neg hA,if_pos ht];exact⟨fun _=>⟨rfl,rfl⟩,fun h=>absurd (by simp) h⟩
 |false=>
  have ht':¬Srt.thr Ch.id ltN l c.id=true:=by rw [ht];decide
  refine⟨fun h=>by simp at h,fun _ _=>⟨fun h32=> ?_,fun h32=>⟨⟨⟨by have:=hok.1;omega,by omega,fun d hd=>by have:=(hok.2.1 d hd).2.2.1;omega⟩,okLd_up hok⟩, ?_⟩⟩⟩
  ·rw [openL,if_neg hA,if_neg ht',if_pos (by omega)];exact⟨rfl,rfl⟩
  rw [openL,if_neg hA,if_neg ht',if_neg (by omega),Srt.put,if_neg ht',sumL]
  have hk:=open_okLd hok hcc hz ht' (by omega)
  split
  ·rename_i h;rw [if_pos (hk.2 h)];exact⟨fun _=>⟨rfl,rfl⟩,fun h=>(by cases h)⟩
  ·rename_i h;rw [if_neg fun h2=>h (hk.1 h2)];exact⟨fun h=>(by cases h),fun _=>⟨rfl,rfl⟩⟩⟩
attribute [go_sem] Tryz.f82
@[go_sem] def c_r10close:Ct Tryz.prog:=⟨82,arg kChs fun l=>arg kU64 fun id=>pu (.tup [.sl (chs (lclL l id).1), .int .i64 (lclL l id).2]),arg_ok fun l=>arg_ok fun id=>ret_ok fun _=>by
 refine run [c_r10get,c_r9close,c_r10with] Tryz.f82 lv82 fun hT=>vc ?_
 by_cases hok:okLd l
 rotate_left 1
 ·rw [getL,if_neg hok,lclL,if_neg hok]
  exact⟨fun h=>absurd h (by decide),fun _=>⟨rfl,rfl⟩⟩
 by_cases ht:Srt.thr Ch.id ltN l id=true
 rotate_left 1
 ·rw [getL,if_pos hok,if_neg ht,lclL,if_pos hok,if_neg ht]
  exact⟨fun h=>absurd h (by decide),fun _=>⟨rfl,rfl⟩⟩
 rw [getL,if_pos hok,if_pos ht,lclL,if_pos hok,if_pos ht,cclC_2]
 obtain⟨hp,hk⟩:=of_decide_eq_true (show decide _=true from ht)
 refine⟨fun _=>⟨fun h2=> ?_,fun h2=>by rw [if_neg h2];exact⟨rfl,rfl⟩⟩,fun h=>absurd rfl h⟩
 rw [if_pos h2]
 have hid:(cclC (l.getD (Srt.pos Ch.id ltN l id) default)).1.id=id:=by rw [cclC,if_pos h2];exact hk
 have hlen:(cclC (l.getD (Srt.pos Ch.id ltN l id) default)).1.holds.length≤1000000:=by rw [cclC,if_pos h2];exact Nat.zero_le _
 refine⟨⟨⟨by have:=hok.1;omega,hlen,fun c hc=>by have:=(hok.2.1 c hc).2.2.1;omega⟩,okLd_up hok⟩, ?_,rfl⟩
 rw [Srt.put,hid,if_pos ht]⟩
attribute [go_sem] Tryz.f85
@[go_sem] def c_r12sweep:Ct Tryz.prog:=⟨85,arg kIvs fun l=>arg kU64 fun t=>pu (.tup [.sl (ivs (sweepI l t).1), .int .i64 (sweepI l t).2]),arg_ok fun l=>arg_ok fun t=>ret_ok fun _=>by
 refine run [c_r12check,c_r12late] Tryz.f85 lv85 fun hT=>vc ?_
 have hcz:chkI l=0↔okIv l:=by unfold chkI;split<;>rename_i h<;>simp only [h]<;>decide
 rw [hcz]
 refine⟨fun hok _=> ?_,fun hok=>by rw [sweepI,if_neg hok];exact⟨rfl,rfl⟩⟩
 rw [sweepI,if_pos hok]
 dsimp only
 have h256:=hok.1
 refine nv 6 4 51 ?_
 refine lpl (ι:={i:Nat // i≤l.length}) (fun s i=>((s.up 6 (.vec 0 ((l.take i.1).filter (fun x=> !overI t x)).length)).up 14 (.int .i64 i.1)).uo 0 (.vec true 4 51 (ivs ((l.take i.1).filter (fun x=> !overI t x))))) (fun i=>l.length - i.1) ⟨0,by simp⟩ ?_ (by simp [go_sem];rfl)
 rintro⟨i,hi⟩
 refine aw hT lv85 (vc ?_)
 have hov:i<l.length→(overI t (l.getD i default)=true↔((l.getD i default).state=1∧(l.getD i default).till<t)∨(l.getD i default).state=3):=fun hi'=>by
  have h3:=(hok.2.1 _ (mem_getD.2 ⟨i,hi',rfl⟩)).2
  unfold overI nowI
  rw [decide_eq_true_eq]
  split
  ·rename_i h;exact⟨fun _=> .inl h,fun _=> .inl rfl⟩
  ·rename_i h;omega
 have hf:∀h:i<l.length,(l.take (i+1)).filter (fun x=> !overI t x)=(l.take i).filter (fun x=> !overI t x)++if overI t (l.getD i default)=true then []else [l.getD i default]:=fun h=>by
  rw [take_succ h,List.filter_append]
  congr 1
  by_cases hx:overI t (l.getD i default)=true
  ·rw [if_pos hx,List.filter_cons_of_neg (by simp only [hx];decide)];rfl
  ·rw [if_neg hx,List.filter_cons_of_pos (by simpa using hx)];rfl
 have hlen:((l.take i).filter (fun x=> !overI t x)).length≤i:=Nat.le_trans (List.length_filter_le _ _) (by rw [List.length_take];omega)
 refine⟨fun h2=>⟨h2,fun h3=>⟨fun h4=>⟨⟨i+1,by omega⟩,by dsimp only;omega,⟨?_,i64_in _ (by omega)⟩, ?_⟩,fun h4=>⟨by omega,⟨i+1,by omega⟩,by dsimp only;omega,⟨?_,i64_in _ (by omega)⟩, ?_⟩⟩,fun h3=>⟨⟨i+1,by omega⟩,by dsimp only;omega,⟨?_,i64_in _ (by omega)⟩, ?_⟩⟩,fun h2=> ?_⟩
 ·dsimp only;rw [hf (by omega),if_pos ((hov (by omega)).2 (.inr h4)),List.append_nil]
 ·dsimp only;rw [hf (by omega),if_pos ((hov (by omega)).2 (.inr h4)),List.append_nil]
 ·dsimp only;rw [hf (by omega),if_neg (fun h=>((hov (by omega)).1 h).elim h3 h4),List.length_append];rfl
 ·dsimp only;rw [hf (by omega),if_neg (fun h=>((hov (by omega)).1 h).elim h3 h4)]
 ·dsimp only;rw [hf (by omega),if_pos ((hov (by omega)).2 (.inl h3)),List.append_nil]
 ·dsimp only;rw [hf (by omega),if_pos ((hov (by omega)).2 (.inl h3)),List.append_nil]
 rw [List.take_of_length_le (by omega)]
 exact⟨rfl,_,_,_,rfl⟩⟩
attribute [go_sem] Tryz.f21
@[go_sem] def c_r17open:Ct Tryz.prog:=⟨21,arg kWl fun v=>arg kCh fun c=>ret (v.f.next≤18446744073709551615) (.tup [kWl.d (wopW v c).1, .int .i64 (wopW v c).2]) [],arg_ok fun v=>arg_ok fun c=>ret_ok fun h=>by
 refine run [c_r17check,c_r10open,c_r17note] Tryz.f21 lv21 fun hT=>vc ?_
 rw [chkW_0]
 refine⟨h,fun hok=>⟨fun ho=>⟨⟨h, ?_⟩, ?_⟩,fun ho=> ?_⟩,fun hok=> ?_⟩
 ·have h1:=open_fine ho
  have h2:=small_ok hok
  exact⟨by have:=h1.1;exact Nat.le_trans this (by decide),fun c hc=>by have:=(h1.2.1 c hc).2.2.1;omega,h2.2.2⟩
 ·have e:noteW ⟨(openL v.c c).1,v.w,v.i,v.p,v.f,v.next,v.tick⟩ 6 c.id c.loc=wopW v c:=by
   have hE:wopE v c=(wopF v c).2.2:=by rw [wopE,if_neg (fun h=>h hok),if_neg (fun h=>h ho)]
   rw [noteW,wopW,hE];rfl
  rw [e];exact⟨⟨rfl,rfl,rfl,rfl,rfl,rfl,rfl,rfl⟩,rfl⟩
 ·have e:wopW v c=(zeroW,(openL v.c c).2):=by
   have hE:wopE v c=(wopC v c).2:=by rw [wopE,if_neg (fun h=>h hok),if_pos (show(wopC v c).2≠0 from ho)]
   rw [wopW,hE,if_neg (show¬(wopC v c).2=0 from ho)];rfl
  rw [e];exact⟨⟨rfl,rfl,rfl,rfl,rfl,rfl,rfl,rfl⟩,rfl⟩
 ·have e:wopW v c=(zeroW,1):=by
   have hE:wopE v c=1:=by rw [wopE,if_pos hok]
   rw [wopW,hE,if_neg (by decide)]
  rw [e];exact⟨⟨rfl,rfl,rfl,rfl,rfl,rfl,rfl,rfl⟩,rfl⟩⟩
attribute [go_sem] Tryz.f23
@[go_sem] def c_r17close:Ct Tryz.prog:=⟨23,arg kWl fun v=>arg kU64 fun ch=>ret (v.f.next≤18446744073709551615) (.tup [kWl.d (wclW v ch).1, .int .i64 (wclW v ch).2]) [],arg_ok fun v=>arg_ok fun ch=>ret_ok fun h=>by
 refine run [c_r17check,c_r10close,c_r17note] Tryz.f23 lv23 fun hT=>vc ?_
 rw [chkW_0]
 refine⟨h,fun hok=>⟨fun ho=>⟨⟨h, ?_⟩, ?_⟩,fun ho=> ?_⟩,fun hok=> ?_⟩
 ·have h1:=lcl_fine ho
  have h2:=small_ok hok
  exact⟨by have:=h1.1;exact Nat.le_trans this (by decide),fun c hc=>by have:=(h1.2.1 c hc).2.2.1;omega,h2.2.2⟩
 ·have e:noteW ⟨(lclL v.c ch).1,v.w,v.i,v.p,v.f,v.next,v.tick⟩ 7 ch 0=wclW v ch:=by
   have hE:wclE v ch=(wclF v ch).2.2:=by rw [wclE,if_neg (fun h=>h hok),if_neg (fun h=>h ho)]
   rw [noteW,wclW,hE];rfl
  rw [e];exact⟨⟨rfl,rfl,rfl,rfl,rfl,rfl,rfl,rfl⟩,rfl⟩
 ·have e:wclW v ch=(zeroW,(lclL v.c ch).2):=by
   have hE:wclE v ch=(wclC v ch).2:=by rw [wclE,if_neg (fun h=>h hok),if_pos (show(wclC v ch).2≠0 from ho)]
   rw [wclW,hE,if_neg (show¬(wclC v ch).2=0 from ho)];rfl
  rw [e];exact⟨⟨rfl,rfl,rfl,rfl,rfl,rfl,rfl,rfl⟩,rfl⟩
 ·have e:wclW v ch=(zeroW,1):=by
   have hE:wclE v ch=1:=by rw [wclE,if_pos hok]
   rw [wclW,hE,if_neg (by decide)]
  rw [e];exact⟨⟨rfl,rfl,rfl,rfl,rfl,rfl,rfl,rfl⟩,rfl⟩⟩
attribute [go_sem] Tryz.f25
@[go_sem] def c_r17like:Ct Tryz.prog:=⟨25,arg kWl fun v=>arg kWts fun l=>ret (v.f.next≤18446744073709551615) (.tup [kWl.d (likW v l).1, .int .i64 (likW v l).2]) [],arg_ok fun v=>arg_ok fun l=>ret_ok fun h=>by
 refine run [c_r17check,c_r17copyg] Tryz.f25 lv25 fun hT=>vc ?_
 rw [chkW_0]
 have hbad:¬(okW v∧l.length≤32)→likW v l=(zeroW,1):=fun h=>by rw [likW,if_neg h]
 refine⟨h,fun hok _=>⟨fun hl=> ?_,fun hl=>⟨?_, ?_⟩⟩,fun hok=> ?_⟩
 ·rw [hbad fun h=>by omega];exact⟨⟨rfl,rfl,rfl,rfl,rfl,rfl,rfl,rfl⟩,rfl⟩
 ·have h2:=small_ok hok
  exact⟨h2.1,h2.2.1,by show l.length≤_;omega,h2.2.2.2⟩
 ·rw [likW,if_pos ⟨hok,by omega⟩];exact⟨⟨rfl,rfl,rfl,rfl,rfl,rfl,rfl,rfl⟩,rfl⟩
 ·rw [hbad fun h=>hok h.1];exact⟨⟨rfl,rfl,rfl,rfl,rfl,rfl,rfl,rfl⟩,rfl⟩⟩
attribute [go_sem] Tryz.f27
@[go_sem] def c_r17later:Ct Tryz.prog:=⟨27,arg kWl fun v=>arg kU64 fun t=>ret (v.f.next≤18446744073709551615) (.tup [kWl.d (wlaW v t).1, .int .i64 (wlaW v t).2]) [],arg_ok fun v=>arg_ok fun t=>ret_ok fun h=>by
 refine run [c_r17check,c_r12sweep,c_r17copyg] Tryz.f27 lv27 fun hT=>vc ?_
 rw [chkW_0]
 have hbad:∀e,wlaE v t=e→¬e=0→wlaW v t=(zeroW,e):=fun e h h0=>by rw [wlaW,h,if_neg h0]
 refine⟨h,fun hok=>⟨fun ht=> ?_,fun ht=>⟨?_, ?_⟩⟩,fun hok=> ?_⟩
 ·rw [hbad 13 (by rw [wlaE,if_neg (fun h=>h hok),if_pos (by omega)]) (by decide)];exact⟨⟨rfl,rfl,rfl,rfl,rfl,rfl,rfl,rfl⟩,rfl⟩
 ·have h2:=small_ok hok
  refine⟨h2.1,h2.2.1,h2.2.2.1, ?_,h2.2.2.2.2⟩
  show(sweepI v.i t).1.length≤_
  rw [sweepI,if_pos hok.2.1]
  exact Nat.le_trans (List.length_filter_le _ _) h2.2.2.2.1
 ·rw [wlaW,if_pos (by rw [wlaE,if_neg (fun h=>h hok),if_neg (by omega)])];exact⟨⟨rfl,rfl,rfl,rfl,rfl,rfl,rfl,rfl⟩,rfl⟩
 ·rw [hbad 1 (by rw [wlaE,if_pos hok]) (by decide)];exact⟨⟨rfl,rfl,rfl,rfl,rfl,rfl,rfl,rfl⟩,rfl⟩⟩
open Go Go.Proofs Go.IntWalk
attribute [go_sem] Tryz.f225
@[go_sem] def c_hsame:Ct Tryz.prog:=⟨225,arg kHds fun a=>arg kHds fun b=>pu (.bool (decide (a=b))),arg_ok fun a=>arg_ok fun b=>ret_ok fun _=>by
 refine run [] Tryz.f225 lv225 fun hT=>vc ?_
 refine fun _ _=>⟨fun hl _=> ?_,eqL_len⟩
 refine SWp.loop (ι:={i:Nat // i≤a.length∧a.take i=b.take i}) (fun i=>⟨[(0, .sl (hds a)),(1, .sl (hds b)),(12, .int .i64 a.length),(13, .int .i64 i.1)],[],0⟩) (fun i=>a.length - i.1) ⟨0,by simp⟩ ?_ ?_
 ·simp [go_sem]
 ·rintro⟨i,hi,hab⟩
  refine aw hT lv225 (vc ?_)
  refine⟨fun h=> ?_,fun h=>eqL_all hl hi h hab⟩
  refine dr us225_6 hT (vc ?_)
  exact⟨by omega,by omega,fun he=>⟨⟨i+1,eqL_step h hl hab he⟩,by dsimp only;omega,i64_in _ (by omega)⟩,eqL_no⟩⟩
attribute [go_sem] Tryz.f174
@[go_sem] def c_csame:Ct Tryz.prog:=⟨174,arg kCh fun a=>arg kCh fun b=>pu (.bool (decide (a=b))),arg_ok fun a=>arg_ok fun b=>ret_ok fun _=>by
 refine run [c_hsame] Tryz.f174 lv174 fun hT=>vc ?_
 cases a;cases b
 simp only [Ch.mk.injEq,Int.natCast_inj]
 grind⟩
attribute [go_sem] Tryz.f95 Tryz.f173
@[go_sem] def c_lsame:Ct Tryz.prog:=⟨95,arg kChs fun a=>arg kChs fun b=>pu (.bool (decide (a=b))),arg_ok fun a=>arg_ok fun b=>ret_ok fun _=>by
 refine run [c_csame] Tryz.f95 lv95 fun hT=>vc ?_
 refine cl hT Tryz.f173 lv173 (vc ?_)
 refine fun _ _=>⟨fun hl _=> ?_,eqL_len⟩
 refine SWp.loop (ι:={i:Nat // i≤a.length∧a.take i=b.take i}) (fun i=>⟨[(1, .sl (chs b)),(2, .fn (.func 174) [] []),(15, .sl (chs a)),(16, .int .i64 a.length),(17, .int .i64 i.1)],[],0⟩) (fun i=>a.length - i.1) ⟨0,by simp⟩ ?_ ?_
 ·simp [go_sem]
 ·rintro⟨i,hi,hab⟩
  refine aw hT lv173 (vc ?_)
  refine⟨fun h=> ?_,fun h=>eqL_all hl hi h hab⟩
  exact⟨by omega,by omega,fun he=>⟨⟨i+1,eqL_step h hl hab he⟩,by dsimp only;omega,i64_in _ (by omega)⟩,eqL_no⟩⟩
attribute [go_sem] Tryz.f98 Tryz.f176 Tryz.f177
@[go_sem] def c_isame:Ct Tryz.prog:=⟨98,arg kIvs fun a=>arg kIvs fun b=>pu (.bool (decide (a=b))),arg_ok fun a=>arg_ok fun b=>ret_ok fun _=>by
 refine run [] Tryz.f98 lv98 fun hT=>vc ?_
 refine cl hT Tryz.f176 lv176 (vc ?_)
 refine fun _ _=>⟨fun hl _=> ?_,eqL_len⟩
 refine SWp.loop (ι:={i:Nat // i≤a.length∧a.take i=b.take i}) (fun i=>⟨[(1, .sl (ivs b)),(2, .fn (.func 177) [] []),(15, .sl (ivs a)),(16, .int .i64 a.length),(17, .int .i64 i.1)],[],0⟩) (fun i=>a.length - i.1) ⟨0,by simp⟩ ?_ ?_
 ·simp [go_sem]
 ·rintro⟨i,hi,hab⟩
  refine aw hT lv176 (vc ?_)
  refine⟨fun h=> ?_,fun h=>eqL_all hl hi h hab⟩
  refine⟨by omega,by omega, ?_⟩
  refine cl hT Tryz.f177 lv177 (vc ?_)
  exact⟨fun he=>⟨⟨i+1,eqL_step h hl hab he⟩,by dsimp only;omega,i64_in _ (by omega)⟩,eqL_no⟩⟩
attribute [go_sem] Tryz.f178
@[go_sem] def c_pyeq:Ct Tryz.prog:=⟨178,arg kPys fun a=>arg kPys fun b=>pu (.bool (decide (a=b))),arg_ok fun a=>arg_ok fun b=>ret_ok fun _=>by
 refine run [] Tryz.f178 lv178 fun hT=>vc ?_
 refine fun _ _=>⟨fun hl _=> ?_,eqL_len⟩
 refine SWp.loop (ι:={i:Nat // i≤a.length∧a.take i=b.take i}) (fun i=>⟨[(0, .sl (pys a)),(1, .sl (pys b)),(12, .int .i64 a.length),(13, .int .i64 i.1)],[],0⟩) (fun i=>a.length - i.1) ⟨0,by simp⟩ ?_ ?_
 ·simp [go_sem]
 ·rintro⟨i,hi,hab⟩
  refine aw hT lv178 (vc ?_)
  refine⟨fun h=> ?_,fun h=>eqL_all hl hi h hab⟩
  refine dr us178_6 hT (vc ?_)
  exact⟨by omega,by omega,fun he=>⟨⟨i+1,eqL_step h hl hab he⟩,by dsimp only;omega,i64_in _ (by omega)⟩,eqL_no⟩⟩
attribute [go_sem] Tryz.f99
@[go_sem] def c_psame:Ct Tryz.prog:=⟨99,arg kPys fun a=>arg kPys fun b=>pu (.bool (decide (a=b))),arg_ok fun a=>arg_ok fun b=>ret_ok fun _=>by
 exact run [c_pyeq] Tryz.f99 lv99 fun hT=>vc0⟩
attribute [go_sem] Tryz.f179
@[go_sem] def c_eveq:Ct Tryz.prog:=⟨179,arg kEvs fun a=>arg kEvs fun b=>pu (.bool (decide (a=b))),arg_ok fun a=>arg_ok fun b=>ret_ok fun _=>by
 refine run [] Tryz.f179 lv179 fun hT=>vc ?_
 refine fun _ _=>⟨fun hl _=> ?_,eqL_len⟩
 refine SWp.loop (ι:={i:Nat // i≤a.length∧a.take i=b.take i}) (fun i=>⟨[(0, .sl (evs a)),(1, .sl (evs b)),(12, .int .i64 a.length),(13, .int .i64 i.1)],[],0⟩) (fun i=>a.length - i.1) ⟨0,by simp⟩ ?_ ?_
 ·simp [go_sem]
 ·rintro⟨i,hi,hab⟩
  refine aw hT lv179 (vc ?_)
  refine⟨fun h=> ?_,fun h=>eqL_all hl hi h hab⟩
  refine dr us179_6 hT (vc ?_)
  exact⟨by omega,by omega,fun he=>⟨⟨i+1,eqL_step h hl hab he⟩,by dsimp only;omega,i64_in _ (by omega)⟩,eqL_no⟩⟩
attribute [go_sem] Tryz.f100
@[go_sem] def c_fsame:Ct Tryz.prog:=⟨100,arg kFd fun a=>arg kFd fun b=>pu (.bool (decide (a=b))),arg_ok fun a=>arg_ok fun b=>ret_ok fun _=>by
 refine run [c_eveq] Tryz.f100 lv100 fun hT=>vc ?_
 cases a;cases b
 simp only [Fd.mk.injEq,Int.natCast_inj]
 grind⟩
attribute [go_sem] Tryz.f97
@[go_sem] def c_wliked:Ct Tryz.prog:=⟨97,arg kWt fun a=>arg kWt fun b=>pu (.bool (lik a b)),arg_ok fun a=>arg_ok fun b=>ret_ok fun _=>by
 refine run [c_cmpf] Tryz.f97 lv97 fun hT=>vc ?_
 simp only [cmpS_0,Int.natCast_inj,lik]
 grind⟩
attribute [go_sem] Tryz.f30 Tryz.f96
@[go_sem] def c_wsame:Ct Tryz.prog:=⟨30,arg kWl fun a=>arg kWl fun b=>pu (.bool (sameW a b)),arg_ok fun a=>arg_ok fun b=>ret_ok fun _=>by
 refine run [c_lsame,c_isame,c_psame,c_fsame,c_wliked] Tryz.f30 lv30 fun hT=>vc ?_
 refine⟨fun hc=> ?_,fun hc=> ?_⟩
 rotate_left 1
 ·rw [eq_comm,sameW,decide_eq_false_iff_not];exact fun h=>hc h.1
 refine cl hT Tryz.f96 lv96 (vc ?_)
 refine fun _ _=>⟨fun hl _=> ?_,fun hl=> ?_⟩
 rotate_left 1
 ·rw [eq_comm,sameW,decide_eq_false_iff_not];exact fun h=>by have:=h.2.1;rw [←likL_len hl]at this;cases this
 refine SWp.loop (ι:={i:Nat // i≤a.w.length∧∀j,j<i→lik (a.w.getD j default) (b.w.getD j default)=true}) (fun i=>⟨[(1, .sl (wts b.w)),(2, .fn (.func 97) [] []),(15, .sl (wts a.w)),(16, .int .i64 a.w.length),(17, .int .i64 i.1)],[(1, .box [.sl (chs b.c), .sl (wts b.w), .sl (ivs b.i), .sl (pys b.p), .c (.int .u64 b.f.next), .sl (evs b.f.l), .c (.int .u64 b.next), .c (.int .u64 b.tick)]),(0, .box [.sl (chs a.c), .sl (wts a.w), .sl (ivs a.i), .sl (pys a.p), .c (.int .u64 a.f.next), .sl (evs a.f.l), .c (.int .u64 a.next), .c (.int .u64 a.tick)])],2⟩) (fun i=>a.w.length - i.1) ⟨0,by simp⟩ ?_ ?_
 ·simp [go_sem]
 ·rintro⟨i,hi,hab⟩
  refine aw hT lv96 (vc ?_)
  refine⟨fun h=>⟨by omega,by omega,fun he=>⟨⟨i+1,likL_step h hab he⟩,by dsimp only;omega,i64_in _ (by omega)⟩,fun he=> ?_⟩,fun h=> ?_⟩
  ·rw [eq_comm,sameW,decide_eq_false_iff_not];exact fun h2=>by have:=h2.2.1;rw [←likL_no h he]at this;cases this
  have hw:=likL_all hl h hab
  unfold sameW
  simp only [hw,hc,Int.natCast_inj]
  clear h hab hl
  grind⟩
open Go Go.Proofs Go.IntWalk
attribute [go_sem] Tryz.f201
@[go_sem] def c_wtclonef:Ct Tryz.prog:=⟨201,arg kWts fun l=>ret (l.length≤1000000) (.vec 0 l.length) ([(2,60,true,wts l)]),arg_ok fun l=>retF_ok fun h=>by
 refine runF [] Tryz.f201 lv201 fun hT=>vc ?_
 refine fun b hb=>⟨fun hh=> ?_,fun hh=> ?_⟩
 ·exact⟨[none],by simp [go_sem,hb hh],by cases l<;>simp_all [go_sem,wts]⟩
 ·exact⟨by omega,[some 0],by simp [go_sem]⟩⟩
attribute [go_sem] Tryz.f121
@[go_sem] def c_wownwf:Ct Tryz.prog:=⟨121,arg kWl fun w=>ret (smallW w) (.agg [.sl (chs w.c), .vec 0 w.w.length, .sl (ivs w.i), .sl (pys w.p), .int .u64 w.f.next, .sl (evs w.f.l), .int .u64 w.next, .int .u64 w.tick]) ([(2,60,true,wts w.w)]),arg_ok fun w=>retF_ok fun h=>by
 refine runF [c_cclone,c_hclone,c_wtclonef,c_ivclone,c_pyclone,c_evclonep] Tryz.f121 lv121 fun hT=>vc ?_
 refine dr us121_1 hT (vc ?_)
 obtain⟨h1,h2,h3,h4,h5,h6⟩:=h
 refine⟨h1,h3,h4,h5,h6,fun _=>ixl 30 w.c.length (fun _=>True) trivial fun i hi _=> ?_⟩
 refine aw hT lv121 (vc ?_)
 refine⟨fun h7=>⟨by omega,by omega, ?_⟩,fun _=> ?_⟩
 ·have hi':i<w.c.length:=by omega
  have hself:w.c.set i (w.c.getD i default)=w.c:=by
   rw [getD_lt hi'];exact List.set_getElem_self hi'
  have hhl:=h2 _ (mem_getD.2 ⟨i,hi',rfl⟩)
  refine dr us121_5 hT (vc ?_)
  exact⟨hhl,by omega,hi',⟨i+1,hi',trivial⟩,by dsimp only;omega,i64_in _ (by omega),by rw [hself]⟩
 ·exact⟨[some 3],by simp [go_sem],⟨by decide,_,_,_,rfl⟩,rfl⟩⟩
@[go_sem] def c_wownff:Ct Tryz.prog:=⟨121,arg kWl fun w=>ret (smallW w) (.agg [.sl (chs w.c), .sl (wts w.w), .sl (ivs w.i), .sl (pys w.p), .int .u64 w.f.next, .vec 0 w.f.l.length, .int .u64 w.next, .int .u64 w.tick]) ([(4,62,true,evs w.f.l)]),arg_ok fun w=>retF_ok fun h=>by
 refine runF [c_cclone,c_hclone,c_wtclone,c_ivclone,c_pyclone,c_evclone] Tryz.f121 lv121 fun hT=>vc ?_
 refine dr us121_1 hT (vc ?_)
 obtain⟨h1,h2,h3,h4,h5,h6⟩:=h
 refine⟨h1,h3,h4,h5,h6,fun _=>ixl 30 w.c.length (fun _=>True) trivial fun i hi _=> ?_⟩
 refine aw hT lv121 (vc ?_)
 refine⟨fun h7=>⟨by omega,by omega, ?_⟩,fun _=> ?_⟩
 ·have hi':i<w.c.length:=by omega
  have hself:w.c.set i (w.c.getD i default)=w.c:=by
   rw [getD_lt hi'];exact List.set_getElem_self hi'
  have hhl:=h2 _ (mem_getD.2 ⟨i,hi',rfl⟩)
  refine dr us121_5 hT (vc ?_)
  exact⟨hhl,by omega,hi',⟨i+1,hi',trivial⟩,by dsimp only;omega,i64_in _ (by omega),by rw [hself]⟩
 ·exact⟨[some 3],by simp [go_sem],⟨by decide,_,_,_,rfl⟩,rfl⟩⟩
attribute [go_sem] Tryz.f24 Tryz.f36 Tryz.f37 Tryz.f47
@[go_sem] def c_wlikef:Ct Tryz.prog:=⟨24,arg kWl fun v=>arg kWts fun l=>ret (v.f.next≤18446744073709551615) (.tup [.agg [.sl (chs (likW v l).1.c), .vec 0 (likW v l).1.w.length, .sl (ivs (likW v l).1.i), .sl (pys (likW v l).1.p), .int .u64 (likW v l).1.f.next, .sl (evs (likW v l).1.f.l), .int .u64 (likW v l).1.next, .int .u64 (likW v l).1.tick], .int .i64 (likW v l).2]) ([(2,60,true,wts (likW v l).1.w)]),arg_ok fun v=>arg_ok fun l=>retF_ok fun h=>by
 refine runF [c_wcheck,c_wownwf] Tryz.f24 lv24 fun hT=>vc ?_
 refine cl hT Tryz.f36 lv36 (vc ?_)
 refine dr us36_1 hT (vc ?_)
 refine⟨h, ?_⟩
 intro hll
 have hbad:¬(okW v∧l.length≤32)→likW v l=(zeroW,1):=fun h=>by rw [likW,if_neg h]
 by_cases hok:okW v
 rotate_left 1
 ·have hc1:chkW v=1:=by rw [chkW,if_neg hok]
  rw [hc1]
  refine cl hT Tryz.f37 lv37 ?_
  simp -implicitDefEqProofs only [cdA,go_sem,i1_0,cdN,simprocAttr, -Int.reduceEq,List.cons.injEq,cdB]
  refine cl hT Tryz.f47 lv47 ?_
  simp -implicitDefEqProofs only [cdA,go_sem,i1_0,cdN,simprocAttr, -Int.reduceEq,List.cons.injEq,cdB]
  refine dr us47_2 hT ?_
  simp -implicitDefEqProofs only [cdA,go_sem,i1_0,cdN,simprocAttr, -Int.reduceEq,List.cons.injEq,cdB]
  rw [hbad fun h=>hok h.1]
  exact⟨[none],by simp [go_sem,wts,zeroW],⟨rfl,⟨rfl,rfl⟩,rfl,rfl,rfl,rfl,rfl,rfl⟩,rfl⟩
 have hck:chkW v=0:=chkW_0.2 hok
 rw [hck]
 by_cases hl:l.length≤32
 rotate_left 1
 ·have hl':((l.length:Int)≤32)=False:=eq_false (by omega)
  refine cl hT Tryz.f37 lv37 ?_
  simp -implicitDefEqProofs only [cdA,go_sem,hl',decide_false,cdN,simprocAttr, -Int.reduceEq,List.cons.injEq,cdB]
  refine cl hT Tryz.f47 lv47 ?_
  simp -implicitDefEqProofs only [cdA,go_sem,i1_0,cdN,simprocAttr, -Int.reduceEq,List.cons.injEq,cdB]
  refine dr us47_2 hT ?_
  simp -implicitDefEqProofs only [cdA,go_sem,i1_0,cdN,simprocAttr, -Int.reduceEq,List.cons.injEq,cdB]
  rw [hbad fun h=>hl h.2]
  exact⟨[none],by simp [go_sem,wts,zeroW],⟨rfl,⟨rfl,rfl⟩,rfl,rfl,rfl,rfl,rfl,rfl⟩,rfl⟩
 have hl':((l.length:Int)≤32)=True:=eq_true (by omega)
 refine cl hT Tryz.f37 lv37 ?_
 simp -implicitDefEqProofs only [cdA,go_sem,hl',decide_true,cdN,simprocAttr, -Int.reduceEq,List.cons.injEq,cdB]
 have hsm:smallW ⟨v.c,l,v.i,v.p,v.f,v.next,v.tick⟩:=by
  have h2:=small_ok hok
  exact⟨h2.1,h2.2.1,by show l.length≤_;omega,h2.2.2.2.1,h2.2.2.2.2.1,h2.2.2.2.2.2⟩
 have hfin:likW v l=(⟨v.c,l,v.i,v.p,v.f,v.next,v.tick⟩,0):=by rw [likW,if_pos ⟨hok,hl⟩]
 refine cl hT Tryz.f47 lv47 ?_
 simp -implicitDefEqProofs only [cdA,go_sem,eq_true hsm,cdN,simprocAttr, -Int.reduceEq,List.cons.injEq,cdB]
 rw [hfin]
 exact⟨[some 5],by simp [go_sem],⟨rfl,⟨rfl,rfl⟩,rfl,rfl,rfl,rfl,rfl,rfl⟩,rfl⟩⟩
attribute [go_sem] Tryz.f26 Tryz.f59 Tryz.f83
@[go_sem] def c_wlaterf:Ct Tryz.prog:=⟨26,arg kWl fun v=>arg kU64 fun t=>ret (v.f.next≤18446744073709551615) (.tup [.agg [.sl (chs (wlaW v t).1.c), .sl (wts (wlaW v t).1.w), .sl (ivs (wlaW v t).1.i), .sl (pys (wlaW v t).1.p), .int .u64 (wlaW v t).1.f.next, .vec 0 (wlaW v t).1.f.l.length, .int .u64 (wlaW v t).1.next, .int .u64 (wlaW v t).1.tick], .int .i64 (wlaW v t).2]) ([(4,62,true,evs (wlaW v t).1.f.l)]),arg_ok fun v=>arg_ok fun t=>retF_ok fun h=>by
 refine runF [c_wcheck,c_isweep,c_wownff] Tryz.f26 lv26 fun hT=>vc ?_
 refine cl hT Tryz.f36 lv36 (vc ?_)
 refine dr us36_1 hT (vc ?_)
 refine⟨h, ?_⟩
 have hbad:∀e:Int,wlaE v t=e→¬e=0→wlaW v t=(zeroW,e):=fun e h1 h2=>by rw [wlaW,if_neg (by rw [h1];exact h2),h1]
 by_cases hok:okW v
 rotate_left 1
 ·have hc1:chkW v=1:=by rw [chkW,if_neg hok]
  rw [hc1]
  refine cl hT Tryz.f37 lv37 ?_
  simp -implicitDefEqProofs only [cdA,go_sem,i1_0,cdN,simprocAttr, -Int.reduceEq,List.cons.injEq,cdB]
  refine cl hT Tryz.f59 lv59 ?_
  simp -implicitDefEqProofs only [cdA,go_sem,i1_0,cdN,simprocAttr, -Int.reduceEq,List.cons.injEq,cdB]
  refine cl hT Tryz.f47 lv47 ?_
  simp -implicitDefEqProofs only [cdA,go_sem,i1_0,cdN,simprocAttr, -Int.reduceEq,List.cons.injEq,cdB]
  refine dr us47_2 hT ?_
  simp -implicitDefEqProofs only [cdA,go_sem,i1_0,cdN,simprocAttr, -Int.reduceEq,List.cons.injEq,cdB]
  rw [hbad 1 (by rw [wlaE,if_pos hok]) (by decide)]
  exact⟨[none],by simp [go_sem,evs,zeroW],⟨rfl,rfl,rfl,rfl,rfl,⟨rfl,rfl⟩,rfl,rfl⟩,rfl⟩
 have hck:chkW v=0:=chkW_0.2 hok
 rw [hck]
 by_cases hl:v.tick≤t
 rotate_left 1
 ·have hl':((v.tick:Int)≤t)=False:=eq_false (by omega)
  refine cl hT Tryz.f37 lv37 ?_
  simp -implicitDefEqProofs only [cdA,go_sem,hl',decide_false,cdN,simprocAttr, -Int.reduceEq,List.cons.injEq,cdB]
  refine cl hT Tryz.f59 lv59 ?_
  simp -implicitDefEqProofs only [cdA,go_sem,i13_0,cdN,simprocAttr, -Int.reduceEq,List.cons.injEq,cdB]
  refine cl hT Tryz.f47 lv47 ?_
  simp -implicitDefEqProofs only [cdA,go_sem,i13_0,cdN,simprocAttr, -Int.reduceEq,List.cons.injEq,cdB]
  refine dr us47_2 hT ?_
  simp -implicitDefEqProofs only [cdA,go_sem,i13_0,cdN,simprocAttr, -Int.reduceEq,List.cons.injEq,cdB]
  rw [hbad 13 (by rw [wlaE,if_neg (fun h=>h hok),if_pos (by omega)]) (by decide)]
  exact⟨[none],by simp [go_sem,evs,zeroW],⟨rfl,rfl,rfl,rfl,rfl,⟨rfl,rfl⟩,rfl,rfl⟩,rfl⟩
 have hl':((v.tick:Int)≤t)=True:=eq_true (by omega)
 have hsw:(sweepI v.i t).2=0:=by rw [sweepI,if_pos hok.2.1]
 refine cl hT Tryz.f37 lv37 ?_
 simp -implicitDefEqProofs only [cdA,go_sem,hl',decide_true,cdN,simprocAttr, -Int.reduceEq,List.cons.injEq,cdB]
 refine cl hT Tryz.f59 lv59 ?_
 simp -implicitDefEqProofs only [cdA,go_sem,hsw,cdN,simprocAttr, -Int.reduceEq,List.cons.injEq,cdB]
 refine cl hT Tryz.f83 lv83 ?_
 simp -implicitDefEqProofs only [cdA,go_sem,hsw,cdN,simprocAttr, -Int.reduceEq,List.cons.injEq,cdB]
 have hsm:smallW ⟨v.c,v.w,(sweepI v.i t).1,v.p,v.f,v.next,t⟩:=by
  have h2:=small_ok hok
  have h3:=(sweep_ok hsw).2.1.1
  exact⟨h2.1,h2.2.1,h2.2.2.1,by show(sweepI v.i t).1.length≤_;omega,h2.2.2.2.2.1,h2.2.2.2.2.2⟩
 have hfin:wlaW v t=(⟨v.c,v.w,(sweepI v.i t).1,v.p,v.f,v.next,t⟩,0):=by
  have:wlaE v t=0:=by rw [wlaE,if_neg (fun h=>h hok),if_neg (by omega)]
  rw [wlaW,if_pos this]
 refine cl hT Tryz.f47 lv47 ?_
 simp -implicitDefEqProofs only [cdA,go_sem,eq_true hsm,cdN,simprocAttr, -Int.reduceEq,List.cons.injEq,cdB]
 rw [hfin]
 exact⟨[some 6],by simp [go_sem],⟨rfl,rfl,rfl,rfl,rfl,⟨rfl,rfl⟩,rfl,rfl⟩,rfl⟩⟩
open Go Go.Proofs Go.IntWalk
structure Opn where
 kind:Nat
 a:Nat
 b:Nat
 c:Nat
 tick:Nat
 paid:Bool
 chan:Ch
 w:List Wt
deriving DecidableEq,Inhabited
@[go_sem] def Opn.enc (e:Opn):List C:=[.int .u8 (e.kind:Int), .int .u64 (e.a:Int), .int .u64 (e.b:Int), .int .u64 (e.c:Int), .int .u64 (e.tick:Int), .bool e.paid, .int .u64 (e.chan.id:Int), .int .u64 (e.chan.loc:Int), .int .u64 (e.chan.rem:Int), .int .u64 (e.chan.res:Int), .int .u64 (e.chan.most:Int), .sl (hds e.chan.holds), .bool e.chan.op, .sl (wts e.w)]
@[go_sem] def Opn.dec:List C→Opn
 |[.int .u8 z2, .int .u64 z3, .int .u64 z4, .int .u64 z5, .int .u64 z6, .bool z7, .int .u64 z9, .int .u64 z10, .int .u64 z11, .int .u64 z12, .int .u64 z13, .sl z14, .bool z15, .sl z16]=>(⟨z2.toNat,z3.toNat,z4.toNat,z5.toNat,z6.toNat,z7,(⟨z9.toNat,z10.toNat,z11.toNat,z12.toNat,z13.toNat,(dhds z14),z15⟩:Ch),(dwts z16)⟩:Opn)
 |_=>default
def opns (l:List Opn):List (List C):=l.map Opn.enc
def dopns (l:List (List C)):List Opn:=l.map Opn.dec
abbrev kOpn:=kAg Opn.enc Opn.dec
@[simp,go_sem] theorem opns_length (l:List Opn):(opns l).length=l.length:=by simp [opns]
@[go_sem] theorem opns_get (l:List Opn) (i:Nat):(opns l).getD i [.int .u8 0, .int .u64 0, .int .u64 0, .int .u64 0, .int .u64 0, .bool false, .int .u64 0, .int .u64 0, .int .u64 0, .int .u64 0, .int .u64 0, .sl [], .bool false, .sl []]=(l.getD i default).enc:=by
 simp only [opns,List.getD_eq_getElem?_getD,List.getElem?_map]
 cases l[i]? <;>rfl
@[go_sem] theorem opns_wide (l:List Opn):Wide 14 (opns l)=True:=by
 simp [Wide,opns,Opn.enc]
theorem Opn.dec_enc (e:Opn):Opn.dec e.enc=e:=by
 simp [Opn.enc,Opn.dec,dhds_hds,dwts_wts]
@[go_sem] theorem dopns_opns (l:List Opn):dopns (opns l)=l:=by
 simp only [dopns,opns,List.map_map]
 exact List.map_id'' (fun e=>Opn.dec_enc e) l
@[go_sem] theorem opns_app (a b:List Opn):opns a++opns b=opns (a++b):=by simp [opns]
@[go_sem] theorem opns_drop (l:List Opn) (k:Nat):(opns l).drop k=opns (l.drop k):=by simp [opns]
@[go_sem] theorem opns_take (l:List Opn) (k:Nat):(opns l).take k=opns (l.take k):=by simp [opns]
@[go_sem] theorem opns_one (z17:Int) (z18:Int) (z19:Int) (z20:Int) (z21:Int) (z22:Bool) (z23:Int) (z24:Int) (z25:Int) (z26:Int) (z27:Int) (z28:List Hd) (z29:Bool) (z30:List Wt) (hz17:0≤z17) (hz18:0≤z18) (hz19:0≤z19) (hz20:0≤z20) (hz21:0≤z21) (hz23:0≤z23) (hz24:0≤z24) (hz25:0≤z25) (hz26:0≤z26) (hz27:0≤z27):[[C.int .u8 z17,C.int .u64 z18,C.int .u64 z19,C.int .u64 z20,C.int .u64 z21,C.bool z22,C.int .u64 z23,C.int .u64 z24,C.int .u64 z25,C.int .u64 z26,C.int .u64 z27,C.sl (hds z28),C.bool z29,C.sl (wts z30)]]=opns [⟨z17.toNat,z18.toNat,z19.toNat,z20.toNat,z21.toNat,z22,⟨z23.toNat,z24.toNat,z25.toNat,z26.toNat,z27.toNat,z28,z29⟩,z30⟩]:=by simp [opns,Opn.enc,Int.toNat_of_nonneg hz17,Int.toNat_of_nonneg hz18,Int.toNat_of_nonneg hz19,Int.toNat_of_nonneg hz20,Int.toNat_of_nonneg hz21,Int.toNat_of_nonneg hz23,Int.toNat_of_nonneg hz24,Int.toNat_of_nonneg hz25,Int.toNat_of_nonneg hz26,Int.toNat_of_nonneg hz27]
@[go_sem] theorem opns_set (l:List Opn) (i:Nat) (z17:Int) (z18:Int) (z19:Int) (z20:Int) (z21:Int) (z22:Bool) (z23:Int) (z24:Int) (z25:Int) (z26:Int) (z27:Int) (z28:List Hd) (z29:Bool) (z30:List Wt) (hz17:0≤z17) (hz18:0≤z18) (hz19:0≤z19) (hz20:0≤z20) (hz21:0≤z21) (hz23:0≤z23) (hz24:0≤z24) (hz25:0≤z25) (hz26:0≤z26) (hz27:0≤z27):(opns l).set i [C.int .u8 z17,C.int .u64 z18,C.int .u64 z19,C.int .u64 z20,C.int .u64 z21,C.bool z22,C.int .u64 z23,C.int .u64 z24,C.int .u64 z25,C.int .u64 z26,C.int .u64 z27,C.sl (hds z28),C.bool z29,C.sl (wts z30)]=opns (l.set i ⟨z17.toNat,z18.toNat,z19.toNat,z20.toNat,z21.toNat,z22,⟨z23.toNat,z24.toNat,z25.toNat,z26.toNat,z27.toNat,z28,z29⟩,z30⟩):=by simp [opns,List.map_set,Opn.enc,Int.toNat_of_nonneg hz17,Int.toNat_of_nonneg hz18,Int.toNat_of_nonneg hz19,Int.toNat_of_nonneg hz20,Int.toNat_of_nonneg hz21,Int.toNat_of_nonneg hz23,Int.toNat_of_nonneg hz24,Int.toNat_of_nonneg hz25,Int.toNat_of_nonneg hz26,Int.toNat_of_nonneg hz27]
@[go_sem] theorem opns_cons (l:List Opn) (z17:Int) (z18:Int) (z19:Int) (z20:Int) (z21:Int) (z22:Bool) (z23:Int) (z24:Int) (z25:Int) (z26:Int) (z27:Int) (z28:List Hd) (z29:Bool) (z30:List Wt) (hz17:0≤z17) (hz18:0≤z18) (hz19:0≤z19) (hz20:0≤z20) (hz21:0≤z21) (hz23:0≤z23) (hz24:0≤z24) (hz25:0≤z25) (hz26:0≤z26) (hz27:0≤z27):[C.int .u8 z17,C.int .u64 z18,C.int .u64 z19,C.int .u64 z20,C.int .u64 z21,C.bool z22,C.int .u64 z23,C.int .u64 z24,C.int .u64 z25,C.int .u64 z26,C.int .u64 z27,C.sl (hds z28),C.bool z29,C.sl (wts z30)]::opns l=opns (⟨z17.toNat,z18.toNat,z19.toNat,z20.toNat,z21.toNat,z22,⟨z23.toNat,z24.toNat,z25.toNat,z26.toNat,z27.toNat,z28,z29⟩,z30⟩::l):=by simp [opns,Opn.enc,Int.toNat_of_nonneg hz17,Int.toNat_of_nonneg hz18,Int.toNat_of_nonneg hz19,Int.toNat_of_nonneg hz20,Int.toNat_of_nonneg hz21,Int.toNat_of_nonneg hz23,Int.toNat_of_nonneg hz24,Int.toNat_of_nonneg hz25,Int.toNat_of_nonneg hz26,Int.toNat_of_nonneg hz27]
@[go_sem] theorem Opn.eta {e:Opn}:(⟨e.kind,e.a,e.b,e.c,e.tick,e.paid,e.chan,e.w⟩:Opn)=e:=rfl
attribute [go_sem] Tryz.f19
@[go_sem] def c_lfew:Ct Tryz.prog:=⟨19,arg kOpn fun o=>pu (.bool (decide (o.chan.holds.length≤20∧o.w.length≤40))),arg_ok fun o=>ret_ok fun _=>by
 refine run [] Tryz.f19 lv19 fun hT=>vc ?_
 refine fun _=>⟨fun h1 _=> ?_,fun h1=>(decide_eq_false fun h=>by omega).symm⟩
 rw [decide_eq_decide];omega⟩
open Go Go.Proofs
theorem wf_u8 {n:Int} (h:(Lit.int .u8 n).wf=true):0≤n∧n≤255:=by
 simp [Lit.wf,IntKind.min,IntKind.max,IntKind.bits,IntKind.signed]at h
 omega
theorem typ5 {k:Nat} {xs:List C} (h:Typ Tryz.prog (k+1) 5 xs):∃n:Nat,xs=[.int .u8 (n:Int)]∧n≤255:=by
 simp only [Typ,Tryz.underlying5]at h
 obtain⟨n,rfl,h1⟩:=h
 have:=wf_u8 h1
 exact⟨n.toNat,by rw [Int.toNat_of_nonneg (by omega)],by omega⟩
def Opn.rng (o:Opn):Prop:=o.kind≤255∧o.a≤18446744073709551615∧o.b≤18446744073709551615∧o.c≤18446744073709551615∧o.tick≤18446744073709551615∧o.chan.rng∧∀e∈o.w,e.rng
theorem typ36x {k:Nat} {xs:List C} (h:Typ Tryz.prog (k+6) 36 xs):∃o:Opn,xs=o.enc∧o.rng:=by
 rw [show k+6=(k+5)+1 from rfl,Typ,Tryz.underlying36]at h
 simp only [TypFs]at h
 obtain⟨_,_,rfl,h0,_,_,rfl,h1,_,_,rfl,h2,_,_,rfl,h3,_,_,rfl,h4,_,_,rfl,h5,_,_,rfl,h6,_,_,rfl,h7,rfl⟩:=h
 obtain⟨kd,rfl,q0⟩:=typ5 (k:=k+4) h0
 obtain⟨a,rfl,q1⟩:=typ26 (k:=k+4) h1
 obtain⟨b,rfl,q2⟩:=typ26 (k:=k+4) h2
 obtain⟨c,rfl,q3⟩:=typ26 (k:=k+4) h3
 obtain⟨t,rfl,q4⟩:=typ26 (k:=k+4) h4
 obtain⟨p,rfl⟩:=typ4 (k:=k+4) h5
 obtain⟨e6,q6⟩:=typ34 (k:=k+1) h6
 obtain⟨w,rfl,q7⟩:=typ23 (k:=k+2) h7
 refine⟨⟨kd,a,b,c,t,p,Ch.dec _,w⟩, ?_,q0,q1,q2,q3,q4,q6,q7⟩
 rw [←e6]
 simp [Opn.enc,Ch.enc,Ch.dec,dhds_hds]
open Go Go.Proofs Go.IntWalk
attribute [go_sem] Tryz.f102
@[go_sem] def c_r16new:Ct Tryz.prog:=⟨102,pu (.agg [.int .u64 1, .sl (evs [])]),ret_ok fun _=>by
 refine run [] Tryz.f102 lv102 fun hT=>vc ?_
 rfl⟩
attribute [go_sem] Tryz.f32
@[go_sem] def c_r17new:Ct Tryz.prog:=⟨32,pu (.agg [.sl (chs []), .sl (wts []), .sl (ivs []), .sl (pys []), .int .u64 1, .sl (evs []), .int .u64 1, .int .u64 0]),ret_ok fun _=>by
 refine run [c_r16new] Tryz.f32 lv32 fun hT=>vc ?_
 exact⟨rfl,rfl,rfl,rfl⟩⟩
attribute [go_sem] Tryz.f4
theorem WalletTurns_ok (w:Wl) (v:Wl) (o:Opn) (h:w.f.next≤18446744073709551615∧v.f.next≤18446744073709551615):PureFn Tryz.prog 4 [.agg [.sl (chs w.c), .sl (wts w.w), .sl (ivs w.i), .sl (pys w.p), .c (.int .u64 (w.f.next:Int)), .sl (evs w.f.l), .c (.int .u64 (w.next:Int)), .c (.int .u64 (w.tick:Int))], .agg [.sl (chs v.c), .sl (wts v.w), .sl (ivs v.i), .sl (pys v.p), .c (.int .u64 (v.f.next:Int)), .sl (evs v.f.l), .c (.int .u64 (v.next:Int)), .c (.int .u64 (v.tick:Int))], .agg [.c (.int .u8 (o.kind:Int)), .c (.int .u64 (o.a:Int)), .c (.int .u64 (o.b:Int)), .c (.int .u64 (o.c:Int)), .c (.int .u64 (o.tick:Int)), .c (.bool o.paid), .c (.int .u64 (o.chan.id:Int)), .c (.int .u64 (o.chan.loc:Int)), .c (.int .u64 (o.chan.rem:Int)), .c (.int .u64 (o.chan.res:Int)), .c (.int .u64 (o.chan.most:Int)), .sl (hds o.chan.holds), .c (.bool o.chan.op), .sl (wts o.w)]] (.bool true):=by
 refine run [c_live,c_few17,c_lfew,c_r17copyg,c_wopen,c_r17open,c_wclose,c_r17close,c_wlikef,c_r17like,c_wlaterf,c_r17later,c_r17sameg,c_wcheck,c_r17check,c_wsame,c_wnew,c_r17new] Tryz.f4 lv4 fun hT=>vc ?_
 obtain⟨h1,h2⟩:=h
 refine⟨fun hq=>⟨fun hq2=>⟨fun hl=>⟨?_,h1,h1,h1,h1,h1,h1,h1,h1, ?_⟩,fun _=>trivial⟩,fun _=>trivial⟩,fun _=>trivial⟩
 ·obtain⟨⟨c1,c2⟩,c3,c4,c5,c6⟩:=hq
  exact⟨by omega,fun c hc=>by have:=c1 c hc;omega,by omega,by omega,by omega,by omega⟩
 refine dr us4_14 hT ?_
 simp -implicitDefEqProofs only [cdA,go_sem,sameW_self,beq_self_eq_true,decide_true,true_implies,false_implies,not_false_eq_true,not_true_eq_false,simprocAttr, -Int.reduceEq,List.cons.injEq,cdB]
 generalize (likW w o.w).1=X
 generalize (wlaW w o.tick).1=Y
 refine⟨h1,h1,fun _=>lpl (ι:={x:Nat×List Wt // x.1≤X.w.length∧x.2.length=X.w.length}) (fun s x=>(s.up 162 (.int .i64 x.1.1)).uo 8 (.vec true 2 60 (wts x.1.2))) (fun x=>X.w.length - x.1.1) ⟨(0,X.w),Nat.zero_le _,rfl⟩ ?_⟩
 rintro⟨⟨i,R⟩,hi,hR⟩
 dsimp only at hi hR⊢
 refine aw hT lv4 (vc ?_)
 refine⟨fun hlt=>⟨hlt,⟨by omega,by omega⟩,hlt,⟨by omega,by omega⟩,⟨(i+1,_),by omega,by rw [List.length_set];exact hR⟩,by dsimp only;omega,i64_in _ (by omega),rfl⟩,fun _ _=> ?_⟩
 refine lpl (ι:={x:Nat×List Ev // x.1≤Y.f.l.length∧x.2.length=Y.f.l.length}) (fun s x=>(s.up 179 (.int .i64 x.1.1)).uo 11 (.vec true 4 62 (evs x.1.2))) (fun x=>Y.f.l.length - x.1.1) ⟨(0,Y.f.l),Nat.zero_le _,rfl⟩ ?_
 clear hi hR
 rintro⟨⟨i,R⟩,hi,hR⟩
 dsimp only at hi hR⊢
 refine aw hT lv4 ?_
 simp -implicitDefEqProofs only [cdA,go_sem,sameW_self,simprocAttr, -Int.reduceEq,List.cons.injEq,cdB]
 exact⟨fun hlt=>⟨hlt,⟨by omega,by omega⟩,hlt,⟨by omega,by omega⟩,⟨(i+1,_),by omega,by rw [List.length_set];exact hR⟩,by dsimp only;omega,i64_in _ (by omega),rfl⟩,fun _=>trivial⟩
end Dm
