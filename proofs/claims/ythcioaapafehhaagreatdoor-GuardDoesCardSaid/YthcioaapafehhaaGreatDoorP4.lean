import Derived.Test.YthcioaapafehhaaGreatDoorP3

set_option linter.unusedSimpArgs false
set_option linter.unusedVariables false
set_option linter.unusedSectionVars false
set_option linter.defProp false
set_option maxRecDepth 20000
set_option maxHeartbeats 4000000
namespace Dm
set_option maxRecDepth 20000
def lvL (l:List (Nat×List Nat)) (i:Nat):Option (List Nat):=lk i l
@[go_sem] theorem gfa (l:List (Nat×List Nat)) (i:Nat):lvL l i=lk i l:=rfl
abbrev lv7:Nat→Option (List Nat):=lvL [(0,[3,4,5,6,7,8]),(1,[3,4,5,6,7,8,43]),(2,[12]),(3,[3,4,5,6,7,8,56]),(4,[12]),(5,[3,4,5,6,7,8,13]),(6,[3,4,5,6,7,8,13,14,15]),(7,[3,4,5,6,7,8,13,14,15,16,17]),(8,[3,4,5,6,7,8,13,14,15,16,17,18,19]),(9,[4,5,6,7,13,14,15,16,17,18,19,20,21]),(10,[4,5,6,7,13,14,15,16,17,18,19,20,21,22,23,24]),(11,[4,5,6,7,13,14,15,16,17,18,19,20,21,22,23,24,25,26,27]),(12,[4,5,6,7,13,14,15,16,17,18,19,20,21,22,23,24,25,26,27,28,29,30]),(13,[4,6,7,13,14,15,16,17,18,19,20,21,22,23,24,25,26,27,28,29,30,31,32,33]),(14,[4,6,7,13,14,15,16,17,18,19,20,21,22,23,24,25,26,27,28,29,30,31,32,33,34,35]),(15,[6,7,13,14,15,16,17,18,19,20,21,22,23,24,25,26,27,28,29,30,31,32,33,34,35,36,37]),(16,[6,13,22,34,38]),(17,[6,13,22,34,38,207,208]),(18,[6,13,22,34,38,207,208,209]),(19,[6,13,22,34,38,39,207,208]),(20,[6,13,22,34,38,207,208]),(21,[6,13,22,34,38,207,208]),(22,[6,13,22,34,38,224,225]),(23,[6,13,22,34,38,224,225,226]),(24,[6,13,22,34,38,40,224,225]),(25,[6,13,22,34,38,224,225]),(26,[6,13,22,34,38,224,225]),(27,[6,13,34,38,242,243]),(28,[6,13,34,38,242,243,244]),(29,[6,13,34,38,41,242,243]),(30,[6,13,34,38,242,243]),(31,[6,13,34,38,242,243]),(32,[12])]
@[go_sem] def ydy:List Nat:=[0,0,3,7,15,15,63,127,255,511,511,2047,4095,8191,16383,16383,65535,131071,262143,524287,524287,2097151,4194303,8388607,16777215,16777215,67108863,134217727,268435455,536870911,536870911,2147483647,4294967295,8589934591,17179869183,17179869183,68719476735,137438953471,274877906943,549755813887,549755813887,2199023255551,4398046511103,8796093022207,17592186044415,17592186044415,70368744177663,140737488355327,281474976710655,562949953421311,562949953421311,2251799813685247,4503599627370495,9007199254740991,18014398509481983,18014398509481983,72057594037927935,144115188075855871,288230376151711743,576460752303423487,1152921504606846975,576460752303423487,4611686018427387903,9223372036854775807,18446744073709551615,36893488147419103231,73786976294838206463,73786976294838206463,295147905179352825855,73786976294838206463,73786976294838206463,2361183241434822606847,4722366482869645213695,9444732965739290427391,18889465931478580854783]
open Go Go.Proofs
theorem acT {T:Tab} (hT:za Go.Proofs.Tryz.prog T) (f:FuncId) (fn:Func) (n:Nat) (rs:List ResultVar) (lv:Nat→Option (List Nat)) (hf:Go.Proofs.Tryz.prog.funcs[f]? =some fn) (hb:(!(fn.name== "runtime.NumGoroutine")&&fn.body.isSome&&xH n (fn.body.getD .skip)&&fn.ntmps==n)=true) (hrs:fn.results.toList=rs) {ds:List D} {os:List (Nat×Ob)} {nx:Nat} {Q:D→List (Nat×Ob)→Nat→Prop} (hl:ds.length≤n) (h:awp Go.Proofs.Tryz.prog T n nx lv (fn.body.getD .skip) (fin Go.Proofs.Tryz.prog rs Q) ⟨prm 0 ds,os,nx⟩):jk Go.Proofs.Tryz.prog f ds os nx Q:=by
 simp only [Bool.and_eq_true,Bool.not_eq_true',beq_iff_eq]at hb
 obtain⟨⟨⟨h1,h2⟩,h3⟩,h4⟩:=hb
 refine baY hT.toS (fn:=fn) lv hf ?_ ?_ h3 h4 hl hrs h
 ·simpa using h1
 ·cases hc:fn.body with
  |none=>rw [hc]at h2;cases h2
  |some c=>rfl
def ac7 {T:Tab} (hT:za Go.Proofs.Tryz.prog T):= @acT T hT 7 Go.Proofs.Tryz.f7 263 [.tmp 12] lv7 (by kernel_rfl) (by kernel_rfl) rfl
abbrev lv8:Nat→Option (List Nat):=lvL [(0,[]),(1,[1,2,3]),(2,[1,2,25]),(3,[0]),(4,[1,4,5,6]),(5,[1,5,6]),(6,[1,5,6,7,8]),(7,[1,5,6,7,8,9,10]),(8,[1,5,6,7,8,10]),(9,[6,7,8,10,11,12]),(10,[0])]
@[go_sem] def xeX:List Nat:=[0,1,0,4,12,0,63,127,255,255,255,0,0,6655,15359,32767]
def ac8 {T:Tab} (hT:za Go.Proofs.Tryz.prog T):= @acT T hT 8 Go.Proofs.Tryz.f8 82 [.tmp 0] lv8 (by kernel_rfl) (by kernel_rfl) rfl
abbrev lv9:Nat→Option (List Nat):=lvL [(0,[1]),(1,[2])]
def ac9 {T:Tab} (hT:za Go.Proofs.Tryz.prog T):= @acT T hT 9 Go.Proofs.Tryz.f9 20 [.tmp 2] lv9 (by kernel_rfl) (by kernel_rfl) rfl
abbrev yeA:Nat→Option (List Nat):=lvL [(0,[0,2]),(1,[0,2,5,6]),(2,[2,5,6,17,18,19]),(3,[2,5,6,17,18,19,20]),(4,[2,5,6,7,8,17,18,19]),(5,[2,5,6,7,9,10,11,17,18,19]),(6,[2,5,6,7,9,10,11,17,18,19,35]),(7,[2,3,4]),(8,[2,5,6,17,18,19]),(9,[2,5,6,17,18,19]),(10,[2,3,4])]
@[go_sem] def jdw:List Nat:=[0,1,0,4,12,0,35,127]
@[go_sem] def kdw:List Nat:=[0,0,0,0,4,31,63]
def yfj {T:Tab} (hT:za Go.Proofs.Tryz.prog T):= @acT T hT 10 Go.Proofs.Tryz.f10 46 [.cell 2 48, .tmp 3, .tmp 4] yeA (by kernel_rfl) (by kernel_rfl) rfl
abbrev kfs:Nat→Option (List Nat):=lvL [(0,[2,3]),(1,[4])]
def xfj {T:Tab} (hT:za Go.Proofs.Tryz.prog T):= @acT T hT 12 Go.Proofs.Tryz.f12 38 [.tmp 4] kfs (by kernel_rfl) (by kernel_rfl) rfl
abbrev jdh:Nat→Option (List Nat):=lvL [(0,[2,3,4]),(1,[3,4,8,9]),(2,[3,4,8,9,23]),(3,[6,7]),(4,[3,4,8,9,10]),(5,[3,4,8,10,35]),(6,[6,7]),(7,[42,43]),(8,[42,43,44]),(9,[12,42,43]),(10,[13,14,42,43]),(11,[14,42,43,57]),(12,[6,7]),(13,[42,43]),(14,[6,7])]
def qfj {T:Tab} (hT:za Go.Proofs.Tryz.prog T):= @acT T hT 14 Go.Proofs.Tryz.f14 60 [.tmp 6, .tmp 7] jdh (by kernel_rfl) (by kernel_rfl) rfl
abbrev vfs:Nat→Option (List Nat):=lvL [(0,[1]),(1,[2])]
def jfj {T:Tab} (hT:za Go.Proofs.Tryz.prog T):= @acT T hT 15 Go.Proofs.Tryz.f15 28 [.tmp 2] vfs (by kernel_rfl) (by kernel_rfl) rfl
abbrev wfs:Nat→Option (List Nat):=lvL [(0,[3,4,5,6,7]),(1,[3,4,5,6,7,9,10]),(2,[3,4,5,6,7,9,17]),(3,[6,7,8]),(4,[3,4,5,6,7,9,32]),(5,[6,7,8]),(6,[3,4,5,6,7,10,11]),(7,[3,4,5,6,7,10,11,49]),(8,[6,7,8]),(9,[3,4,6,7]),(10,[6,7,8])]
@[go_sem] def vdw:List Nat:=[0,1,3,0,8,31,0,63,191,511,1023]
@[go_sem] def vcN:List Nat:=[0,0,1,7,15]
def kfj {T:Tab} (hT:za Go.Proofs.Tryz.prog T):= @acT T hT 16 Go.Proofs.Tryz.f16 64 [.cell 6 43, .cell 7 26, .tmp 8] wfs (by kernel_rfl) (by kernel_rfl) rfl
abbrev ufs:Nat→Option (List Nat):=lvL [(0,[2,3,4,6]),(1,[2,3,4,6,8,9]),(2,[2,3,4,6,8,21]),(3,[6,7]),(4,[6,7])]
def wfj {T:Tab} (hT:za Go.Proofs.Tryz.prog T):= @acT T hT 17 Go.Proofs.Tryz.f17 31 [.cell 6 64, .tmp 7] ufs (by kernel_rfl) (by kernel_rfl) rfl
abbrev gfs:Nat→Option (List Nat):=lvL [(0,[2,3,4]),(1,[2,3,4,13]),(2,[4,5]),(3,[2,3,4,15]),(4,[2,3,4,15,16]),(5,[2,3,4,15,18]),(6,[2,3,4,15,20]),(7,[2,3,4,15,22]),(8,[2,3,4,24]),(9,[4]),(10,[4]),(11,[4]),(12,[4]),(13,[4,5])]
def ufj {T:Tab} (hT:za Go.Proofs.Tryz.prog T):= @acT T hT 18 Go.Proofs.Tryz.f18 49 [.tmp 4, .tmp 5] gfs (by kernel_rfl) (by kernel_rfl) rfl
abbrev bfs:Nat→Option (List Nat):=lvL [(0,[1,2,3,6,7]),(1,[1,3,6,7,9,10]),(2,[1,3,6,7,9,10,22]),(3,[6,7,8]),(4,[6,7,8])]
@[go_sem] def wdw:List Nat:=[0,0,0,4,12,31,63,127,127,127,255,1535,4095]
def bfj {T:Tab} (hT:za Go.Proofs.Tryz.prog T):= @acT T hT 19 Go.Proofs.Tryz.f19 30 [.cell 6 43, .cell 7 26, .tmp 8] bfs (by kernel_rfl) (by kernel_rfl) rfl
abbrev zft:Nat→Option (List Nat):=lvL [(0,[1,2,4]),(1,[1,2,4,6]),(2,[1,2,4,6,12]),(3,[4,5]),(4,[2,4,7,8]),(5,[2,4,7,8,23]),(6,[4,5]),(7,[2,4]),(8,[4,5])]
def zfk {T:Tab} (hT:za Go.Proofs.Tryz.prog T):= @acT T hT 21 Go.Proofs.Tryz.f21 30 [.cell 4 48, .tmp 5] zft (by kernel_rfl) (by kernel_rfl) rfl
abbrev yft:Nat→Option (List Nat):=lvL [(0,[1,2,3,6,7]),(1,[6,7,8])]
def yfk {T:Tab} (hT:za Go.Proofs.Tryz.prog T):= @acT T hT 22 Go.Proofs.Tryz.f22 16 [.cell 6 48, .cell 7 26, .tmp 8] yft (by kernel_rfl) (by kernel_rfl) rfl
abbrev xft:Nat→Option (List Nat):=lvL [(0,[1,2]),(1,[2])]
@[go_sem] def udw:List Nat:=[0,1,3,0,8,31,0,64,255,0,512,2047,0,4096,16383,32767,65535]
def xfk {T:Tab} (hT:za Go.Proofs.Tryz.prog T):= @acT T hT 23 Go.Proofs.Tryz.f23 19 [.cell 2 48] xft (by kernel_rfl) (by kernel_rfl) rfl
abbrev qft:Nat→Option (List Nat):=lvL [(0,[2,3,4,6]),(1,[2,3,4,6,17]),(2,[6,7]),(3,[2,3,4,6,8]),(4,[6,7])]
def qfk {T:Tab} (hT:za Go.Proofs.Tryz.prog T):= @acT T hT 24 Go.Proofs.Tryz.f24 32 [.cell 6 64, .tmp 7] qft (by kernel_rfl) (by kernel_rfl) rfl
abbrev jft:Nat→Option (List Nat):=lvL [(0,[2,3,4]),(1,[3,4,8,9]),(2,[3,4,8,9,25]),(3,[6,7]),(4,[3,4,8,9,10]),(5,[3,4,8,10,37]),(6,[6,7]),(7,[3,4,8,11]),(8,[3,4,8,11,13]),(9,[11,13,15]),(10,[6,7])]
def jfk {T:Tab} (hT:za Go.Proofs.Tryz.prog T):= @acT T hT 25 Go.Proofs.Tryz.f25 76 [.tmp 6, .tmp 7] jft (by kernel_rfl) (by kernel_rfl) rfl
abbrev kft:Nat→Option (List Nat):=lvL [(0,[1,2,3,6,7]),(1,[6,7,8])]
def kfk {T:Tab} (hT:za Go.Proofs.Tryz.prog T):= @acT T hT 26 Go.Proofs.Tryz.f26 16 [.cell 6 48, .cell 7 26, .tmp 8] kft (by kernel_rfl) (by kernel_rfl) rfl
abbrev vft:Nat→Option (List Nat):=lvL [(0,[1,2,3,6,7]),(1,[1,2,3,6,7,13]),(2,[6,7,8]),(3,[1,2,3,6,7,9,10]),(4,[1,2,3,6,7,9,10,25]),(5,[6,7,8]),(6,[6,7,8])]
def vfk {T:Tab} (hT:za Go.Proofs.Tryz.prog T):= @acT T hT 27 Go.Proofs.Tryz.f27 37 [.cell 6 48, .cell 7 26, .tmp 8] vft (by kernel_rfl) (by kernel_rfl) rfl
abbrev wft:Nat→Option (List Nat):=lvL [(0,[1,2,3,6,7]),(1,[1,2,3,6,7,13]),(2,[6,7,8]),(3,[1,2,3,6,7,9,10]),(4,[1,2,3,6,7,9,10,25]),(5,[6,7,8]),(6,[6,7,8])]
def wfk {T:Tab} (hT:za Go.Proofs.Tryz.prog T):= @acT T hT 28 Go.Proofs.Tryz.f28 37 [.cell 6 48, .cell 7 26, .tmp 8] wft (by kernel_rfl) (by kernel_rfl) rfl
abbrev uft:Nat→Option (List Nat):=lvL [(0,[1,2,4]),(1,[1,2,4,10]),(2,[4,5]),(3,[2,4,6,7]),(4,[2,4,6,7,20]),(5,[4,5]),(6,[2,4]),(7,[4,5])]
def ufk {T:Tab} (hT:za Go.Proofs.Tryz.prog T):= @acT T hT 29 Go.Proofs.Tryz.f29 27 [.cell 4 48, .tmp 5] uft (by kernel_rfl) (by kernel_rfl) rfl
abbrev gft:Nat→Option (List Nat):=lvL [(0,[2,3]),(1,[4])]
def gfk {T:Tab} (hT:za Go.Proofs.Tryz.prog T):= @acT T hT 30 Go.Proofs.Tryz.f30 24 [.tmp 4] gft (by kernel_rfl) (by kernel_rfl) rfl
abbrev ucC:Nat→Option (List Nat):=lvL [(0,[1]),(1,[20,21]),(2,[20,21,22]),(3,[4,20,21]),(4,[4,20,21,25]),(5,[2]),(6,[20,21]),(7,[2])]
@[go_sem] def gdw:List Nat:=[0,1,3,0,8,31,0,64,255,0,512,2047,0,4096,16383,32767,0]
def bfk {T:Tab} (hT:za Go.Proofs.Tryz.prog T):= @acT T hT 31 Go.Proofs.Tryz.f31 28 [.tmp 2] ucC (by kernel_rfl) (by kernel_rfl) rfl
abbrev bft:Nat→Option (List Nat):=lvL [(0,[1]),(1,[30]),(2,[2]),(3,[2])]
def zfl {T:Tab} (hT:za Go.Proofs.Tryz.prog T):= @acT T hT 32 Go.Proofs.Tryz.f32 31 [.tmp 2] bft (by kernel_rfl) (by kernel_rfl) rfl
abbrev zfu:Nat→Option (List Nat):=lvL [(0,[2,3]),(1,[4])]
def yfl {T:Tab} (hT:za Go.Proofs.Tryz.prog T):= @acT T hT 33 Go.Proofs.Tryz.f33 38 [.tmp 4] zfu (by kernel_rfl) (by kernel_rfl) rfl
abbrev yfu:Nat→Option (List Nat):=lvL [(0,[2,3,4]),(1,[2,3,4,6]),(2,[3,4,6]),(3,[3,4,6]),(4,[4,6]),(5,[4,5])]
def xfl {T:Tab} (hT:za Go.Proofs.Tryz.prog T):= @acT T hT 34 Go.Proofs.Tryz.f34 31 [.cell 4 40, .tmp 5] yfu (by kernel_rfl) (by kernel_rfl) rfl
abbrev xfu:Nat→Option (List Nat):=lvL [(0,[0]),(1,[0])]
def qfl {T:Tab} (hT:za Go.Proofs.Tryz.prog T):= @acT T hT 35 Go.Proofs.Tryz.f35 3 [.cell 0 40] xfu (by kernel_rfl) (by kernel_rfl) rfl
abbrev ge8:Nat→Option (List Nat):=lvL [(0,[2,3]),(1,[2,3,58]),(2,[4]),(3,[2,3,61,62]),(4,[2,3,61,62,63]),(5,[2,3,5,61,62]),(6,[2,3,61,62,93]),(7,[4]),(8,[2,3,61,62]),(9,[4])]
@[go_sem] def bdw:List Nat:=[0,1,0,7,15,31,0,64,0,448,960,1984,4095,8191,16383,32767,16383,131071,262143,524287,16383,1064959,16383,7356415,15745023,32522239,67108863,134217727,268435455]
def jfl {T:Tab} (hT:za Go.Proofs.Tryz.prog T):= @acT T hT 37 Go.Proofs.Tryz.f37 95 [.tmp 4] ge8 (by kernel_rfl) (by kernel_rfl) rfl
abbrev be8:Nat→Option (List Nat):=lvL [(0,[2,3]),(1,[2,3,12]),(2,[4]),(3,[2,3,15,16]),(4,[2,3,15,16,17]),(5,[2,3,5,15,16]),(6,[2,3,15,16,30]),(7,[4]),(8,[2,3,15,16]),(9,[4])]
@[go_sem] def zdx:List Nat:=[0,1,0,7,15,0,32,0,224,480,1023,2047]
def kfl {T:Tab} (hT:za Go.Proofs.Tryz.prog T):= @acT T hT 38 Go.Proofs.Tryz.f38 32 [.tmp 4] be8 (by kernel_rfl) (by kernel_rfl) rfl
abbrev ze9:Nat→Option (List Nat):=lvL [(0,[0,1]),(1,[0,1,10]),(2,[4]),(3,[0,1,12,13]),(4,[0,1,12,13,14]),(5,[0,1,5,12,13]),(6,[0,1,12,13,24]),(7,[4]),(8,[0,1,12,13]),(9,[4])]
@[go_sem] def ydx:List Nat:=[0,0,3,7,0,0,48,112,255]
def vfl {T:Tab} (hT:za Go.Proofs.Tryz.prog T):= @acT T hT 39 Go.Proofs.Tryz.f39 26 [.tmp 4] ze9 (by kernel_rfl) (by kernel_rfl) rfl
abbrev ye9:Nat→Option (List Nat):=lvL [(0,[0,1]),(1,[0,1,10]),(2,[4]),(3,[0,1,12,13]),(4,[0,1,12,13,14]),(5,[0,1,5,12,13]),(6,[0,1,12,13,25]),(7,[4]),(8,[0,1,12,13]),(9,[4])]
@[go_sem] def xdx:List Nat:=[0,0,3,7,0,0,48,112,255,511]
def wfl {T:Tab} (hT:za Go.Proofs.Tryz.prog T):= @acT T hT 40 Go.Proofs.Tryz.f40 27 [.tmp 4] ye9 (by kernel_rfl) (by kernel_rfl) rfl
abbrev xe9:Nat→Option (List Nat):=lvL [(0,[0,1]),(1,[0,1,10]),(2,[4]),(3,[0,1,12,13]),(4,[0,1,12,13,14]),(5,[0,1,5,12,13]),(6,[0,1,12,13,24]),(7,[4]),(8,[0,1,12,13]),(9,[4])]
@[go_sem] def qdx:List Nat:=[0,0,3,7,0,0,48,112,255]
def ufl {T:Tab} (hT:za Go.Proofs.Tryz.prog T):= @acT T hT 41 Go.Proofs.Tryz.f41 26 [.tmp 4] xe9 (by kernel_rfl) (by kernel_rfl) rfl
abbrev qfu:Nat→Option (List Nat):=lvL [(0,[0,1]),(1,[0,6,7]),(2,[0,6,7,15]),(3,[4,5]),(4,[4,5])]
def gfl {T:Tab} (hT:za Go.Proofs.Tryz.prog T):= @acT T hT 42 Go.Proofs.Tryz.f42 22 [.tmp 4, .tmp 5] qfu (by kernel_rfl) (by kernel_rfl) rfl
abbrev jfu:Nat→Option (List Nat):=lvL [(0,[0,1,2]),(1,[3,4])]
def bfl {T:Tab} (hT:za Go.Proofs.Tryz.prog T):= @acT T hT 43 Go.Proofs.Tryz.f43 13 [.tmp 3, .tmp 4] jfu (by kernel_rfl) (by kernel_rfl) rfl
abbrev kfu:Nat→Option (List Nat):=lvL [(0,[1,3,5]),(1,[1,3,5,17]),(2,[6,7]),(3,[5,8,9]),(4,[6,7])]
@[go_sem] def jdx:List Nat:=[0,0,0,4,12,28,0,124,255,511,1023,1023,2047,8191]
def zfm {T:Tab} (hT:za Go.Proofs.Tryz.prog T):= @acT T hT 44 Go.Proofs.Tryz.f44 38 [.tmp 6, .tmp 7] kfu (by kernel_rfl) (by kernel_rfl) rfl
abbrev vfu:Nat→Option (List Nat):=lvL [(0,[0,1]),(1,[2,3])]
def yfm {T:Tab} (hT:za Go.Proofs.Tryz.prog T):= @acT T hT 45 Go.Proofs.Tryz.f45 11 [.tmp 2, .tmp 3] vfu (by kernel_rfl) (by kernel_rfl) rfl
abbrev qe9:Nat→Option (List Nat):=lvL [(0,[0,3]),(1,[0,3,18]),(2,[4,5]),(3,[0,3,6]),(4,[3,6,19,20,21]),(5,[3,6,19,20,21,22]),(6,[3,6,8,19,20,21]),(7,[3,6,9,10,19,20,21]),(8,[3,6,9,10,19,20,21,32]),(9,[4,5]),(10,[3,6,19,20,21]),(11,[3,6,19,20,21]),(12,[4,5])]
def xfm {T:Tab} (hT:za Go.Proofs.Tryz.prog T):= @acT T hT 46 Go.Proofs.Tryz.f46 40 [.tmp 4, .tmp 5] qe9 (by kernel_rfl) (by kernel_rfl) rfl
abbrev wfu:Nat→Option (List Nat):=lvL [(0,[0,1,2]),(1,[3,4])]
def qfm {T:Tab} (hT:za Go.Proofs.Tryz.prog T):= @acT T hT 47 Go.Proofs.Tryz.f47 18 [.tmp 3, .tmp 4] wfu (by kernel_rfl) (by kernel_rfl) rfl
abbrev ufu:Nat→Option (List Nat):=lvL [(0,[0,1,2,3]),(1,[11]),(2,[11,21]),(3,[8,9]),(4,[8,9])]
def jfm {T:Tab} (hT:za Go.Proofs.Tryz.prog T):= @acT T hT 48 Go.Proofs.Tryz.f48 25 [.tmp 8, .tmp 9] ufu (by kernel_rfl) (by kernel_rfl) rfl
abbrev gfu:Nat→Option (List Nat):=lvL [(0,[1]),(1,[2])]
def kfm {T:Tab} (hT:za Go.Proofs.Tryz.prog T):= @acT T hT 49 Go.Proofs.Tryz.f49 43 [.tmp 2] gfu (by kernel_rfl) (by kernel_rfl) rfl
abbrev je9:Nat→Option (List Nat):=lvL [(0,[1]),(1,[1,6,7,8]),(2,[1,6,7,8,9]),(3,[1,4,6,7,8]),(4,[1,6,7,8,15]),(5,[2]),(6,[1,6,7,8]),(7,[2])]
def vfm {T:Tab} (hT:za Go.Proofs.Tryz.prog T):= @acT T hT 50 Go.Proofs.Tryz.f50 21 [.tmp 2] je9 (by kernel_rfl) (by kernel_rfl) rfl
abbrev ke9:Nat→Option (List Nat):=lvL [(0,[0]),(1,[0,5,6,7]),(2,[0,5,6,7,8]),(3,[0,4,5,6,7]),(4,[0,5,6,7,44]),(5,[2]),(6,[0,5,6,7]),(7,[2])]
def wfm {T:Tab} (hT:za Go.Proofs.Tryz.prog T):= @acT T hT 51 Go.Proofs.Tryz.f51 59 [.tmp 2] ke9 (by kernel_rfl) (by kernel_rfl) rfl
abbrev bfu:Nat→Option (List Nat):=lvL [(0,[1]),(1,[1,4]),(2,[1,4,9]),(3,[2,3]),(4,[1,5]),(5,[5,21]),(6,[5]),(7,[2,3])]
def ufm {T:Tab} (hT:za Go.Proofs.Tryz.prog T):= @acT T hT 52 Go.Proofs.Tryz.f52 26 [.tmp 2, .tmp 3] bfu (by kernel_rfl) (by kernel_rfl) rfl
abbrev zfv:Nat→Option (List Nat):=lvL [(0,[1]),(1,[1,3]),(2,[23]),(3,[2]),(4,[2])]
def gfm {T:Tab} (hT:za Go.Proofs.Tryz.prog T):= @acT T hT 53 Go.Proofs.Tryz.f53 24 [.tmp 2] zfv (by kernel_rfl) (by kernel_rfl) rfl
abbrev yfv:Nat→Option (List Nat):=lvL [(0,[1]),(1,[4]),(2,[2])]
def bfm {T:Tab} (hT:za Go.Proofs.Tryz.prog T):= @acT T hT 54 Go.Proofs.Tryz.f54 11 [.tmp 2] yfv (by kernel_rfl) (by kernel_rfl) rfl
abbrev xfv:Nat→Option (List Nat):=lvL [(0,[1,2,3,6]),(1,[1,2,3,6,10]),(2,[6,7,8]),(3,[6,7,8])]
def zfn {T:Tab} (hT:za Go.Proofs.Tryz.prog T):= @acT T hT 55 Go.Proofs.Tryz.f55 20 [.cell 6 43, .tmp 7, .tmp 8] xfv (by kernel_rfl) (by kernel_rfl) rfl
abbrev qfv:Nat→Option (List Nat):=lvL [(0,[0]),(1,[2])]
def yfn {T:Tab} (hT:za Go.Proofs.Tryz.prog T):= @acT T hT 56 Go.Proofs.Tryz.f56 9 [.tmp 2] qfv (by kernel_rfl) (by kernel_rfl) rfl
abbrev jfv:Nat→Option (List Nat):=lvL [(0,[1]),(1,[1,4]),(2,[1,4,7]),(3,[2,3]),(4,[1,11]),(5,[2,3]),(6,[1,17]),(7,[2,3]),(8,[2,3])]
def xfn {T:Tab} (hT:za Go.Proofs.Tryz.prog T):= @acT T hT 57 Go.Proofs.Tryz.f57 26 [.tmp 2, .tmp 3] jfv (by kernel_rfl) (by kernel_rfl) rfl
abbrev kfv:Nat→Option (List Nat):=lvL [(0,[1]),(1,[1,4]),(2,[2]),(3,[1,4,5]),(4,[2]),(5,[1,4,11]),(6,[1,17]),(7,[2]),(8,[1,4,18]),(9,[1,23]),(10,[2]),(11,[1,4,24]),(12,[1,24]),(13,[29]),(14,[2]),(15,[2])]
def qfn {T:Tab} (hT:za Go.Proofs.Tryz.prog T):= @acT T hT 58 Go.Proofs.Tryz.f58 30 [.tmp 2] kfv (by kernel_rfl) (by kernel_rfl) rfl
abbrev vfv:Nat→Option (List Nat):=lvL [(0,[1]),(1,[2])]
def jfn {T:Tab} (hT:za Go.Proofs.Tryz.prog T):= @acT T hT 59 Go.Proofs.Tryz.f59 18 [.tmp 2] vfv (by kernel_rfl) (by kernel_rfl) rfl
abbrev wfv:Nat→Option (List Nat):=lvL [(0,[1,2,3,6]),(1,[6,7,8])]
def kfn {T:Tab} (hT:za Go.Proofs.Tryz.prog T):= @acT T hT 60 Go.Proofs.Tryz.f60 17 [.cell 6 43, .tmp 7, .tmp 8] wfv (by kernel_rfl) (by kernel_rfl) rfl
abbrev jeI:Nat→Option (List Nat):=lvL [(0,[0]),(1,[0,3]),(2,[3,8,9,10]),(3,[3,8,9,10,11]),(4,[3,5,8,9,10]),(5,[3,5,6,8,9,10]),(6,[3,5,6,8,9,10]),(7,[3,5,6,8,9,10,21,22]),(8,[3,5,6,8,9,10,21,22,23]),(9,[3,5,6,7,8,9,10,21,22]),(10,[3,5,6,8,9,10,21,22]),(11,[3,5,6,8,9,10,21,22]),(12,[3,8,9,10]),(13,[2])]
def vfn {T:Tab} (hT:za Go.Proofs.Tryz.prog T):= @acT T hT 61 Go.Proofs.Tryz.f61 40 [.tmp 2] jeI (by kernel_rfl) (by kernel_rfl) rfl
abbrev ufv:Nat→Option (List Nat):=lvL [(0,[0,1]),(1,[4,5])]
def wfn {T:Tab} (hT:za Go.Proofs.Tryz.prog T):= @acT T hT 63 Go.Proofs.Tryz.f63 11 [.tmp 4, .tmp 5] ufv (by kernel_rfl) (by kernel_rfl) rfl
abbrev vdO:Nat→Option (List Nat):=lvL [(0,[1,2]),(1,[1,2,3]),(2,[1,2,3]),(3,[1,2,3,35,36,37]),(4,[1,2,3,35,36,37,38]),(5,[1,2,3,4,5,35,36,37]),(6,[1,2,3,35,36,37]),(7,[1,2,3,35,36,37]),(8,[1,2]),(9,[1,2,73,74,75]),(10,[1,2,73,74,75,76]),(11,[1,2,6,7,73,74,75]),(12,[1,2,73,74,75]),(13,[1,2,73,74,75]),(14,[1,2,91,92,93]),(15,[1,2,91,92,93,94]),(16,[1,2,8,9,91,92,93]),(17,[1,2,91,92,93]),(18,[1,2,91,92,93]),(19,[2])]
@[go_sem] def vdx:List Nat:=[0,1,3,0,8,31,0,64,255,0,512,2047,0,4096,12288,32767,30431,131071,262143,524287,1048575,2097151,4194303,8388607,16777215,33554431,67108863]
@[go_sem] def wdx:List Nat:=[0,1,0,0,8,24,63,127,255]
@[go_sem] def udx:List Nat:=[0,0,2,6,14,0,32,126,0,256,1022,0,2048,8190,7023,32767,65535,131071,262143,524287,1048575,2097151,4194303,8388607,16777215]
@[go_sem] def ycP:List Nat:=[0,1,3,0,0,16,48,127,255,511]
@[go_sem] def xcP:List Nat:=[0,1,0,0,8,0,0,64,192,0,512,1984,4039,8135,16327,32767,65535,131071]
def ufn {T:Tab} (hT:za Go.Proofs.Tryz.prog T):= @acT T hT 64 Go.Proofs.Tryz.f64 116 [.cell 2 48] vdO (by kernel_rfl) (by kernel_rfl) rfl
abbrev gfv:Nat→Option (List Nat):=lvL [(0,[1,2,3,4,8,9]),(1,[1,2,3,4,8,9,11]),(2,[1,2,3,4,8,9,11,19]),(3,[8,9,10]),(4,[1,2,4,8,9,12,13]),(5,[1,2,4,8,9,12,13,33]),(6,[8,9,10]),(7,[4,8,9,12,13,14,15]),(8,[4,8,9,12,13,14,15,47]),(9,[8,9,10]),(10,[4,8,9,15]),(11,[8,9,10])]
@[go_sem] def vbW:List Nat:=[0,0,1,5,15,31]
@[go_sem] def wbW:List Nat:=[0,1,0,3,15,31]
def je4 {T:Tab} (hT:za Go.Proofs.Tryz.prog T):= @acT T hT 65 Go.Proofs.Tryz.f65 58 [.cell 8 48, .cell 9 26, .tmp 10] gfv (by kernel_rfl) (by kernel_rfl) rfl
abbrev bfv:Nat→Option (List Nat):=lvL [(0,[1,3,5]),(1,[6,7])]
def gfn {T:Tab} (hT:za Go.Proofs.Tryz.prog T):= @acT T hT 66 Go.Proofs.Tryz.f66 14 [.tmp 6, .tmp 7] bfv (by kernel_rfl) (by kernel_rfl) rfl
abbrev zfw:Nat→Option (List Nat):=lvL [(0,[1,2]),(1,[2])]
@[go_sem] def gdx:List Nat:=[0,1,3,0,8,31,0,64,255,0,512,2047,0,4096,12288,0,32768,98304,233471,524287,0,1048576,0,4194304,16777215,33554431]
def bfn {T:Tab} (hT:za Go.Proofs.Tryz.prog T):= @acT T hT 67 Go.Proofs.Tryz.f67 28 [.cell 2 40] zfw (by kernel_rfl) (by kernel_rfl) rfl
abbrev ve9:Nat→Option (List Nat):=lvL [(0,[1,2]),(1,[1,2,3]),(2,[2,3,8,9,10]),(3,[2,3,8,9,10,11]),(4,[2,3,5,8,9,10]),(5,[2,3,8,9,10]),(6,[2,3,8,9,10]),(7,[2])]
@[go_sem] def bdx:List Nat:=[0,1,0,4,0,16,0,64,192,508,1020,2047,4095,8191]
def zfo {T:Tab} (hT:za Go.Proofs.Tryz.prog T):= @acT T hT 68 Go.Proofs.Tryz.f68 29 [.cell 2 43] ve9 (by kernel_rfl) (by kernel_rfl) rfl
abbrev we9:Nat→Option (List Nat):=lvL [(0,[0]),(1,[0,3]),(2,[3,6,7,8]),(3,[3,6,7,8,9]),(4,[3,5,6,7,8]),(5,[3,5,6,7,8]),(6,[3,5,6,7,8]),(7,[3,6,7,8]),(8,[3,6,7,8]),(9,[2])]
def yfo {T:Tab} (hT:za Go.Proofs.Tryz.prog T):= @acT T hT 69 Go.Proofs.Tryz.f69 26 [.tmp 2] we9 (by kernel_rfl) (by kernel_rfl) rfl
abbrev yfw:Nat→Option (List Nat):=lvL [(0,[1]),(1,[1,25]),(2,[2]),(3,[1,43]),(4,[2]),(5,[1,4]),(6,[1,56]),(7,[2]),(8,[71]),(9,[2]),(10,[2])]
@[go_sem] def zdy:List Nat:=[0,1,3,7,15,31,63,127,255,511,1023,2047,4095,8191,16383,32767,32767,98303,262143,524287,1048575]
def xfo {T:Tab} (hT:za Go.Proofs.Tryz.prog T):= @acT T hT 70 Go.Proofs.Tryz.f70 72 [.tmp 2] yfw (by kernel_rfl) (by kernel_rfl) rfl
abbrev xfw:Nat→Option (List Nat):=lvL [(0,[1]),(1,[1,6]),(2,[2,3]),(3,[1,9]),(4,[2,3]),(5,[1,14]),(6,[2,3]),(7,[2,3])]
def qfo {T:Tab} (hT:za Go.Proofs.Tryz.prog T):= @acT T hT 71 Go.Proofs.Tryz.f71 20 [.tmp 2, .tmp 3] xfw (by kernel_rfl) (by kernel_rfl) rfl
abbrev qfw:Nat→Option (List Nat):=lvL [(0,[0,1]),(1,[0,1,10]),(2,[4,5]),(3,[6,7]),(4,[6,18]),(5,[4,5]),(6,[6,20]),(7,[4,5]),(8,[4,5])]
def jfo {T:Tab} (hT:za Go.Proofs.Tryz.prog T):= @acT T hT 72 Go.Proofs.Tryz.f72 23 [.tmp 4, .tmp 5] qfw (by kernel_rfl) (by kernel_rfl) rfl
abbrev ue9:Nat→Option (List Nat):=lvL [(0,[1,3,5]),(1,[1,3,5,22]),(2,[6,7]),(3,[1,3,5,8]),(4,[1,3,5,8,24,25,26]),(5,[1,3,5,8,24,25,26,27]),(6,[1,3,5,8,10,24,25,26]),(7,[1,3,5,8,11,24,25,26]),(8,[1,3,5,8,24,25,26]),(9,[1,3,5,8,24,25,26]),(10,[5,13,14]),(11,[6,7])]
@[go_sem] def qcP:List Nat:=[0,0,0,4,12,28,0,127,255,511,511,1023,4095]
def kfo {T:Tab} (hT:za Go.Proofs.Tryz.prog T):= @acT T hT 73 Go.Proofs.Tryz.f73 59 [.tmp 6, .tmp 7] ue9 (by kernel_rfl) (by kernel_rfl) rfl
abbrev ge9:Nat→Option (List Nat):=lvL [(0,[0,3]),(1,[0,3,18]),(2,[4,5]),(3,[0,3,6]),(4,[3,6,19,20,21]),(5,[3,6,19,20,21,22]),(6,[3,6,8,19,20,21]),(7,[3,6,9,10,19,20,21]),(8,[3,6,9,10,19,20,21,32]),(9,[4,5]),(10,[3,6,19,20,21]),(11,[3,6,19,20,21]),(12,[4,5])]
def vfo {T:Tab} (hT:za Go.Proofs.Tryz.prog T):= @acT T hT 74 Go.Proofs.Tryz.f74 40 [.tmp 4, .tmp 5] ge9 (by kernel_rfl) (by kernel_rfl) rfl
abbrev be9:Nat→Option (List Nat):=lvL [(0,[0,1,2,3]),(1,[0,1,2,3,27]),(2,[8,9]),(3,[0,1,3,28,29,30]),(4,[0,1,3,28,29,30,31]),(5,[0,1,3,11,28,29,30]),(6,[0,1,3,11,28,29,30,36]),(7,[0,1,3,11,12,28,29,30]),(8,[0,1,3,28,29,30,56]),(9,[8,9]),(10,[0,1,3,28,29,30]),(11,[8,9])]
def wfo {T:Tab} (hT:za Go.Proofs.Tryz.prog T):= @acT T hT 75 Go.Proofs.Tryz.f75 58 [.tmp 8, .tmp 9] be9 (by kernel_rfl) (by kernel_rfl) rfl
abbrev jfw:Nat→Option (List Nat):=lvL [(0,[0,1,2]),(1,[0,1,2,8,9,10]),(2,[0,1,2,8,9,10,18]),(3,[6,7]),(4,[0,1,2,8,22]),(5,[6,7]),(6,[0,1,2,8,29]),(7,[6,7]),(8,[6,7])]
def ufo {T:Tab} (hT:za Go.Proofs.Tryz.prog T):= @acT T hT 76 Go.Proofs.Tryz.f76 41 [.tmp 6, .tmp 7] jfw (by kernel_rfl) (by kernel_rfl) rfl
abbrev kfw:Nat→Option (List Nat):=lvL [(0,[0,1,2]),(1,[0,1,2,12]),(2,[6,7]),(3,[0,1,2,9]),(4,[0,1,2,24]),(5,[6,7]),(6,[0,1,2,27]),(7,[6,7]),(8,[6,7])]
def gfo {T:Tab} (hT:za Go.Proofs.Tryz.prog T):= @acT T hT 77 Go.Proofs.Tryz.f77 33 [.tmp 6, .tmp 7] kfw (by kernel_rfl) (by kernel_rfl) rfl
abbrev vfw:Nat→Option (List Nat):=lvL [(0,[1,2,3,4,8,9]),(1,[1,4,8,9,11,12,13]),(2,[1,4,8,9,11,12,13,24]),(3,[8,9,10]),(4,[1,4,8,9,12]),(5,[4,8,9,12]),(6,[8,9,10])]
@[go_sem] def vco:List Nat:=[0,1,0,3,15,31]
def ke4 {T:Tab} (hT:za Go.Proofs.Tryz.prog T):= @acT T hT 78 Go.Proofs.Tryz.f78 35 [.cell 8 48, .cell 9 26, .tmp 10] vfw (by kernel_rfl) (by kernel_rfl) rfl
abbrev wfw:Nat→Option (List Nat):=lvL [(0,[0,1,2]),(1,[0,1,2,9]),(2,[0,1,2,9,17]),(3,[6,7]),(4,[0,1,2,21]),(5,[6,7]),(6,[6,7])]
def bfo {T:Tab} (hT:za Go.Proofs.Tryz.prog T):= @acT T hT 79 Go.Proofs.Tryz.f79 27 [.tmp 6, .tmp 7] wfw (by kernel_rfl) (by kernel_rfl) rfl
abbrev ufw:Nat→Option (List Nat):=lvL [(0,[0,1]),(1,[0,1,6,7]),(2,[0,1,6,7,15]),(3,[4,5]),(4,[4,5])]
def zfp {T:Tab} (hT:za Go.Proofs.Tryz.prog T):= @acT T hT 80 Go.Proofs.Tryz.f80 22 [.tmp 4, .tmp 5] ufw (by kernel_rfl) (by kernel_rfl) rfl
abbrev zfa:Nat→Option (List Nat):=lvL [(0,[0,1]),(1,[0,1,10]),(2,[4]),(3,[0,1,12,13]),(4,[0,1,12,13,14]),(5,[0,1,5,12,13]),(6,[0,1,12,13,24]),(7,[4]),(8,[0,1,12,13]),(9,[4])]
@[go_sem] def xdy:List Nat:=[0,0,3,7,0,0,48,112,255]
def yfp {T:Tab} (hT:za Go.Proofs.Tryz.prog T):= @acT T hT 81 Go.Proofs.Tryz.f81 26 [.tmp 4] zfa (by kernel_rfl) (by kernel_rfl) rfl
abbrev gfw:Nat→Option (List Nat):=lvL [(0,[1]),(1,[1,37]),(2,[2]),(3,[1,3]),(4,[1,54]),(5,[2]),(6,[4,5]),(7,[68]),(8,[2]),(9,[2])]
@[go_sem] def qdy:List Nat:=[0,1,3,7,15,7,39,127,255,511,7,1031,4095,8191]
def xfp {T:Tab} (hT:za Go.Proofs.Tryz.prog T):= @acT T hT 82 Go.Proofs.Tryz.f82 69 [.tmp 2] gfw (by kernel_rfl) (by kernel_rfl) rfl
abbrev yfa:Nat→Option (List Nat):=lvL [(0,[0]),(1,[0,7]),(2,[2]),(3,[0,8,9,10]),(4,[0,8,9,10,11]),(5,[0,3,4,8,9,10]),(6,[0,8,9,10,35]),(7,[2]),(8,[0,8,9,10]),(9,[2])]
@[go_sem] def jdy:List Nat:=[0,1,3,7,7,23,63,127,7,263,1023,2047,4095,8191,16383,16383,65535,16383,147455,524287,1048575]
def qfp {T:Tab} (hT:za Go.Proofs.Tryz.prog T):= @acT T hT 83 Go.Proofs.Tryz.f83 37 [.tmp 2] yfa (by kernel_rfl) (by kernel_rfl) rfl
abbrev xfa:Nat→Option (List Nat):=lvL [(0,[0]),(1,[0,7]),(2,[2]),(3,[0,8,9,10]),(4,[0,8,9,10,11]),(5,[0,3,4,8,9,10]),(6,[0,8,9,10,32]),(7,[2]),(8,[0,8,9,10]),(9,[2])]
@[go_sem] def kdy:List Nat:=[0,1,3,7,15,31,63,127,127,383,1023,2047,127,4223,16383,32767,65535,131071]
def jfp {T:Tab} (hT:za Go.Proofs.Tryz.prog T):= @acT T hT 84 Go.Proofs.Tryz.f84 34 [.tmp 2] xfa (by kernel_rfl) (by kernel_rfl) rfl
abbrev qfa:Nat→Option (List Nat):=lvL [(0,[0]),(1,[0,7]),(2,[2]),(3,[0,8,9,10]),(4,[0,8,9,10,11]),(5,[0,3,4,8,9,10]),(6,[0,8,9,10,38]),(7,[2]),(8,[0,8,9,10]),(9,[2])]
@[go_sem] def vdy:List Nat:=[0,1,3,7,15,31,63,127,255,511,1023,2047,4095,8191,16383,16383,49151,131071,262143,16383,1048575,2097151,4194303,8388607]
def kfp {T:Tab} (hT:za Go.Proofs.Tryz.prog T):= @acT T hT 85 Go.Proofs.Tryz.f85 40 [.tmp 2] qfa (by kernel_rfl) (by kernel_rfl) rfl
abbrev jfa:Nat→Option (List Nat):=lvL [(0,[1]),(1,[1,44]),(2,[2]),(3,[1,46,47,48]),(4,[1,46,47,48,49]),(5,[1,4,46,47,48]),(6,[1,46,47,48,56]),(7,[2]),(8,[1,46,47,48]),(9,[5]),(10,[67]),(11,[2]),(12,[2])]
def vfp {T:Tab} (hT:za Go.Proofs.Tryz.prog T):= @acT T hT 86 Go.Proofs.Tryz.f86 68 [.tmp 2] jfa (by kernel_rfl) (by kernel_rfl) rfl
abbrev kfa:Nat→Option (List Nat):=lvL [(0,[1]),(1,[1,8]),(2,[2]),(3,[1,10,11,12]),(4,[1,10,11,12,13]),(5,[1,3,4,10,11,12]),(6,[1,10,11,12,49]),(7,[2]),(8,[1,10,11,12]),(9,[2])]
def wfp {T:Tab} (hT:za Go.Proofs.Tryz.prog T):= @acT T hT 87 Go.Proofs.Tryz.f87 51 [.tmp 2] kfa (by kernel_rfl) (by kernel_rfl) rfl
abbrev vfa:Nat→Option (List Nat):=lvL [(0,[0]),(1,[0,7]),(2,[2]),(3,[0,8,9,10]),(4,[0,8,9,10,11]),(5,[0,3,4,8,9,10]),(6,[0,8,9,10,35]),(7,[2]),(8,[0,8,9,10]),(9,[2])]
@[go_sem] def wdy:List Nat:=[0,1,3,7,7,23,63,127,255,7,519,2047,4095,8191,16383,16383,65535,16383,147455,524287,1048575]
def ufp {T:Tab} (hT:za Go.Proofs.Tryz.prog T):= @acT T hT 88 Go.Proofs.Tryz.f88 37 [.tmp 2] vfa (by kernel_rfl) (by kernel_rfl) rfl
abbrev wfa:Nat→Option (List Nat):=lvL [(0,[0]),(1,[0,7]),(2,[2]),(3,[0,8,9,10]),(4,[0,8,9,10,11]),(5,[0,3,4,8,9,10]),(6,[0,8,9,10,39]),(7,[2]),(8,[0,8,9,10]),(9,[2])]
@[go_sem] def udy:List Nat:=[0,1,3,7,7,23,63,127,255,7,519,2047,4095,8191,16383,32767,65535,131071,262143,524287,1048575,2097151,4194303,8388607,16777215]
def gfp {T:Tab} (hT:za Go.Proofs.Tryz.prog T):= @acT T hT 89 Go.Proofs.Tryz.f89 41 [.tmp 2] wfa (by kernel_rfl) (by kernel_rfl) rfl
abbrev ufa:Nat→Option (List Nat):=lvL [(0,[0]),(1,[0,7]),(2,[2]),(3,[0,8,9,10]),(4,[0,8,9,10,11]),(5,[0,3,4,8,9,10]),(6,[0,8,9,10,38]),(7,[2]),(8,[0,8,9,10]),(9,[2])]
@[go_sem] def gdy:List Nat:=[0,1,3,7,7,23,63,127,7,511,1023,2047,4095,8191,16383,32767,65535,131071,262143,524287,1048575,2097151,4194303,8388607]
def bfp {T:Tab} (hT:za Go.Proofs.Tryz.prog T):= @acT T hT 90 Go.Proofs.Tryz.f90 40 [.tmp 2] ufa (by kernel_rfl) (by kernel_rfl) rfl
abbrev bfw:Nat→Option (List Nat):=lvL [(0,[2,3]),(1,[4])]
def zfq {T:Tab} (hT:za Go.Proofs.Tryz.prog T):= @acT T hT 91 Go.Proofs.Tryz.f91 52 [.tmp 4] bfw (by kernel_rfl) (by kernel_rfl) rfl
abbrev zfx:Nat→Option (List Nat):=lvL [(0,[2,3]),(1,[4])]
def yfq {T:Tab} (hT:za Go.Proofs.Tryz.prog T):= @acT T hT 92 Go.Proofs.Tryz.f92 10 [.tmp 4] zfx (by kernel_rfl) (by kernel_rfl) rfl
abbrev yfx:Nat→Option (List Nat):=lvL [(0,[0,1]),(1,[4])]
def xfq {T:Tab} (hT:za Go.Proofs.Tryz.prog T):= @acT T hT 93 Go.Proofs.Tryz.f93 8 [.tmp 4] yfx (by kernel_rfl) (by kernel_rfl) rfl
abbrev xfx:Nat→Option (List Nat):=lvL [(0,[0,1]),(1,[4])]
def qfq {T:Tab} (hT:za Go.Proofs.Tryz.prog T):= @acT T hT 94 Go.Proofs.Tryz.f94 8 [.tmp 4] xfx (by kernel_rfl) (by kernel_rfl) rfl
abbrev qfx:Nat→Option (List Nat):=lvL [(0,[0,1]),(1,[4])]
def jfq {T:Tab} (hT:za Go.Proofs.Tryz.prog T):= @acT T hT 95 Go.Proofs.Tryz.f95 8 [.tmp 4] qfx (by kernel_rfl) (by kernel_rfl) rfl
abbrev jfx:Nat→Option (List Nat):=lvL [(0,[1]),(1,[2])]
@[go_sem] def bdy:List Nat:=[0,0,2,7,15,31]
def kfq {T:Tab} (hT:za Go.Proofs.Tryz.prog T):= @acT T hT 96 Go.Proofs.Tryz.f96 8 [.tmp 2] jfx (by kernel_rfl) (by kernel_rfl) rfl
abbrev kfx:Nat→Option (List Nat):=lvL [(0,[0,2,14]),(1,[])]
def zen {T:Tab} (hT:za Go.Proofs.Tryz.prog T):= @acT T hT 97 Go.Proofs.Tryz.f97 19 [] kfx (by kernel_rfl) (by kernel_rfl) rfl
abbrev vfx:Nat→Option (List Nat):=lvL [(0,[0,1,2,12]),(1,[0,1,6,7]),(2,[0,1,6,7,22]),(3,[]),(4,[])]
def yen {T:Tab} (hT:za Go.Proofs.Tryz.prog T):= @acT T hT 98 Go.Proofs.Tryz.f98 30 [] vfx (by kernel_rfl) (by kernel_rfl) rfl
abbrev wfx:Nat→Option (List Nat):=lvL [(0,[0,1]),(1,[3,4])]
def vfq {T:Tab} (hT:za Go.Proofs.Tryz.prog T):= @acT T hT 99 Go.Proofs.Tryz.f99 10 [.tmp 3, .tmp 4] wfx (by kernel_rfl) (by kernel_rfl) rfl
abbrev xeA:Nat→Option (List Nat):=lvL [(0,[0,3]),(1,[0,3,6]),(2,[0,3,6,11]),(3,[4,5]),(4,[0,7]),(5,[4,5])]
def gd9 {T:Tab} (hT:za Go.Proofs.Tryz.prog T):= @acT T hT 100 Go.Proofs.Tryz.f100 18 [.tmp 4, .tmp 5] xeA (by kernel_rfl) (by kernel_rfl) rfl
abbrev qeA:Nat→Option (List Nat):=lvL [(0,[0,2]),(1,[0,2,8]),(2,[2,3]),(3,[2,3])]
@[go_sem] def kbW:List Nat:=[0,0,2,6,14,1,63]
def ucq {T:Tab} (hT:za Go.Proofs.Tryz.prog T):= @acT T hT 101 Go.Proofs.Tryz.f101 19 [.cell 2 40, .tmp 3] qeA (by kernel_rfl) (by kernel_rfl) rfl
abbrev jeA:Nat→Option (List Nat):=lvL [(0,[0]),(1,[0])]
def bd9 {T:Tab} (hT:za Go.Proofs.Tryz.prog T):= @acT T hT 102 Go.Proofs.Tryz.f102 2 [.cell 0 38] jeA (by kernel_rfl) (by kernel_rfl) rfl
abbrev vdg:Nat→Option (List Nat):=lvL [(0,[0,1]),(1,[0,1,10]),(2,[4]),(3,[0,1,12,13]),(4,[0,1,12,13,14]),(5,[0,1,5,12,13]),(6,[0,1,12,13,25]),(7,[4]),(8,[0,1,12,13]),(9,[4])]
@[go_sem] def wcM:List Nat:=[0,0,3,7,0,0,48,112,255,511]
def zea {T:Tab} (hT:za Go.Proofs.Tryz.prog T):= @acT T hT 104 Go.Proofs.Tryz.f104 27 [.tmp 4] vdg (by kernel_rfl) (by kernel_rfl) rfl
abbrev wdg:Nat→Option (List Nat):=lvL [(0,[0,1]),(1,[0,1,10]),(2,[4]),(3,[0,1,12,13]),(4,[0,1,12,13,14]),(5,[0,1,5,12,13]),(6,[0,1,12,13,24]),(7,[4]),(8,[0,1,12,13]),(9,[4])]
@[go_sem] def ucM:List Nat:=[0,0,3,7,0,0,48,112,255]
def yea {T:Tab} (hT:za Go.Proofs.Tryz.prog T):= @acT T hT 105 Go.Proofs.Tryz.f105 26 [.tmp 4] wdg (by kernel_rfl) (by kernel_rfl) rfl
abbrev udg:Nat→Option (List Nat):=lvL [(0,[0,1]),(1,[0,1,10]),(2,[4]),(3,[0,1,12,13]),(4,[0,1,12,13,14]),(5,[0,1,5,12,13]),(6,[0,1,12,13,24]),(7,[4]),(8,[0,1,12,13]),(9,[4])]
@[go_sem] def gcM:List Nat:=[0,0,3,7,0,0,48,112,255]
def xea {T:Tab} (hT:za Go.Proofs.Tryz.prog T):= @acT T hT 106 Go.Proofs.Tryz.f106 26 [.tmp 4] udg (by kernel_rfl) (by kernel_rfl) rfl
abbrev keA:Nat→Option (List Nat):=lvL [(0,[2,3]),(1,[4])]
def qea {T:Tab} (hT:za Go.Proofs.Tryz.prog T):= @acT T hT 107 Go.Proofs.Tryz.f107 17 [.tmp 4] keA (by kernel_rfl) (by kernel_rfl) rfl
abbrev veA:Nat→Option (List Nat):=lvL [(0,[0,1]),(1,[4])]
def jea {T:Tab} (hT:za Go.Proofs.Tryz.prog T):= @acT T hT 108 Go.Proofs.Tryz.f108 15 [.tmp 4] veA (by kernel_rfl) (by kernel_rfl) rfl
abbrev weA:Nat→Option (List Nat):=lvL [(0,[2,3]),(1,[4])]
def kea {T:Tab} (hT:za Go.Proofs.Tryz.prog T):= @acT T hT 109 Go.Proofs.Tryz.f109 24 [.tmp 4] weA (by kernel_rfl) (by kernel_rfl) rfl
abbrev ueA:Nat→Option (List Nat):=lvL [(0,[2,3]),(1,[4])]
def vea {T:Tab} (hT:za Go.Proofs.Tryz.prog T):= @acT T hT 110 Go.Proofs.Tryz.f110 31 [.tmp 4] ueA (by kernel_rfl) (by kernel_rfl) rfl
abbrev geA:Nat→Option (List Nat):=lvL [(0,[0,1]),(1,[0,6,7,8]),(2,[0,6,7,8,16]),(3,[4,5]),(4,[0,6,20]),(5,[4,5]),(6,[6,23]),(7,[4,5]),(8,[4,5])]
def wea {T:Tab} (hT:za Go.Proofs.Tryz.prog T):= @acT T hT 111 Go.Proofs.Tryz.f111 30 [.tmp 4, .tmp 5] geA (by kernel_rfl) (by kernel_rfl) rfl
abbrev ybK:Nat→Option (List Nat):=lvL [(0,[1,2,3,4]),(1,[1,2,3,10,11]),(2,[1,2,3,10,11,23]),(3,[8,9]),(4,[1,2,3,10,12]),(5,[1,2,3,10,32]),(6,[8,9]),(7,[3,10,13,14]),(8,[10,13,14,42,43,44]),(9,[10,13,14,42,43,44,45]),(10,[10,13,14,16,42,43,44]),(11,[10,13,14,16,42,43,44,49]),(12,[10,13,14,42,43,44]),(13,[10,13,14,42,43,44]),(14,[13,61]),(15,[8,9]),(16,[8,9])]
def uea {T:Tab} (hT:za Go.Proofs.Tryz.prog T):= @acT T hT 112 Go.Proofs.Tryz.f112 63 [.tmp 8, .tmp 9] ybK (by kernel_rfl) (by kernel_rfl) rfl
abbrev gdg:Nat→Option (List Nat):=lvL [(0,[1]),(1,[1,3]),(2,[3,11,12,13]),(3,[3,11,12,13,14]),(4,[3,4,5,11,12,13]),(5,[3,11,12,13]),(6,[3,11,12,13]),(7,[2])]
def gea {T:Tab} (hT:za Go.Proofs.Tryz.prog T):= @acT T hT 113 Go.Proofs.Tryz.f113 28 [.tmp 2] gdg (by kernel_rfl) (by kernel_rfl) rfl
abbrev bdg:Nat→Option (List Nat):=lvL [(0,[0,1,2,3]),(1,[0,1,3,10,11]),(2,[0,1,3,10,37]),(3,[8,9]),(4,[0,1,3,10,12]),(5,[0,1,3,12,40]),(6,[0,1,3,12,40,42]),(7,[0,1,3,12,13,14,40]),(8,[0,1,3,12,13,14,15,40]),(9,[0,1,3,12,13,14,18,19,40]),(10,[0,1,3,12,13,18,40,67]),(11,[8,9]),(12,[0,1,3,12,40]),(13,[8,9])]
def bea {T:Tab} (hT:za Go.Proofs.Tryz.prog T):= @acT T hT 114 Go.Proofs.Tryz.f114 72 [.tmp 8, .tmp 9] bdg (by kernel_rfl) (by kernel_rfl) rfl
abbrev zdh:Nat→Option (List Nat):=lvL [(0,[0]),(1,[0,5,6,7]),(2,[0,5,6,7,8]),(3,[0,4,5,6,7]),(4,[0,5,6,7,14]),(5,[2]),(6,[0,5,6,7]),(7,[2])]
def zeb {T:Tab} (hT:za Go.Proofs.Tryz.prog T):= @acT T hT 115 Go.Proofs.Tryz.f115 19 [.tmp 2] zdh (by kernel_rfl) (by kernel_rfl) rfl
abbrev beA:Nat→Option (List Nat):=lvL [(0,[1]),(1,[2])]
def yeb {T:Tab} (hT:za Go.Proofs.Tryz.prog T):= @acT T hT 116 Go.Proofs.Tryz.f116 6 [.tmp 2] beA (by kernel_rfl) (by kernel_rfl) rfl
abbrev zeB:Nat→Option (List Nat):=lvL [(0,[0,1]),(1,[4])]
def wc7 {T:Tab} (hT:za Go.Proofs.Tryz.prog T):= @acT T hT 117 Go.Proofs.Tryz.f117 9 [.tmp 4] zeB (by kernel_rfl) (by kernel_rfl) rfl
abbrev ydh:Nat→Option (List Nat):=lvL [(0,[1]),(1,[1,4]),(2,[1,4,13]),(3,[2,3]),(4,[4,15,16,17]),(5,[4,15,16,17,18]),(6,[4,5,6,15,16,17]),(7,[4,5,6,8,15,16,17]),(8,[4,5,6,15,16,17,56]),(9,[2,3]),(10,[4,15,16,17]),(11,[4,15,16,17]),(12,[2,3])]
def xeb {T:Tab} (hT:za Go.Proofs.Tryz.prog T):= @acT T hT 118 Go.Proofs.Tryz.f118 63 [.tmp 2, .tmp 3] ydh (by kernel_rfl) (by kernel_rfl) rfl
abbrev bcB:Nat→Option (List Nat):=lvL [(0,[2,3,4]),(1,[2,3,4,7,8]),(2,[2,3,4,7,18]),(3,[4,5,6]),(4,[2,3,4,7,30]),(5,[4,5,6]),(6,[2,3,4,9,10]),(7,[2,3,4,9,44]),(8,[2,3,4,9]),(9,[2,3,4,9,49]),(10,[4,5,6]),(11,[2,4,9]),(12,[2,4,9]),(13,[2,4,9,63,64,65]),(14,[2,4,9,63,64,65,66]),(15,[2,4,9,11,12,63,64,65]),(16,[2,4,9,63,64,65]),(17,[2,4,9,63,64,65]),(18,[4,5,6])]
@[go_sem] def zch:List Nat:=[0,1,3,0,8,31,63,127]
@[go_sem] def vbl:List Nat:=[0,1,0,0,8,24,63,127,255]
def qeb {T:Tab} (hT:za Go.Proofs.Tryz.prog T):= @acT T hT 119 Go.Proofs.Tryz.f119 81 [.cell 4 43, .tmp 5, .tmp 6] bcB (by kernel_rfl) (by kernel_rfl) rfl
abbrev xdh:Nat→Option (List Nat):=lvL [(0,[1]),(1,[1,3,4]),(2,[1,3,4,6]),(3,[1,3,4,6,7]),(4,[1,3,4,82,83,84]),(5,[1,3,4,82,83,84,85]),(6,[1,3,4,9,82,83,84]),(7,[1,3,4,9,82,83,84,92]),(8,[1,3,4,82,83,84]),(9,[1,3,4,82,83,84]),(10,[1,3,4,82,83,84]),(11,[112]),(12,[2]),(13,[2])]
@[go_sem] def bcM:List Nat:=[0,1,3,7,0,16,48,112,0,256,768,0,2048,6144,14336,30720,63488,129024,260096,522240,1046528,2095104,4192256,8386560,16775168,33552384,67108608,0,134217728,402653184,939524096,0,2147483648,6442450944,15032385536,0,34359738368,135291469824,0,274877906944,824633720832,1924145348608,0,4398046511104,13194139533312,30786325577728,65970706053120,136339450230784,277076938586112,558551915296768,1121501868718080,2247401775560704,4499201589245952,9002801216616448,18010000471357440,9002801216616448,72053195999803392,144110790037731328,288225978113587200,576460477433903104,1152921504606846975,2305843009213693951,0]
def jeb {T:Tab} (hT:za Go.Proofs.Tryz.prog T):= @acT T hT 120 Go.Proofs.Tryz.f120 113 [.tmp 2] xdh (by kernel_rfl) (by kernel_rfl) rfl
abbrev qdh:Nat→Option (List Nat):=lvL [(0,[0,2]),(1,[0,2,4]),(2,[0,2,19]),(3,[2,3]),(4,[2,20,21,22]),(5,[2,20,21,22,23]),(6,[2,6,20,21,22]),(7,[2,3,20,21,22]),(8,[2,3,20,21,22,35]),(9,[2,3]),(10,[2,20,21,22]),(11,[2,3])]
def keb {T:Tab} (hT:za Go.Proofs.Tryz.prog T):= @acT T hT 121 Go.Proofs.Tryz.f121 39 [.tmp 2, .tmp 3] qdh (by kernel_rfl) (by kernel_rfl) rfl
abbrev yeB:Nat→Option (List Nat):=lvL [(0,[0]),(1,[10]),(2,[2]),(3,[2])]
def veb {T:Tab} (hT:za Go.Proofs.Tryz.prog T):= @acT T hT 122 Go.Proofs.Tryz.f122 11 [.tmp 2] yeB (by kernel_rfl) (by kernel_rfl) rfl
abbrev xeB:Nat→Option (List Nat):=lvL [(0,[0]),(1,[0,3]),(2,[2]),(3,[0,8]),(4,[2]),(5,[11]),(6,[2]),(7,[2])]
def web {T:Tab} (hT:za Go.Proofs.Tryz.prog T):= @acT T hT 123 Go.Proofs.Tryz.f123 14 [.tmp 2] xeB (by kernel_rfl) (by kernel_rfl) rfl
abbrev qeB:Nat→Option (List Nat):=lvL [(0,[0]),(1,[0,4]),(2,[2]),(3,[2])]
def ueb {T:Tab} (hT:za Go.Proofs.Tryz.prog T):= @acT T hT 124 Go.Proofs.Tryz.f124 8 [.tmp 2] qeB (by kernel_rfl) (by kernel_rfl) rfl
abbrev jeB:Nat→Option (List Nat):=lvL [(0,[0,1,2]),(1,[0,2,8,9]),(2,[0,2,8,9,18]),(3,[6,7]),(4,[0,2,8]),(5,[0,10]),(6,[0,10,28]),(7,[6,7]),(8,[6,7])]
def uc7 {T:Tab} (hT:za Go.Proofs.Tryz.prog T):= @acT T hT 125 Go.Proofs.Tryz.f125 31 [.tmp 6, .tmp 7] jeB (by kernel_rfl) (by kernel_rfl) rfl
abbrev keB:Nat→Option (List Nat):=lvL [(0,[0]),(1,[]),(2,[2])]
def geb {T:Tab} (hT:za Go.Proofs.Tryz.prog T):= @acT T hT 126 Go.Proofs.Tryz.f126 6 [.tmp 2] keB (by kernel_rfl) (by kernel_rfl) rfl
abbrev veB:Nat→Option (List Nat):=lvL [(0,[0]),(1,[0,4]),(2,[2]),(3,[2])]
def beb {T:Tab} (hT:za Go.Proofs.Tryz.prog T):= @acT T hT 127 Go.Proofs.Tryz.f127 8 [.tmp 2] veB (by kernel_rfl) (by kernel_rfl) rfl
abbrev weB:Nat→Option (List Nat):=lvL [(0,[0]),(1,[0,4]),(2,[2]),(3,[2])]
def zec {T:Tab} (hT:za Go.Proofs.Tryz.prog T):= @acT T hT 128 Go.Proofs.Tryz.f128 8 [.tmp 2] weB (by kernel_rfl) (by kernel_rfl) rfl
abbrev ueB:Nat→Option (List Nat):=lvL [(0,[0]),(1,[0,4]),(2,[2]),(3,[2])]
def gc7 {T:Tab} (hT:za Go.Proofs.Tryz.prog T):= @acT T hT 129 Go.Proofs.Tryz.f129 8 [.tmp 2] ueB (by kernel_rfl) (by kernel_rfl) rfl
abbrev geB:Nat→Option (List Nat):=lvL [(0,[0]),(1,[0,4]),(2,[2]),(3,[2])]
def yec {T:Tab} (hT:za Go.Proofs.Tryz.prog T):= @acT T hT 130 Go.Proofs.Tryz.f130 8 [.tmp 2] geB (by kernel_rfl) (by kernel_rfl) rfl
abbrev beB:Nat→Option (List Nat):=lvL [(0,[0]),(1,[0,4]),(2,[2]),(3,[2])]
def xec {T:Tab} (hT:za Go.Proofs.Tryz.prog T):= @acT T hT 131 Go.Proofs.Tryz.f131 8 [.tmp 2] beB (by kernel_rfl) (by kernel_rfl) rfl
abbrev zeC:Nat→Option (List Nat):=lvL [(0,[0]),(1,[0,4]),(2,[2]),(3,[2])]
def qec {T:Tab} (hT:za Go.Proofs.Tryz.prog T):= @acT T hT 132 Go.Proofs.Tryz.f132 8 [.tmp 2] zeC (by kernel_rfl) (by kernel_rfl) rfl
abbrev yeC:Nat→Option (List Nat):=lvL [(0,[0]),(1,[0,4]),(2,[2]),(3,[2])]
def jec {T:Tab} (hT:za Go.Proofs.Tryz.prog T):= @acT T hT 133 Go.Proofs.Tryz.f133 8 [.tmp 2] yeC (by kernel_rfl) (by kernel_rfl) rfl
abbrev xeC:Nat→Option (List Nat):=lvL [(0,[0]),(1,[0,4]),(2,[2]),(3,[2])]
def kec {T:Tab} (hT:za Go.Proofs.Tryz.prog T):= @acT T hT 134 Go.Proofs.Tryz.f134 8 [.tmp 2] xeC (by kernel_rfl) (by kernel_rfl) rfl
abbrev qeC:Nat→Option (List Nat):=lvL [(0,[0]),(1,[0,4]),(2,[2]),(3,[2])]
def wec {T:Tab} (hT:za Go.Proofs.Tryz.prog T):= @acT T hT 135 Go.Proofs.Tryz.f135 8 [.tmp 2] qeC (by kernel_rfl) (by kernel_rfl) rfl
abbrev jeC:Nat→Option (List Nat):=lvL [(0,[0]),(1,[0,4]),(2,[2]),(3,[2])]
def uec {T:Tab} (hT:za Go.Proofs.Tryz.prog T):= @acT T hT 136 Go.Proofs.Tryz.f136 8 [.tmp 2] jeC (by kernel_rfl) (by kernel_rfl) rfl
abbrev keC:Nat→Option (List Nat):=lvL [(0,[0]),(1,[0,4]),(2,[2]),(3,[2])]
def gec {T:Tab} (hT:za Go.Proofs.Tryz.prog T):= @acT T hT 137 Go.Proofs.Tryz.f137 8 [.tmp 2] keC (by kernel_rfl) (by kernel_rfl) rfl
abbrev veC:Nat→Option (List Nat):=lvL [(0,[0,1,2]),(1,[0,2,7]),(2,[4]),(3,[]),(4,[4])]
def bec {T:Tab} (hT:za Go.Proofs.Tryz.prog T):= @acT T hT 138 Go.Proofs.Tryz.f138 12 [.tmp 4] veC (by kernel_rfl) (by kernel_rfl) rfl
abbrev weC:Nat→Option (List Nat):=lvL [(0,[0,3]),(1,[4])]
def zed {T:Tab} (hT:za Go.Proofs.Tryz.prog T):= @acT T hT 139 Go.Proofs.Tryz.f139 8 [.tmp 4] weC (by kernel_rfl) (by kernel_rfl) rfl
abbrev kdh:Nat→Option (List Nat):=lvL [(0,[0]),(1,[0,3]),(2,[3,6,7,8]),(3,[3,6,7,8,9]),(4,[3,5,6,7,8]),(5,[3,6,7,8]),(6,[3,6,7,8]),(7,[2])]
def yed {T:Tab} (hT:za Go.Proofs.Tryz.prog T):= @acT T hT 140 Go.Proofs.Tryz.f140 19 [.tmp 2] kdh (by kernel_rfl) (by kernel_rfl) rfl
abbrev ueC:Nat→Option (List Nat):=lvL [(0,[1]),(1,[16]),(2,[2]),(3,[2])]
def xed {T:Tab} (hT:za Go.Proofs.Tryz.prog T):= @acT T hT 141 Go.Proofs.Tryz.f141 17 [.tmp 2] ueC (by kernel_rfl) (by kernel_rfl) rfl
abbrev geC:Nat→Option (List Nat):=lvL [(0,[2,3]),(1,[4])]
def qed {T:Tab} (hT:za Go.Proofs.Tryz.prog T):= @acT T hT 142 Go.Proofs.Tryz.f142 66 [.tmp 4] geC (by kernel_rfl) (by kernel_rfl) rfl
abbrev beC:Nat→Option (List Nat):=lvL [(0,[1,2]),(1,[1,2,3]),(2,[1,2,3,4]),(3,[1,2,3,4,19]),(4,[1,2,3,4]),(5,[1,2,3,4,44]),(6,[1,2,3,4]),(7,[1,2,3,4,61]),(8,[1,2,3,4]),(9,[1,2,3,4,66]),(10,[1,2,3,4]),(11,[1,2,3,4,71]),(12,[1,2,3,4]),(13,[1,2,3,76]),(14,[2,3]),(15,[2])]
def gcq {T:Tab} (hT:za Go.Proofs.Tryz.prog T):= @acT T hT 143 Go.Proofs.Tryz.f143 81 [.cell 2 29] beC (by kernel_rfl) (by kernel_rfl) rfl
abbrev zcC:Nat→Option (List Nat):=lvL [(0,[0]),(1,[0,14]),(2,[2,3]),(3,[0,4]),(4,[4,15,16,17]),(5,[4,15,16,17,18]),(6,[4,6,15,16,17]),(7,[4,6,15,16,17,23]),(8,[2,3]),(9,[4,15,16,17]),(10,[4,15,16,17]),(11,[2,3])]
def jed {T:Tab} (hT:za Go.Proofs.Tryz.prog T):= @acT T hT 144 Go.Proofs.Tryz.f144 34 [.tmp 2, .tmp 3] zcC (by kernel_rfl) (by kernel_rfl) rfl
abbrev vdh:Nat→Option (List Nat):=lvL [(0,[0]),(1,[0,5,6,7]),(2,[0,5,6,7,8]),(3,[0,4,5,6,7]),(4,[0,5,6,7,13]),(5,[2]),(6,[0,5,6,7]),(7,[2])]
def ked {T:Tab} (hT:za Go.Proofs.Tryz.prog T):= @acT T hT 145 Go.Proofs.Tryz.f145 18 [.tmp 2] vdh (by kernel_rfl) (by kernel_rfl) rfl
abbrev wdh:Nat→Option (List Nat):=lvL [(0,[0,1,4]),(1,[1,4,8,9,10]),(2,[1,4,8,9,10,11]),(3,[1,4,7,8,9,10]),(4,[1,4,7,8,9,10,17]),(5,[4,5]),(6,[1,4,8,9,10]),(7,[4,5])]
def ved {T:Tab} (hT:za Go.Proofs.Tryz.prog T):= @acT T hT 146 Go.Proofs.Tryz.f146 21 [.cell 4 70, .tmp 5] wdh (by kernel_rfl) (by kernel_rfl) rfl
abbrev zeD:Nat→Option (List Nat):=lvL [(0,[1]),(1,[1,6]),(2,[2,3]),(3,[1,9]),(4,[2,3]),(5,[2,3])]
def wed {T:Tab} (hT:za Go.Proofs.Tryz.prog T):= @acT T hT 147 Go.Proofs.Tryz.f147 23 [.tmp 2, .tmp 3] zeD (by kernel_rfl) (by kernel_rfl) rfl
abbrev ycC:Nat→Option (List Nat):=lvL [(0,[1,2,3,4]),(1,[1,2,3,4,17]),(2,[8,9]),(3,[1,2,3,4,21,22,23]),(4,[1,2,3,4,21,22,23,24]),(5,[1,2,3,4,11,21,22,23]),(6,[1,2,3,4,21,22,23,29]),(7,[8,9]),(8,[1,2,3,4,21,22,23]),(9,[3,4,12]),(10,[4,12,37,38,39]),(11,[4,12,37,38,39,40]),(12,[4,12,14,37,38,39]),(13,[4,12,14,37,38,39,44]),(14,[4,12,37,38,39]),(15,[4,12,37,38,39]),(16,[12,53]),(17,[8,9]),(18,[8,9])]
def ued {T:Tab} (hT:za Go.Proofs.Tryz.prog T):= @acT T hT 148 Go.Proofs.Tryz.f148 55 [.tmp 8, .tmp 9] ycC (by kernel_rfl) (by kernel_rfl) rfl
abbrev udh:Nat→Option (List Nat):=lvL [(0,[0]),(1,[0,3]),(2,[3,6,7,8]),(3,[3,6,7,8,9]),(4,[3,5,6,7,8]),(5,[3,6,7,8]),(6,[3,6,7,8]),(7,[2])]
def ged {T:Tab} (hT:za Go.Proofs.Tryz.prog T):= @acT T hT 149 Go.Proofs.Tryz.f149 18 [.tmp 2] udh (by kernel_rfl) (by kernel_rfl) rfl
abbrev yeD:Nat→Option (List Nat):=lvL [(0,[1]),(1,[2])]
def bed {T:Tab} (hT:za Go.Proofs.Tryz.prog T):= @acT T hT 150 Go.Proofs.Tryz.f150 16 [.tmp 2] yeD (by kernel_rfl) (by kernel_rfl) rfl
abbrev xeD:Nat→Option (List Nat):=lvL [(0,[2,3]),(1,[2,3,13]),(2,[4,5]),(3,[2,3,15]),(4,[2,3,15,16]),(5,[4,5]),(6,[2,3,15,23]),(7,[4,5]),(8,[2,3,30]),(9,[4,5]),(10,[4,5])]
def zee {T:Tab} (hT:za Go.Proofs.Tryz.prog T):= @acT T hT 151 Go.Proofs.Tryz.f151 42 [.tmp 4, .tmp 5] xeD (by kernel_rfl) (by kernel_rfl) rfl
abbrev gdh:Nat→Option (List Nat):=lvL [(0,[0]),(1,[5,6,7]),(2,[5,6,7,8]),(3,[4,5,6,7]),(4,[5,6,7,12]),(5,[2]),(6,[5,6,7]),(7,[2])]
def yee {T:Tab} (hT:za Go.Proofs.Tryz.prog T):= @acT T hT 152 Go.Proofs.Tryz.f152 14 [.tmp 2] gdh (by kernel_rfl) (by kernel_rfl) rfl
abbrev bdh:Nat→Option (List Nat):=lvL [(0,[0,1,2]),(1,[0,1,2,12]),(2,[6,7]),(3,[1,2,13,14,15]),(4,[1,2,13,14,15,16]),(5,[1,2,9,13,14,15]),(6,[1,2,9,13,14,15,28]),(7,[6,7]),(8,[1,2,13,14,15]),(9,[6,7])]
def xee {T:Tab} (hT:za Go.Proofs.Tryz.prog T):= @acT T hT 153 Go.Proofs.Tryz.f153 32 [.tmp 6, .tmp 7] bdh (by kernel_rfl) (by kernel_rfl) rfl
abbrev qeD:Nat→Option (List Nat):=lvL [(0,[0,1]),(1,[0,1,7]),(2,[0,1,7,13]),(3,[4,5,6]),(4,[8,9]),(5,[4,5,6])]
def qee {T:Tab} (hT:za Go.Proofs.Tryz.prog T):= @acT T hT 154 Go.Proofs.Tryz.f154 23 [.tmp 4, .tmp 5, .tmp 6] qeD (by kernel_rfl) (by kernel_rfl) rfl
abbrev jeD:Nat→Option (List Nat):=lvL [(0,[0,1,2]),(1,[0,1,2]),(2,[0,1,2,7]),(3,[0,1,2,7,16]),(4,[6]),(5,[0,1,2,7,8]),(6,[0,1,2,7,8,22]),(7,[6]),(8,[0,1,2,7,8,31]),(9,[0,1,2,7,9]),(10,[0,1,7,9]),(11,[9]),(12,[6]),(13,[0,1,2,7,8]),(14,[0,1,2,7,8,68]),(15,[0,1,2]),(16,[0]),(17,[6]),(18,[0,1,7]),(19,[0]),(20,[6])]
@[go_sem] def ych:List Nat:=[0,0,0,6,15,0,0,96,255]
@[go_sem] def xch:List Nat:=[0,0,0,6,15,0,0,96,255]
def bc7 {T:Tab} (hT:za Go.Proofs.Tryz.prog T):= @acT T hT 155 Go.Proofs.Tryz.f155 95 [.tmp 6] jeD (by kernel_rfl) (by kernel_rfl) rfl
abbrev zdi:Nat→Option (List Nat):=lvL [(0,[0,1]),(1,[1,7,8,9]),(2,[1,7,8,9,10]),(3,[1,6,7,8,9]),(4,[1,7,8,9,16]),(5,[4]),(6,[1,7,8,9]),(7,[4])]
def jee {T:Tab} (hT:za Go.Proofs.Tryz.prog T):= @acT T hT 156 Go.Proofs.Tryz.f156 18 [.tmp 4] zdi (by kernel_rfl) (by kernel_rfl) rfl
abbrev xcC:Nat→Option (List Nat):=lvL [(0,[0,3]),(1,[0,3,5]),(2,[0,3,5,10,11,12]),(3,[0,3,5,10,11,12,13]),(4,[0,3,5,7,10,11,12]),(5,[0,3,5,7,10,11,12,20]),(6,[0,3,5,10,11,12]),(7,[0,3,5,10,11,12]),(8,[0,3,5]),(9,[3,5,30,31,32]),(10,[3,5,30,31,32,33]),(11,[3,5,9,30,31,32]),(12,[3,5,9,30,31,32,40]),(13,[3,5,30,31,32]),(14,[3,5,30,31,32]),(15,[4])]
def kee {T:Tab} (hT:za Go.Proofs.Tryz.prog T):= @acT T hT 157 Go.Proofs.Tryz.f157 47 [.tmp 4] xcC (by kernel_rfl) (by kernel_rfl) rfl
abbrev keD:Nat→Option (List Nat):=lvL [(0,[1,2,3,6,7]),(1,[1,6,7,9,10,11]),(2,[1,6,7,9,10,11,23]),(3,[6,7,8]),(4,[6,7,8])]
@[go_sem] def zcN:List Nat:=[0,0,0,4,12,31,63,127,127,127,0,1279,3583,8191]
def vee {T:Tab} (hT:za Go.Proofs.Tryz.prog T):= @acT T hT 158 Go.Proofs.Tryz.f158 31 [.cell 6 43, .cell 7 26, .tmp 8] keD (by kernel_rfl) (by kernel_rfl) rfl
abbrev veD:Nat→Option (List Nat):=lvL [(0,[0]),(1,[4]),(2,[2])]
def wee {T:Tab} (hT:za Go.Proofs.Tryz.prog T):= @acT T hT 159 Go.Proofs.Tryz.f159 11 [.tmp 2] veD (by kernel_rfl) (by kernel_rfl) rfl
abbrev ydi:Nat→Option (List Nat):=lvL [(0,[0]),(1,[0,7]),(2,[2]),(3,[0,8,9,10]),(4,[0,8,9,10,11]),(5,[0,3,4,8,9,10]),(6,[0,8,9,10,43]),(7,[2]),(8,[0,8,9,10]),(9,[2])]
@[go_sem] def ycN:List Nat:=[0,1,3,7,7,23,63,127,7,263,1023,2047,4095,8191,16383,32767,65535,131071,262143,524287,1048575,2097151,4194303,8388607,16777215,33554431,67108863,134217727,268435455]
def uee {T:Tab} (hT:za Go.Proofs.Tryz.prog T):= @acT T hT 160 Go.Proofs.Tryz.f160 45 [.tmp 2] ydi (by kernel_rfl) (by kernel_rfl) rfl
abbrev ja1:Nat→Option (List Nat):=lvL [(0,[1,2,31]),(1,[1,2,24,31]),(2,[2]),(3,[1,2,3,31]),(4,[2,3,29,31]),(5,[2,3,5,31]),(6,[2,3,5,31]),(7,[2,3,31,43]),(8,[2]),(9,[2])]
def vfj {T:Tab} (hT:za Go.Proofs.Tryz.prog T):= @acT T hT 161 Go.Proofs.Tryz.f161 44 [.cell 2 50] ja1 (by kernel_rfl) (by kernel_rfl) rfl
abbrev wb7:Nat→Option (List Nat):=lvL [(0,[0,1]),(1,[0,1,22]),(2,[4,5]),(3,[0,1,6,7,8]),(4,[0,6,7,8,25,26,27]),(5,[0,6,7,8,25,26,27,28]),(6,[0,6,7,8,10,25,26,27]),(7,[0,6,7,8,10,25,26,27]),(8,[0,6,7,8,10,25,26,27,40]),(9,[4,5]),(10,[0,6,7,8,10,25,26,27,42,43,44]),(11,[0,6,7,8,10,25,26,27,42,43,44,45]),(12,[0,6,7,8,10,12,25,26,27,42,43,44]),(13,[0,6,7,8,10,25,26,27,42,43,44]),(14,[0,6,7,8,10,25,26,27,42,43,44]),(15,[0,6,7,8,10,25,26,27,42,43,44]),(16,[0,6,7,8,25,26,27]),(17,[6,8,61,62,63]),(18,[6,8,61,62,63,64]),(19,[6,8,14,61,62,63]),(20,[6,8,14,61,62,63,69]),(21,[6,8,61,62,63,80]),(22,[4,5]),(23,[6,8,61,62,63]),(24,[6,8,61,62,63]),(25,[4,5])]
@[go_sem] def qch:List Nat:=[0,0,2,0,14,31,63,31,159,511]
def gee {T:Tab} (hT:za Go.Proofs.Tryz.prog T):= @acT T hT 162 Go.Proofs.Tryz.f162 86 [.tmp 4, .tmp 5] wb7 (by kernel_rfl) (by kernel_rfl) rfl
abbrev weD:Nat→Option (List Nat):=lvL [(0,[1,2]),(1,[4])]
def bee {T:Tab} (hT:za Go.Proofs.Tryz.prog T):= @acT T hT 163 Go.Proofs.Tryz.f163 9 [.tmp 4] weD (by kernel_rfl) (by kernel_rfl) rfl
abbrev ueD:Nat→Option (List Nat):=lvL [(0,[1]),(1,[2])]
def zef {T:Tab} (hT:za Go.Proofs.Tryz.prog T):= @acT T hT 164 Go.Proofs.Tryz.f164 11 [.tmp 2] ueD (by kernel_rfl) (by kernel_rfl) rfl
abbrev geD:Nat→Option (List Nat):=lvL [(0,[1,2]),(1,[4])]
def yef {T:Tab} (hT:za Go.Proofs.Tryz.prog T):= @acT T hT 165 Go.Proofs.Tryz.f165 9 [.tmp 4] geD (by kernel_rfl) (by kernel_rfl) rfl
abbrev beD:Nat→Option (List Nat):=lvL [(0,[2,3]),(1,[4])]
@[go_sem] def xcN:List Nat:=[0,1,0,4,15,0,32,0,128,511,1023,2047,4095]
def xef {T:Tab} (hT:za Go.Proofs.Tryz.prog T):= @acT T hT 166 Go.Proofs.Tryz.f166 17 [.tmp 4] beD (by kernel_rfl) (by kernel_rfl) rfl
abbrev qcC:Nat→Option (List Nat):=lvL [(0,[0]),(1,[0,11]),(2,[2]),(3,[0,12,13,14]),(4,[0,12,13,14,15]),(5,[0,3,4,12,13,14]),(6,[0,3,4,12,13,14,36]),(7,[2]),(8,[0,3,12,13,14,38,39,40]),(9,[0,3,12,13,14,38,39,40,41]),(10,[0,3,6,12,13,14,38,39,40]),(11,[0,3,12,13,14,38,39,40,50]),(12,[2]),(13,[0,3,12,13,14,38,39,40]),(14,[0,12,13,14]),(15,[8]),(16,[59]),(17,[2]),(18,[2])]
@[go_sem] def qcN:List Nat:=[0,1,3,7,15,31,63,127,127,383,1023,2047,4095,127,8319,32767,65535,131071]
@[go_sem] def jch:List Nat:=[0,0,3,0,8,31,63]
def qef {T:Tab} (hT:za Go.Proofs.Tryz.prog T):= @acT T hT 167 Go.Proofs.Tryz.f167 60 [.tmp 2] qcC (by kernel_rfl) (by kernel_rfl) rfl
abbrev xdi:Nat→Option (List Nat):=lvL [(0,[0]),(1,[0,7]),(2,[2]),(3,[0,8,9,10]),(4,[0,8,9,10,11]),(5,[0,3,4,8,9,10]),(6,[0,8,9,10,49]),(7,[2]),(8,[0,8,9,10]),(9,[2])]
@[go_sem] def jcN:List Nat:=[0,1,3,7,7,23,63,127,255,7,519,2047,4095,8191,16383,32767,65535,131071,262143,524287,1048575,2097151,4194303,8388607,16777215,33554431,67108863,134217727,268435455,536870911,1073741823,2147483647,4294967295,8589934591,17179869183]
def jef {T:Tab} (hT:za Go.Proofs.Tryz.prog T):= @acT T hT 168 Go.Proofs.Tryz.f168 51 [.tmp 2] xdi (by kernel_rfl) (by kernel_rfl) rfl
abbrev qdi:Nat→Option (List Nat):=lvL [(0,[0]),(1,[0,7]),(2,[2]),(3,[0,8,9,10]),(4,[0,8,9,10,11]),(5,[0,3,4,8,9,10]),(6,[0,8,9,10,32]),(7,[2]),(8,[0,8,9,10]),(9,[2])]
@[go_sem] def kcN:List Nat:=[0,1,3,7,7,23,63,127,255,7,519,2047,4095,8191,16383,32767,65535,131071]
def kef {T:Tab} (hT:za Go.Proofs.Tryz.prog T):= @acT T hT 169 Go.Proofs.Tryz.f169 34 [.tmp 2] qdi (by kernel_rfl) (by kernel_rfl) rfl
abbrev jdi:Nat→Option (List Nat):=lvL [(0,[1]),(1,[1,23]),(2,[2]),(3,[1,25,26,27]),(4,[1,25,26,27,28]),(5,[1,3,4,25,26,27]),(6,[1,25,26,27,53]),(7,[2]),(8,[1,25,26,27]),(9,[2])]
def vef {T:Tab} (hT:za Go.Proofs.Tryz.prog T):= @acT T hT 170 Go.Proofs.Tryz.f170 55 [.tmp 2] jdi (by kernel_rfl) (by kernel_rfl) rfl
abbrev ub7:Nat→Option (List Nat):=lvL [(0,[0,1]),(1,[0,1,21]),(2,[4,5]),(3,[0,1,6]),(4,[0,1,6,22,23,24]),(5,[0,1,6,22,23,24,25]),(6,[0,1,6,7,8,22,23,24]),(7,[0,1,6,8,22,23,24,31,32,33]),(8,[0,1,6,8,22,23,24,31,32,33,34]),(9,[0,1,6,8,10,22,23,24,31,32,33]),(10,[0,1,6,8,22,23,24,31,32,33,41]),(11,[4,5]),(12,[0,1,6,8,22,23,24,31,32,33]),(13,[0,1,6,22,23,24]),(14,[0,1,6,22,23,24]),(15,[0,1,6,11]),(16,[1,6,11,49,50,51]),(17,[1,6,11,49,50,51,52]),(18,[1,6,11,13,49,50,51]),(19,[1,6,11,13,49,50,51,57]),(20,[1,6,11,13,49,50,51]),(21,[1,6,11,49,50,51,69]),(22,[4,5]),(23,[1,6,11,49,50,51]),(24,[4,5])]
def wef {T:Tab} (hT:za Go.Proofs.Tryz.prog T):= @acT T hT 171 Go.Proofs.Tryz.f171 74 [.tmp 4, .tmp 5] ub7 (by kernel_rfl) (by kernel_rfl) rfl
abbrev kdi:Nat→Option (List Nat):=lvL [(0,[0,3]),(1,[3,7,8,9]),(2,[3,7,8,9,10]),(3,[3,5,6,7,8,9]),(4,[3,5,7,8,9,16]),(5,[4]),(6,[3,7,8,9]),(7,[4])]
def uef {T:Tab} (hT:za Go.Proofs.Tryz.prog T):= @acT T hT 172 Go.Proofs.Tryz.f172 19 [.tmp 4] kdi (by kernel_rfl) (by kernel_rfl) rfl
abbrev zeE:Nat→Option (List Nat):=lvL [(0,[2,3]),(1,[4])]
def gef {T:Tab} (hT:za Go.Proofs.Tryz.prog T):= @acT T hT 173 Go.Proofs.Tryz.f173 24 [.tmp 4] zeE (by kernel_rfl) (by kernel_rfl) rfl
abbrev yeE:Nat→Option (List Nat):=lvL [(0,[0,1]),(1,[4])]
def bef {T:Tab} (hT:za Go.Proofs.Tryz.prog T):= @acT T hT 174 Go.Proofs.Tryz.f174 8 [.tmp 4] yeE (by kernel_rfl) (by kernel_rfl) rfl
abbrev vdi:Nat→Option (List Nat):=lvL [(0,[0,1,2]),(1,[0,1,2,14]),(2,[6]),(3,[1,2,15,16,17]),(4,[1,2,15,16,17,18]),(5,[1,2,7,8,15,16,17]),(6,[1,2,8,9,15,16,17]),(7,[1,2,15,16,17,30]),(8,[6]),(9,[1,2,15,16,17]),(10,[6])]
def zeg {T:Tab} (hT:za Go.Proofs.Tryz.prog T):= @acT T hT 175 Go.Proofs.Tryz.f175 32 [.tmp 6] vdi (by kernel_rfl) (by kernel_rfl) rfl
abbrev xeE:Nat→Option (List Nat):=lvL [(0,[2,3]),(1,[4])]
def yeg {T:Tab} (hT:za Go.Proofs.Tryz.prog T):= @acT T hT 176 Go.Proofs.Tryz.f176 18 [.tmp 4] xeE (by kernel_rfl) (by kernel_rfl) rfl
abbrev qeE:Nat→Option (List Nat):=lvL [(0,[0,1]),(1,[4])]
def xeg {T:Tab} (hT:za Go.Proofs.Tryz.prog T):= @acT T hT 177 Go.Proofs.Tryz.f177 8 [.tmp 4] qeE (by kernel_rfl) (by kernel_rfl) rfl
abbrev jeE:Nat→Option (List Nat):=lvL [(0,[0,1]),(1,[4])]
def qeg {T:Tab} (hT:za Go.Proofs.Tryz.prog T):= @acT T hT 178 Go.Proofs.Tryz.f178 8 [.tmp 4] jeE (by kernel_rfl) (by kernel_rfl) rfl
abbrev keE:Nat→Option (List Nat):=lvL [(0,[2,3]),(1,[4])]
def jeg {T:Tab} (hT:za Go.Proofs.Tryz.prog T):= @acT T hT 179 Go.Proofs.Tryz.f179 17 [.tmp 4] keE (by kernel_rfl) (by kernel_rfl) rfl
abbrev wdi:Nat→Option (List Nat):=lvL [(0,[0,1,2]),(1,[0,1,2,14]),(2,[6]),(3,[1,2,15,16,17]),(4,[1,2,15,16,17,18]),(5,[1,2,7,8,15,16,17]),(6,[1,2,8,9,15,16,17]),(7,[1,2,15,16,17,30]),(8,[6]),(9,[1,2,15,16,17]),(10,[6])]
def keg {T:Tab} (hT:za Go.Proofs.Tryz.prog T):= @acT T hT 180 Go.Proofs.Tryz.f180 32 [.tmp 6] wdi (by kernel_rfl) (by kernel_rfl) rfl
abbrev veE:Nat→Option (List Nat):=lvL [(0,[2,3]),(1,[4])]
def veg {T:Tab} (hT:za Go.Proofs.Tryz.prog T):= @acT T hT 181 Go.Proofs.Tryz.f181 24 [.tmp 4] veE (by kernel_rfl) (by kernel_rfl) rfl
abbrev udi:Nat→Option (List Nat):=lvL [(0,[0,1]),(1,[0,1,10]),(2,[4]),(3,[0,1,12,13]),(4,[0,1,12,13,14]),(5,[0,1,5,12,13]),(6,[0,1,12,13,24]),(7,[4]),(8,[0,1,12,13]),(9,[4])]
@[go_sem] def wcN:List Nat:=[0,0,3,7,0,0,48,112,255]
def weg {T:Tab} (hT:za Go.Proofs.Tryz.prog T):= @acT T hT 182 Go.Proofs.Tryz.f182 26 [.tmp 4] udi (by kernel_rfl) (by kernel_rfl) rfl
abbrev gdi:Nat→Option (List Nat):=lvL [(0,[0,1,2]),(1,[0,1,2,14]),(2,[6]),(3,[1,2,15,16,17]),(4,[1,2,15,16,17,18]),(5,[1,2,7,8,15,16,17]),(6,[1,2,8,9,15,16,17]),(7,[1,2,15,16,17,30]),(8,[6]),(9,[1,2,15,16,17]),(10,[6])]
def ueg {T:Tab} (hT:za Go.Proofs.Tryz.prog T):= @acT T hT 183 Go.Proofs.Tryz.f183 32 [.tmp 6] gdi (by kernel_rfl) (by kernel_rfl) rfl
abbrev weE:Nat→Option (List Nat):=lvL [(0,[2,3]),(1,[4])]
def geg {T:Tab} (hT:za Go.Proofs.Tryz.prog T):= @acT T hT 184 Go.Proofs.Tryz.f184 31 [.tmp 4] weE (by kernel_rfl) (by kernel_rfl) rfl
abbrev bdi:Nat→Option (List Nat):=lvL [(0,[0,1]),(1,[0,1,10]),(2,[4]),(3,[0,1,12,13]),(4,[0,1,12,13,14]),(5,[0,1,5,12,13]),(6,[0,1,12,13,24]),(7,[4]),(8,[0,1,12,13]),(9,[4])]
@[go_sem] def ucN:List Nat:=[0,0,3,7,0,0,48,112,255]
def beg {T:Tab} (hT:za Go.Proofs.Tryz.prog T):= @acT T hT 185 Go.Proofs.Tryz.f185 26 [.tmp 4] bdi (by kernel_rfl) (by kernel_rfl) rfl
abbrev ueE:Nat→Option (List Nat):=lvL [(0,[1,2]),(1,[3])]
def zc8 {T:Tab} (hT:za Go.Proofs.Tryz.prog T):= @acT T hT 186 Go.Proofs.Tryz.f186 13 [.tmp 3] ueE (by kernel_rfl) (by kernel_rfl) rfl
abbrev geE:Nat→Option (List Nat):=lvL [(0,[1,2]),(1,[2,13]),(2,[4]),(3,[4])]
def zeh {T:Tab} (hT:za Go.Proofs.Tryz.prog T):= @acT T hT 187 Go.Proofs.Tryz.f187 16 [.tmp 4] geE (by kernel_rfl) (by kernel_rfl) rfl
abbrev xaM:Nat→Option (List Nat):=lvL [(0,[0,1]),(1,[0,1,5]),(2,[0,1,5,12]),(3,[4]),(4,[0,1,5,6]),(5,[0,1,5,6,19]),(6,[0,1,5,6]),(7,[0,1,5,6,7]),(8,[0,1,5,6,7,29]),(9,[0,1,5,6]),(10,[0,1,5,6]),(11,[0,5]),(12,[4])]
def gfj {T:Tab} (hT:za Go.Proofs.Tryz.prog T):= @acT T hT 188 Go.Proofs.Tryz.f188 42 [.tmp 4] xaM (by kernel_rfl) (by kernel_rfl) rfl
abbrev zdj:Nat→Option (List Nat):=lvL [(0,[1,2]),(1,[1,2]),(2,[1,2,28,29,30]),(3,[1,2,28,29,30,31]),(4,[1,2,3,4,28,29,30]),(5,[1,2,28,29,30]),(6,[1,2,28,29,30]),(7,[2])]
@[go_sem] def gcN:List Nat:=[0,1,3,0,8,31,0,64,255,0,512,2047,0,4096,12288,32767,30431,131071,262143,524287,1048575,2097151,4194303,8388607,16777215,33554431,67108863]
@[go_sem] def bcN:List Nat:=[0,1,0,0,8,24,63,127,255]
def yeh {T:Tab} (hT:za Go.Proofs.Tryz.prog T):= @acT T hT 189 Go.Proofs.Tryz.f189 45 [.cell 2 40] zdj (by kernel_rfl) (by kernel_rfl) rfl
abbrev ydj:Nat→Option (List Nat):=lvL [(0,[2,3]),(1,[2,3,54]),(2,[4]),(3,[2,3,57,58]),(4,[2,3,57,58,59]),(5,[2,3,5,57,58]),(6,[2,3,57,58,71]),(7,[4]),(8,[2,3,57,58]),(9,[4])]
@[go_sem] def zcO:List Nat:=[0,1,0,7,15,0,32,0,224,480,1023]
def xeh {T:Tab} (hT:za Go.Proofs.Tryz.prog T):= @acT T hT 190 Go.Proofs.Tryz.f190 73 [.tmp 4] ydj (by kernel_rfl) (by kernel_rfl) rfl
abbrev xdj:Nat→Option (List Nat):=lvL [(0,[0,1]),(1,[0,1,10]),(2,[4]),(3,[0,1,12,13]),(4,[0,1,12,13,14]),(5,[0,1,5,12,13]),(6,[0,1,12,13,24]),(7,[4]),(8,[0,1,12,13]),(9,[4])]
@[go_sem] def ycO:List Nat:=[0,0,3,7,0,0,48,112,255]
def qeh {T:Tab} (hT:za Go.Proofs.Tryz.prog T):= @acT T hT 191 Go.Proofs.Tryz.f191 26 [.tmp 4] xdj (by kernel_rfl) (by kernel_rfl) rfl
abbrev beE:Nat→Option (List Nat):=lvL [(0,[0,1]),(1,[0,1,7]),(2,[4]),(3,[4])]
def jeh {T:Tab} (hT:za Go.Proofs.Tryz.prog T):= @acT T hT 192 Go.Proofs.Tryz.f192 14 [.tmp 4] beE (by kernel_rfl) (by kernel_rfl) rfl
abbrev zeF:Nat→Option (List Nat):=lvL [(0,[0,1]),(1,[4])]
def keh {T:Tab} (hT:za Go.Proofs.Tryz.prog T):= @acT T hT 193 Go.Proofs.Tryz.f193 10 [.tmp 4] zeF (by kernel_rfl) (by kernel_rfl) rfl
abbrev yeF:Nat→Option (List Nat):=lvL [(0,[0]),(1,[2])]
def yc8 {T:Tab} (hT:za Go.Proofs.Tryz.prog T):= @acT T hT 194 Go.Proofs.Tryz.f194 6 [.tmp 2] yeF (by kernel_rfl) (by kernel_rfl) rfl
abbrev xeF:Nat→Option (List Nat):=lvL [(0,[0,1]),(1,[4])]
def veh {T:Tab} (hT:za Go.Proofs.Tryz.prog T):= @acT T hT 195 Go.Proofs.Tryz.f195 9 [.tmp 4] xeF (by kernel_rfl) (by kernel_rfl) rfl
abbrev qdj:Nat→Option (List Nat):=lvL [(0,[0]),(1,[0,12]),(2,[2,3]),(3,[0,4]),(4,[4,14,15,16]),(5,[4,14,15,16,17]),(6,[4,6,14,15,16]),(7,[4,6,7,14,15,16]),(8,[4,6,7,14,15,16,23]),(9,[2,3]),(10,[4,6,14,15,16,27]),(11,[4,6,8,9,14,15,16]),(12,[4,6,14,15,16,42]),(13,[4,14,15,16]),(14,[4,14,15,16]),(15,[2,3])]
def weh {T:Tab} (hT:za Go.Proofs.Tryz.prog T):= @acT T hT 196 Go.Proofs.Tryz.f196 50 [.tmp 2, .tmp 3] qdj (by kernel_rfl) (by kernel_rfl) rfl
abbrev qeF:Nat→Option (List Nat):=lvL [(0,[0,1,2]),(1,[0,9,10]),(2,[0,9,20]),(3,[6,7,8]),(4,[6,7,8])]
def ueh {T:Tab} (hT:za Go.Proofs.Tryz.prog T):= @acT T hT 197 Go.Proofs.Tryz.f197 28 [.tmp 6, .tmp 7, .tmp 8] qeF (by kernel_rfl) (by kernel_rfl) rfl
abbrev jdj:Nat→Option (List Nat):=lvL [(0,[0,2]),(1,[0,2,3]),(2,[0,2,3,9]),(3,[2,3]),(4,[2,11,12,13]),(5,[2,11,12,13,14]),(6,[2,5,11,12,13]),(7,[2,11,12,13]),(8,[2,11,12,13,21]),(9,[2,3]),(10,[2,11,12,13]),(11,[2,3])]
def geh {T:Tab} (hT:za Go.Proofs.Tryz.prog T):= @acT T hT 198 Go.Proofs.Tryz.f198 24 [.tmp 2, .tmp 3] jdj (by kernel_rfl) (by kernel_rfl) rfl
abbrev jcC:Nat→Option (List Nat):=lvL [(0,[0,1]),(1,[0,1,7,8]),(2,[0,1,7,8,9]),(3,[0,1,5,7,8]),(4,[0,1,5,7,8,16]),(5,[4]),(6,[0,1,7,8]),(7,[4])]
def xc8 {T:Tab} (hT:za Go.Proofs.Tryz.prog T):= @acT T hT 199 Go.Proofs.Tryz.f199 19 [.tmp 4] jcC (by kernel_rfl) (by kernel_rfl) rfl
abbrev jeF:Nat→Option (List Nat):=lvL [(0,[1,2]),(1,[2])]
def beh {T:Tab} (hT:za Go.Proofs.Tryz.prog T):= @acT T hT 200 Go.Proofs.Tryz.f200 11 [.cell 2 239] jeF (by kernel_rfl) (by kernel_rfl) rfl
abbrev keF:Nat→Option (List Nat):=lvL [(0,[0]),(1,[2])]
def zei {T:Tab} (hT:za Go.Proofs.Tryz.prog T):= @acT T hT 201 Go.Proofs.Tryz.f201 9 [.tmp 2] keF (by kernel_rfl) (by kernel_rfl) rfl
abbrev veF:Nat→Option (List Nat):=lvL [(0,[0]),(1,[0,9]),(2,[2,3]),(3,[2,3])]
def bcq {T:Tab} (hT:za Go.Proofs.Tryz.prog T):= @acT T hT 202 Go.Proofs.Tryz.f202 13 [.tmp 2, .tmp 3] veF (by kernel_rfl) (by kernel_rfl) rfl
abbrev weF:Nat→Option (List Nat):=lvL [(0,[1]),(1,[2])]
def yei {T:Tab} (hT:za Go.Proofs.Tryz.prog T):= @acT T hT 203 Go.Proofs.Tryz.f203 6 [.tmp 2] weF (by kernel_rfl) (by kernel_rfl) rfl
abbrev ueF:Nat→Option (List Nat):=lvL [(0,[1]),(1,[2])]
def xei {T:Tab} (hT:za Go.Proofs.Tryz.prog T):= @acT T hT 204 Go.Proofs.Tryz.f204 13 [.tmp 2] ueF (by kernel_rfl) (by kernel_rfl) rfl
abbrev geF:Nat→Option (List Nat):=lvL [(0,[0,1]),(1,[4])]
def qei {T:Tab} (hT:za Go.Proofs.Tryz.prog T):= @acT T hT 205 Go.Proofs.Tryz.f205 9 [.tmp 4] geF (by kernel_rfl) (by kernel_rfl) rfl
abbrev kdj:Nat→Option (List Nat):=lvL [(0,[0]),(1,[0,7]),(2,[0]),(3,[0,3]),(4,[0,3,4]),(5,[0,3,4,15]),(6,[0,3,4]),(7,[0,3,4]),(8,[2])]
def jei {T:Tab} (hT:za Go.Proofs.Tryz.prog T):= @acT T hT 206 Go.Proofs.Tryz.f206 25 [.tmp 2] kdj (by kernel_rfl) (by kernel_rfl) rfl
abbrev beF:Nat→Option (List Nat):=lvL [(0,[0,1]),(1,[4])]
def kei {T:Tab} (hT:za Go.Proofs.Tryz.prog T):= @acT T hT 207 Go.Proofs.Tryz.f207 9 [.tmp 4] beF (by kernel_rfl) (by kernel_rfl) rfl
abbrev zeG:Nat→Option (List Nat):=lvL [(0,[1,2]),(1,[3])]
def vei {T:Tab} (hT:za Go.Proofs.Tryz.prog T):= @acT T hT 208 Go.Proofs.Tryz.f208 8 [.tmp 3] zeG (by kernel_rfl) (by kernel_rfl) rfl
abbrev yeG:Nat→Option (List Nat):=lvL [(0,[1,2]),(1,[1,2]),(2,[2])]
def wei {T:Tab} (hT:za Go.Proofs.Tryz.prog T):= @acT T hT 209 Go.Proofs.Tryz.f209 8 [.cell 2 86] yeG (by kernel_rfl) (by kernel_rfl) rfl
abbrev vdj:Nat→Option (List Nat):=lvL [(0,[0,1]),(1,[0,1,10]),(2,[4]),(3,[0,1,12,13]),(4,[0,1,12,13,14]),(5,[0,1,5,12,13]),(6,[0,1,12,13,24]),(7,[4]),(8,[0,1,12,13]),(9,[4])]
@[go_sem] def xcO:List Nat:=[0,0,3,7,0,0,48,112,255]
def uei {T:Tab} (hT:za Go.Proofs.Tryz.prog T):= @acT T hT 210 Go.Proofs.Tryz.f210 26 [.tmp 4] vdj (by kernel_rfl) (by kernel_rfl) rfl
abbrev wdj:Nat→Option (List Nat):=lvL [(0,[0]),(1,[0,9]),(2,[2,3]),(3,[0,4]),(4,[4,10,11,12]),(5,[4,10,11,12,13]),(6,[4,6,10,11,12]),(7,[4,6,10,11,12,19]),(8,[2,3]),(9,[4,10,11,12]),(10,[4,10,11,12]),(11,[2,3])]
def gei {T:Tab} (hT:za Go.Proofs.Tryz.prog T):= @acT T hT 211 Go.Proofs.Tryz.f211 25 [.tmp 2, .tmp 3] wdj (by kernel_rfl) (by kernel_rfl) rfl
abbrev xeG:Nat→Option (List Nat):=lvL [(0,[1]),(1,[45]),(2,[2]),(3,[2])]
def bei {T:Tab} (hT:za Go.Proofs.Tryz.prog T):= @acT T hT 212 Go.Proofs.Tryz.f212 46 [.tmp 2] xeG (by kernel_rfl) (by kernel_rfl) rfl
abbrev qeG:Nat→Option (List Nat):=lvL [(0,[0]),(1,[0,4]),(2,[2]),(3,[0,9]),(4,[2]),(5,[0,15]),(6,[2]),(7,[2])]
def zej {T:Tab} (hT:za Go.Proofs.Tryz.prog T):= @acT T hT 213 Go.Proofs.Tryz.f213 24 [.tmp 2] qeG (by kernel_rfl) (by kernel_rfl) rfl
abbrev udj:Nat→Option (List Nat):=lvL [(0,[0,1]),(1,[0,5,6]),(2,[0,5,6,7]),(3,[0,5,6]),(4,[0,5,6]),(5,[4])]
def yej {T:Tab} (hT:za Go.Proofs.Tryz.prog T):= @acT T hT 214 Go.Proofs.Tryz.f214 14 [.tmp 4] udj (by kernel_rfl) (by kernel_rfl) rfl
abbrev gdj:Nat→Option (List Nat):=lvL [(0,[0,1,2]),(1,[0,1,2,8]),(2,[0,1,2,8,9,10]),(3,[0,1,2,8,9,10,17]),(4,[0,1,2,8,9,10,11]),(5,[0,1,2,8,9,10,11,31]),(6,[0,1,2,8,9,10]),(7,[0,1,2,8,9,10]),(8,[6,7])]
def xej {T:Tab} (hT:za Go.Proofs.Tryz.prog T):= @acT T hT 215 Go.Proofs.Tryz.f215 49 [.tmp 6, .tmp 7] gdj (by kernel_rfl) (by kernel_rfl) rfl
abbrev jeG:Nat→Option (List Nat):=lvL [(0,[1,2,3,6]),(1,[6,7,8])]
def qej {T:Tab} (hT:za Go.Proofs.Tryz.prog T):= @acT T hT 218 Go.Proofs.Tryz.f218 17 [.cell 6 43, .tmp 7, .tmp 8] jeG (by kernel_rfl) (by kernel_rfl) rfl
abbrev kcC:Nat→Option (List Nat):=lvL [(0,[0]),(1,[0,16]),(2,[2,3]),(3,[0,4,5]),(4,[0,4,5,18,19,20]),(5,[0,4,5,18,19,20,21]),(6,[0,4,5,6,7,18,19,20]),(7,[0,4,5,6,7,8,9,18,19,20]),(8,[0,4,5,6,7,8,18,19,20,46]),(9,[2,3]),(10,[0,4,5,6,7,9,18,19,20]),(11,[0,4,5,6,7,18,19,20,55]),(12,[2,3]),(13,[0,4,5,6,18,19,20,57,58,59]),(14,[0,4,5,6,18,19,20,57,58,59,60]),(15,[0,4,5,6,11,18,19,20,57,58,59]),(16,[0,4,5,6,11,13,18,19,20,57,58,59]),(17,[0,4,5,6,11,18,19,20,57,58,59,70]),(18,[2,3]),(19,[0,4,5,6,18,19,20,57,58,59]),(20,[0,4,5,6,18,19,20,57,58,59]),(21,[0,4,5,18,19,20]),(22,[2,3])]
@[go_sem] def qcO:List Nat:=[0,1,3,7,15,31,63,63,191,511,1023,63,2111,8191,16383,32767,65535]
def jej {T:Tab} (hT:za Go.Proofs.Tryz.prog T):= @acT T hT 219 Go.Proofs.Tryz.f219 78 [.tmp 2, .tmp 3] kcC (by kernel_rfl) (by kernel_rfl) rfl
abbrev keG:Nat→Option (List Nat):=lvL [(0,[1,2]),(1,[4])]
def kej {T:Tab} (hT:za Go.Proofs.Tryz.prog T):= @acT T hT 220 Go.Proofs.Tryz.f220 9 [.tmp 4] keG (by kernel_rfl) (by kernel_rfl) rfl
abbrev veG:Nat→Option (List Nat):=lvL [(0,[0]),(1,[2])]
def vej {T:Tab} (hT:za Go.Proofs.Tryz.prog T):= @acT T hT 221 Go.Proofs.Tryz.f221 11 [.tmp 2] veG (by kernel_rfl) (by kernel_rfl) rfl
abbrev weG:Nat→Option (List Nat):=lvL [(0,[1]),(1,[2])]
def wej {T:Tab} (hT:za Go.Proofs.Tryz.prog T):= @acT T hT 222 Go.Proofs.Tryz.f222 4 [.tmp 2] weG (by kernel_rfl) (by kernel_rfl) rfl
abbrev ueG:Nat→Option (List Nat):=lvL [(0,[0]),(1,[2])]
def uej {T:Tab} (hT:za Go.Proofs.Tryz.prog T):= @acT T hT 223 Go.Proofs.Tryz.f223 9 [.tmp 2] ueG (by kernel_rfl) (by kernel_rfl) rfl
abbrev bdj:Nat→Option (List Nat):=lvL [(0,[0]),(1,[0,7]),(2,[2]),(3,[0,8,9,10]),(4,[0,8,9,10,11]),(5,[0,3,4,8,9,10]),(6,[0,8,9,10,32]),(7,[2]),(8,[0,8,9,10]),(9,[2])]
@[go_sem] def jcO:List Nat:=[0,1,3,7,15,31,63,127,127,383,1023,2047,127,4223,16383,32767,65535,131071]
def gej {T:Tab} (hT:za Go.Proofs.Tryz.prog T):= @acT T hT 224 Go.Proofs.Tryz.f224 34 [.tmp 2] bdj (by kernel_rfl) (by kernel_rfl) rfl
abbrev geG:Nat→Option (List Nat):=lvL [(0,[0,1]),(1,[0,1,5]),(2,[0,1,5,6]),(3,[0,1,6,11]),(4,[12]),(5,[4]),(6,[4]),(7,[0,1,13]),(8,[4]),(9,[0,1,16]),(10,[4]),(11,[19]),(12,[4]),(13,[4])]
def bej {T:Tab} (hT:za Go.Proofs.Tryz.prog T):= @acT T hT 225 Go.Proofs.Tryz.f225 20 [.tmp 4] geG (by kernel_rfl) (by kernel_rfl) rfl
abbrev zdk:Nat→Option (List Nat):=lvL [(0,[0]),(1,[0,3]),(2,[3,6,7,8]),(3,[3,6,7,8,9]),(4,[3,5,6,7,8]),(5,[3,5,6,7,8,14]),(6,[2]),(7,[3,6,7,8]),(8,[2])]
def zek {T:Tab} (hT:za Go.Proofs.Tryz.prog T):= @acT T hT 226 Go.Proofs.Tryz.f226 18 [.tmp 2] zdk (by kernel_rfl) (by kernel_rfl) rfl
abbrev ydk:Nat→Option (List Nat):=lvL [(0,[1]),(1,[1,32]),(2,[2]),(3,[1,34,35,36]),(4,[1,34,35,36,37]),(5,[1,3,4,34,35,36]),(6,[1,34,35,36,59]),(7,[2]),(8,[1,34,35,36]),(9,[1,5,6]),(10,[1,5,75]),(11,[2]),(12,[8]),(13,[87]),(14,[2]),(15,[2])]
@[go_sem] def kcO:List Nat:=[0,1,3,7,15,31,63,127,255,127,639,2047,4095,8191,127,16511,65535,131071,262143]
def yek {T:Tab} (hT:za Go.Proofs.Tryz.prog T):= @acT T hT 227 Go.Proofs.Tryz.f227 88 [.tmp 2] ydk (by kernel_rfl) (by kernel_rfl) rfl
abbrev vcC:Nat→Option (List Nat):=lvL [(0,[0,1]),(1,[1,9,10,11]),(2,[1,9,10,11,12]),(3,[1,5,6,9,10,11]),(4,[1,5,9,10,11,17,18,19]),(5,[1,5,9,10,11,17,18,19,20]),(6,[1,5,8,9,10,11,17,18,19]),(7,[1,5,9,10,11,17,18,19,26]),(8,[4]),(9,[1,5,9,10,11,17,18,19]),(10,[1,9,10,11]),(11,[4])]
def xek {T:Tab} (hT:za Go.Proofs.Tryz.prog T):= @acT T hT 228 Go.Proofs.Tryz.f228 30 [.tmp 4] vcC (by kernel_rfl) (by kernel_rfl) rfl
abbrev xdk:Nat→Option (List Nat):=lvL [(0,[0]),(1,[0,4]),(2,[4,11,12,13]),(3,[4,11,12,13,14]),(4,[4,6,11,12,13]),(5,[4,7,11,12,13]),(6,[9,10,11,12,13]),(7,[9,11,12,13,30]),(8,[2,3]),(9,[4,11,12,13]),(10,[4,11,12,13]),(11,[2,3])]
def qek {T:Tab} (hT:za Go.Proofs.Tryz.prog T):= @acT T hT 229 Go.Proofs.Tryz.f229 34 [.tmp 2, .tmp 3] xdk (by kernel_rfl) (by kernel_rfl) rfl
abbrev beG:Nat→Option (List Nat):=lvL [(0,[1]),(1,[2])]
def jek {T:Tab} (hT:za Go.Proofs.Tryz.prog T):= @acT T hT 230 Go.Proofs.Tryz.f230 23 [.tmp 2] beG (by kernel_rfl) (by kernel_rfl) rfl
abbrev wcC:Nat→Option (List Nat):=lvL [(0,[0,1,5]),(1,[1,5,11,12,13]),(2,[1,5,11,12,13,14]),(3,[1,5,8,11,12,13]),(4,[1,5,8,11,12,13,18,19,20]),(5,[1,5,8,11,12,13,18,19,20,21]),(6,[1,5,8,10,11,12,13,18,19,20]),(7,[1,5,8,11,12,13,18,19,20,32]),(8,[6]),(9,[1,5,8,11,12,13,18,19,20]),(10,[1,5,11,12,13]),(11,[6])]
def kek {T:Tab} (hT:za Go.Proofs.Tryz.prog T):= @acT T hT 231 Go.Proofs.Tryz.f231 35 [.tmp 6] wcC (by kernel_rfl) (by kernel_rfl) rfl
abbrev qdk:Nat→Option (List Nat):=lvL [(0,[0,1,2]),(1,[0,1,2,14]),(2,[6]),(3,[1,2,15,16,17]),(4,[1,2,15,16,17,18]),(5,[1,2,7,8,15,16,17]),(6,[1,2,8,9,15,16,17]),(7,[1,2,15,16,17,30]),(8,[6]),(9,[1,2,15,16,17]),(10,[6])]
def vek {T:Tab} (hT:za Go.Proofs.Tryz.prog T):= @acT T hT 232 Go.Proofs.Tryz.f232 32 [.tmp 6] qdk (by kernel_rfl) (by kernel_rfl) rfl
abbrev zeH:Nat→Option (List Nat):=lvL [(0,[2,3]),(1,[4])]
def wek {T:Tab} (hT:za Go.Proofs.Tryz.prog T):= @acT T hT 233 Go.Proofs.Tryz.f233 52 [.tmp 4] zeH (by kernel_rfl) (by kernel_rfl) rfl
abbrev yeH:Nat→Option (List Nat):=lvL [(0,[0,1]),(1,[0,1,5]),(2,[0,1,5,6]),(3,[0,1,6,11]),(4,[12]),(5,[4]),(6,[4]),(7,[0,1,13]),(8,[4]),(9,[0,1,16]),(10,[4]),(11,[19]),(12,[4]),(13,[4])]
def uek {T:Tab} (hT:za Go.Proofs.Tryz.prog T):= @acT T hT 234 Go.Proofs.Tryz.f234 20 [.tmp 4] yeH (by kernel_rfl) (by kernel_rfl) rfl
abbrev jdk:Nat→Option (List Nat):=lvL [(0,[0,1,2]),(1,[0,1,2,14]),(2,[6]),(3,[1,2,15,16,17]),(4,[1,2,15,16,17,18]),(5,[1,2,7,8,15,16,17]),(6,[1,2,8,9,15,16,17]),(7,[1,2,15,16,17,30]),(8,[6]),(9,[1,2,15,16,17]),(10,[6])]
def gek {T:Tab} (hT:za Go.Proofs.Tryz.prog T):= @acT T hT 235 Go.Proofs.Tryz.f235 32 [.tmp 6] jdk (by kernel_rfl) (by kernel_rfl) rfl
abbrev xeH:Nat→Option (List Nat):=lvL [(0,[2,3]),(1,[4])]
def bek {T:Tab} (hT:za Go.Proofs.Tryz.prog T):= @acT T hT 236 Go.Proofs.Tryz.f236 8 [.tmp 4] xeH (by kernel_rfl) (by kernel_rfl) rfl
abbrev kdk:Nat→Option (List Nat):=lvL [(0,[0,1]),(1,[0,1,10]),(2,[4]),(3,[0,1,12,13]),(4,[0,1,12,13,14]),(5,[0,1,5,12,13]),(6,[0,1,12,13,24]),(7,[4]),(8,[0,1,12,13]),(9,[4])]
@[go_sem] def vcO:List Nat:=[0,0,3,7,0,0,48,112,255]
def zel {T:Tab} (hT:za Go.Proofs.Tryz.prog T):= @acT T hT 237 Go.Proofs.Tryz.f237 26 [.tmp 4] kdk (by kernel_rfl) (by kernel_rfl) rfl
abbrev vdk:Nat→Option (List Nat):=lvL [(0,[0,1]),(1,[0,1,10]),(2,[4]),(3,[0,1,12,13]),(4,[0,1,12,13,14]),(5,[0,1,5,12,13]),(6,[0,1,12,13,24]),(7,[4]),(8,[0,1,12,13]),(9,[4])]
@[go_sem] def wcO:List Nat:=[0,0,3,7,0,0,48,112,255]
def yel {T:Tab} (hT:za Go.Proofs.Tryz.prog T):= @acT T hT 238 Go.Proofs.Tryz.f238 26 [.tmp 4] vdk (by kernel_rfl) (by kernel_rfl) rfl
abbrev qeH:Nat→Option (List Nat):=lvL [(0,[0,1]),(1,[4])]
def xel {T:Tab} (hT:za Go.Proofs.Tryz.prog T):= @acT T hT 239 Go.Proofs.Tryz.f239 10 [.tmp 4] qeH (by kernel_rfl) (by kernel_rfl) rfl
abbrev wdk:Nat→Option (List Nat):=lvL [(0,[0,1]),(1,[0,1,7,8]),(2,[0,1,7,8,9]),(3,[0,1,5,7,8]),(4,[0,1,5,7,8,16]),(5,[4]),(6,[0,1,7,8]),(7,[4])]
def qel {T:Tab} (hT:za Go.Proofs.Tryz.prog T):= @acT T hT 240 Go.Proofs.Tryz.f240 19 [.tmp 4] wdk (by kernel_rfl) (by kernel_rfl) rfl
abbrev udk:Nat→Option (List Nat):=lvL [(0,[0,1]),(1,[0,1,7,8]),(2,[0,1,7,8,9]),(3,[0,1,5,7,8]),(4,[0,1,5,7,8,16]),(5,[4]),(6,[0,1,7,8]),(7,[4])]
def jel {T:Tab} (hT:za Go.Proofs.Tryz.prog T):= @acT T hT 241 Go.Proofs.Tryz.f241 19 [.tmp 4] udk (by kernel_rfl) (by kernel_rfl) rfl
abbrev gdk:Nat→Option (List Nat):=lvL [(0,[0,2,4]),(1,[0,2,4,8]),(2,[0,2,4,8,9,10]),(3,[0,2,4,8,9,10,17]),(4,[0,2,4,8,9,10,11]),(5,[0,2,4,8,9,10,11,31]),(6,[0,2,4,8,9,10]),(7,[0,2,4,8,9,10]),(8,[6,7])]
@[go_sem] def ucO:List Nat:=[0,0,0,6,14,0,63,127]
@[go_sem] def gcO:List Nat:=[0,0,0,6,14,30,30,30,222,478,30,2046,4094,8190,4095,32767]
def kel {T:Tab} (hT:za Go.Proofs.Tryz.prog T):= @acT T hT 242 Go.Proofs.Tryz.f242 49 [.tmp 6, .tmp 7] gdk (by kernel_rfl) (by kernel_rfl) rfl
abbrev bdk:Nat→Option (List Nat):=lvL [(0,[0,1]),(1,[0,1,7,8]),(2,[0,1,7,8,9]),(3,[0,1,5,7,8]),(4,[0,1,5,7,8,16]),(5,[4]),(6,[0,1,7,8]),(7,[4])]
def vel {T:Tab} (hT:za Go.Proofs.Tryz.prog T):= @acT T hT 243 Go.Proofs.Tryz.f243 19 [.tmp 4] bdk (by kernel_rfl) (by kernel_rfl) rfl
abbrev zdl:Nat→Option (List Nat):=lvL [(0,[0,1]),(1,[0,1,7,8]),(2,[0,1,7,8,9]),(3,[0,1,5,7,8]),(4,[0,1,5,7,8,16]),(5,[4]),(6,[0,1,7,8]),(7,[4])]
def wel {T:Tab} (hT:za Go.Proofs.Tryz.prog T):= @acT T hT 244 Go.Proofs.Tryz.f244 19 [.tmp 4] zdl (by kernel_rfl) (by kernel_rfl) rfl
abbrev jeH:Nat→Option (List Nat):=lvL [(0,[0,1]),(1,[0,1,6]),(2,[4]),(3,[4])]
def qc8 {T:Tab} (hT:za Go.Proofs.Tryz.prog T):= @acT T hT 245 Go.Proofs.Tryz.f245 17 [.tmp 4] jeH (by kernel_rfl) (by kernel_rfl) rfl
abbrev keH:Nat→Option (List Nat):=lvL [(0,[2,3,4]),(1,[2,3,4,23]),(2,[4,5,6]),(3,[2,3,4,28]),(4,[4,5,6]),(5,[2,3,4]),(6,[2,3,4,7]),(7,[2,3,4,7,37]),(8,[4,5,6]),(9,[2,3,4,43]),(10,[4,5,6]),(11,[2,3,4]),(12,[2,4]),(13,[4,5,6])]
@[go_sem] def kch:List Nat:=[0,0,2,6,14,1,63,127]
def uel {T:Tab} (hT:za Go.Proofs.Tryz.prog T):= @acT T hT 247 Go.Proofs.Tryz.f247 60 [.cell 4 43, .tmp 5, .tmp 6] keH (by kernel_rfl) (by kernel_rfl) rfl
abbrev veH:Nat→Option (List Nat):=lvL [(0,[1]),(1,[5,6]),(2,[2,3])]
def gel {T:Tab} (hT:za Go.Proofs.Tryz.prog T):= @acT T hT 248 Go.Proofs.Tryz.f248 15 [.tmp 2, .tmp 3] veH (by kernel_rfl) (by kernel_rfl) rfl
abbrev weH:Nat→Option (List Nat):=lvL [(0,[1,2]),(1,[4])]
def zem {T:Tab} (hT:za Go.Proofs.Tryz.prog T):= @acT T hT 249 Go.Proofs.Tryz.f249 9 [.tmp 4] weH (by kernel_rfl) (by kernel_rfl) rfl
abbrev ueH:Nat→Option (List Nat):=lvL [(0,[1]),(1,[2])]
def yem {T:Tab} (hT:za Go.Proofs.Tryz.prog T):= @acT T hT 251 Go.Proofs.Tryz.f251 23 [.tmp 2] ueH (by kernel_rfl) (by kernel_rfl) rfl
abbrev geH:Nat→Option (List Nat):=lvL [(0,[1,2]),(1,[4])]
def xem {T:Tab} (hT:za Go.Proofs.Tryz.prog T):= @acT T hT 252 Go.Proofs.Tryz.f252 9 [.tmp 4] geH (by kernel_rfl) (by kernel_rfl) rfl
abbrev beH:Nat→Option (List Nat):=lvL [(0,[0]),(1,[2])]
def qem {T:Tab} (hT:za Go.Proofs.Tryz.prog T):= @acT T hT 253 Go.Proofs.Tryz.f253 6 [.tmp 2] beH (by kernel_rfl) (by kernel_rfl) rfl
abbrev ydl:Nat→Option (List Nat):=lvL [(0,[0]),(1,[0,3]),(2,[3,6,7,8]),(3,[3,6,7,8,9]),(4,[3,5,6,7,8]),(5,[3,6,7,8]),(6,[3,6,7,8]),(7,[2])]
def jem {T:Tab} (hT:za Go.Proofs.Tryz.prog T):= @acT T hT 254 Go.Proofs.Tryz.f254 19 [.tmp 2] ydl (by kernel_rfl) (by kernel_rfl) rfl
abbrev zeI:Nat→Option (List Nat):=lvL [(0,[1]),(1,[1,4,5]),(2,[1,4,5,12]),(3,[2,3]),(4,[2,3])]
def kem {T:Tab} (hT:za Go.Proofs.Tryz.prog T):= @acT T hT 255 Go.Proofs.Tryz.f255 23 [.tmp 2, .tmp 3] zeI (by kernel_rfl) (by kernel_rfl) rfl
abbrev xdl:Nat→Option (List Nat):=lvL [(0,[0,1]),(1,[0,1,10]),(2,[4]),(3,[0,1,12,13]),(4,[0,1,12,13,14]),(5,[0,1,5,12,13]),(6,[0,1,12,13,24]),(7,[4]),(8,[0,1,12,13]),(9,[4])]
@[go_sem] def bcO:List Nat:=[0,0,3,7,0,0,48,112,255]
def vem {T:Tab} (hT:za Go.Proofs.Tryz.prog T):= @acT T hT 256 Go.Proofs.Tryz.f256 26 [.tmp 4] xdl (by kernel_rfl) (by kernel_rfl) rfl
abbrev yeI:Nat→Option (List Nat):=lvL [(0,[0]),(1,[2])]
def wem {T:Tab} (hT:za Go.Proofs.Tryz.prog T):= @acT T hT 257 Go.Proofs.Tryz.f257 6 [.tmp 2] yeI (by kernel_rfl) (by kernel_rfl) rfl
abbrev qdl:Nat→Option (List Nat):=lvL [(0,[1,2]),(1,[1,2,30]),(2,[2,3,4]),(3,[1,2,32,33,34]),(4,[1,2,32,33,34,35]),(5,[1,2,5,6,32,33,34]),(6,[1,2,6,32,33,34,57]),(7,[2,3,4]),(8,[1,2,4,32,33,34]),(9,[1,2,32,33,34,73]),(10,[2,3,4]),(11,[1,2,32,33,34]),(12,[2,3,4]),(13,[2,3,86]),(14,[2,3,4]),(15,[2,3,4])]
@[go_sem] def zcP:List Nat:=[0,1,3,7,15,31,63,127,255,127,639,2047,4095,127,8319,32767,65535,131071,262143]
def uem {T:Tab} (hT:za Go.Proofs.Tryz.prog T):= @acT T hT 259 Go.Proofs.Tryz.f259 89 [.tmp 2, .tmp 3, .tmp 4] qdl (by kernel_rfl) (by kernel_rfl) rfl
abbrev xeI:Nat→Option (List Nat):=lvL [(0,[1]),(1,[1,6]),(2,[2,3]),(3,[2,3])]
def gem {T:Tab} (hT:za Go.Proofs.Tryz.prog T):= @acT T hT 260 Go.Proofs.Tryz.f260 13 [.tmp 2, .tmp 3] xeI (by kernel_rfl) (by kernel_rfl) rfl
abbrev qeI:Nat→Option (List Nat):=lvL [(0,[1,2]),(1,[4])]
def bem {T:Tab} (hT:za Go.Proofs.Tryz.prog T):= @acT T hT 261 Go.Proofs.Tryz.f261 9 [.tmp 4] qeI (by kernel_rfl) (by kernel_rfl) rfl
end Dm
namespace Dm
open Go
section
variable {κ:Type} [DecidableEq κ]
def alk (a:κ):List (κ×Int)→Option Int
 |[]=>none
 |(x,y)::l=>if x=a then some y else alk a l
def xbA (a:κ) (b:Int):List (κ×Int)→List (κ×Int)
 |[]=>[(a,b)]
 |(x,y)::l=>if x=a then(x,b)::l else(x,y)::xbA a b l
theorem xbc {a k:κ} {b:Int}:∀{l:List (κ×Int)},alk k (xbA a b l)=if k=a then some b else alk k l
 |[]=>by
  simp only [xbA,alk]
  by_cases h:a=k
  ·rw [if_pos h,if_pos h.symm]
  ·rw [if_neg h,if_neg (fun e=>h e.symm)]
 |(x,y)::l=>by
  rw [xbA]
  by_cases hx:x=a
  ·subst hx
   rw [if_pos rfl,alk,alk]
   by_cases h:x=k
   ·rw [if_pos h,if_pos h.symm]
   ·rw [if_neg h,if_neg (fun e=>h e.symm),if_neg h]
  ·rw [if_neg hx,alk,alk,xbc]
   by_cases h:x=k
   ·rw [if_pos h,if_pos h]
    subst h
    rw [if_neg hx]
   ·rw [if_neg h,if_neg h]
end
abbrev K3:=Nat×Nat×Nat
def kv3 (l:List (K3×Int)):List (List C×D):=l.map fun x=>([.int .u64 x.1.1, .int .u64 x.1.2.1, .int .u64 x.1.2.2], .int .i64 x.2)
theorem kbK {a b c:Nat}:∀{l:List (K3×Int)},mlk [.int .u64 (a:Int), .int .u64 (b:Int), .int .u64 (c:Int)] (kv3 l)=(alk (a,b,c) l).map fun b=> .int .i64 b
 |[]=>rfl
 |((x,y,z),v)::l=>by
  show mlk _ (([.int .u64 (x:Int), .int .u64 (y:Int), .int .u64 (z:Int)],_)::kv3 l)=_
  rw [mlk,alk]
  by_cases h:(x,y,z)=(a,b,c)
  ·rw [if_pos h];cases h;rw [if_pos rfl];rfl
  ·rw [if_neg h,if_neg,kbK]
   intro e
   simp only [List.cons.injEq,C.int.injEq,true_and,and_true,Int.natCast_inj]at e
   exact h (by rw [e.1,e.2.1,e.2.2])
attribute [go_sem] kbK
theorem vbg {a b c:Nat} {v:Int}:∀{l:List (K3×Int)},xak [.int .u64 (a:Int), .int .u64 (b:Int), .int .u64 (c:Int)] (.int .i64 v) (kv3 l)=kv3 (xbA (a,b,c) v l)
 |[]=>rfl
 |((x,y,z),u)::l=>by
  show xak _ _ (([.int .u64 (x:Int), .int .u64 (y:Int), .int .u64 (z:Int)],_)::kv3 l)=_
  rw [xak,xbA]
  by_cases h:(x,y,z)=(a,b,c)
  ·rw [if_pos h];cases h;rw [if_pos rfl];rfl
  ·rw [if_neg h,if_neg,vbg]
   ·rfl
   ·intro e
    simp only [List.cons.injEq,C.int.injEq,true_and,and_true,Int.natCast_inj]at e
    exact h (by rw [e.1,e.2.1,e.2.2])
attribute [go_sem] vbg
@[go_sem] theorem kep {N:Nat} {l:List (K3×Int)}:ucm N (kv3 l)=true:=by
 simp [ucm,kv3,D.vbZ,D.gbB,D.ybY]
@[go_sem] theorem gdO:∀{l:List (K3×Int)},(kv3 l).map (·.2)=l.map fun x=>D.int .i64 x.2:=by
 intro l;simp [kv3]
@[go_sem] theorem jbK {α:Type} {k:IntKind} {f:α→Int}:∀{l:List α},wj (l.map fun x=>D.int k (f x))=[]
 |[]=>rfl
 |x::l=>by
  rw [List.map_cons,wj,jbK];rfl
@[go_sem] theorem va1 {key:List C} {k:IntKind} {n:Int}:∀{kv:List (List C×D)},wj ((qp key (.int k n) kv).map (·.2))=wj (kv.map (·.2))
 |[]=>rfl
 |(k',d)::l=>by
  rw [qp]
  split
  ·rfl
  ·rw [List.map_cons,List.map_cons,wj,wj,va1]
attribute [go_sem] uaM
@[go_sem] theorem beI {k:List C} {kv:List (List C×D)}:(0≤((mpos k kv:Nat):Int))=True:=eq_true (by omega)
@[go_sem] theorem geI {k:List C} {z:D} {kv:List (List C×D)}:(((mpos k kv:Nat):Int)<(((qp k z kv).length:Nat):Int))=True:=eq_true (by have:=ubK (k:=k) (z:=z) (kv:=kv);omega)
@[go_sem] theorem qew {o:Option Int}:(o.map fun b=>D.int .i64 b).getD (.int .i64 0)= .int .i64 (o.getD 0):=by cases o<;>rfl
@[go_sem] theorem wdX {P:Program} {s:St}:rdD P s []=some (.tup []):=rfl
@[go_sem] theorem kfz {P:Program} {s:St} {r r' r'' r3:ResultVar}:rdD P s [r,r',r'',r3]=match rd1 P s r,rd1 P s r',rd1 P s r'',rd1 P s r3 with|some x,some y,some z,some u=>some (.tup [x,y,z,u])|_,_,_,_=>none:=by
 unfold rdD rds rds rds rds rds
 cases rd1 P s r<;>cases rd1 P s r'<;>cases rd1 P s r''<;>cases rd1 P s r3<;>rfl
theorem gb8 {o:Option Int} {d:Option Nat} {s:St} {K:St→Prop}:okL (some (o.map fun b=>D.int .i64 b,D.int .i64 0)) false d s K=K (s.put d (.int .i64 (o.getD 0))):=by
 cases o<;>rfl
end Dm
namespace Dm
open Go
abbrev NK:=Nat×Int×List UInt8
abbrev nkt:List KK:=[.int .u64, .int .i64, .str]
def kvM (l:List (NK×Int)):List (List C×D):=l.map fun x=>([.int .u64 x.1.1, .int .i64 x.1.2.1, .str (jaH x.1.2.2)], .int .i64 x.2)
def bcA (l:List (NK×Int)):List (List C×List C):=l.map fun x=>([.int .u64 x.1.1, .int .i64 x.1.2.1, .str (jaH x.1.2.2)],[.int .i64 x.2])
@[go_sem] theorem bdN {l:List (NK×Int)}:kvD (bcA l)=kvM l:=by simp [kvD,bcA,kvM,dOf]
@[go_sem] theorem gbI:∀{l:List (NK×Int)},kvC (kvM l)=some (bcA l)
 |[]=>rfl
 |((a,b,c),v)::l=>by
  show kvC (([.int .u64 (a:Int), .int .i64 b, .str (jaH c)],D.int .i64 v)::kvM l)=_
  rw [kvC,gbI]
  rfl
theorem ua1 {a:Nat} {b:Int} {c:List UInt8}:∀{l:List (NK×Int)},mlk [.int .u64 (a:Int), .int .i64 b, .str (jaH c)] (kvM l)=(alk (a,b,c) l).map fun b=> .int .i64 b
 |[]=>rfl
 |((x,y,z),v)::l=>by
  show mlk _ (([.int .u64 (x:Int), .int .i64 y, .str (jaH z)],_)::kvM l)=_
  rw [mlk,alk]
  by_cases h:(x,y,z)=(a,b,c)
  ·rw [if_pos h];cases h;rw [if_pos rfl];rfl
  ·rw [if_neg h,if_neg,ua1]
   intro e
   simp only [List.cons.injEq,C.int.injEq,C.str.injEq,vbc,true_and,and_true,Int.natCast_inj]at e
   exact h (by rw [e.1,e.2.1,e.2.2])
attribute [go_sem] ua1
@[go_sem] theorem kdP {b:Int} {c:List UInt8} {l:List (NK×Int)}:mlk [.int .u64 0, .int .i64 b, .str (jaH c)] (kvM l)=(alk (0,b,c) l).map fun b=> .int .i64 b:=ua1 (a:=0)
theorem wbg {a:Nat} {b:Int} {c:List UInt8} {v:Int}:∀{l:List (NK×Int)},xak [.int .u64 (a:Int), .int .i64 b, .str (jaH c)] (.int .i64 v) (kvM l)=kvM (xbA (a,b,c) v l)
 |[]=>rfl
 |((x,y,z),u)::l=>by
  show xak _ _ (([.int .u64 (x:Int), .int .i64 y, .str (jaH z)],_)::kvM l)=_
  rw [xak,xbA]
  by_cases h:(x,y,z)=(a,b,c)
  ·rw [if_pos h];cases h;rw [if_pos rfl];rfl
  ·rw [if_neg h,if_neg,wbg]
   ·rfl
   ·intro e
    simp only [List.cons.injEq,C.int.injEq,C.str.injEq,vbc,true_and,and_true,Int.natCast_inj]at e
    exact h (by rw [e.1,e.2.1,e.2.2])
attribute [go_sem] wbg
@[go_sem] theorem vep {N:Nat} {l:List (NK×Int)}:ucm N (kvM l)=true:=by
 simp [ucm,kvM,D.vbZ,D.gbB,D.ybY]
@[go_sem] theorem bdO {l:List (NK×Int)}:(kvM l).map (·.2)=l.map fun x=>D.int .i64 x.2:=by
 simp [kvM]
def ve (l:List (List UInt8)):List (List C):=l.map fun x=>[.sl (u8s x)]
def bB (l:List (List C)):List (List UInt8):=l.map fun|[.sl x]=>vf x|_=>[]
@[simp,go_sem] theorem kb7 (l:List (List UInt8)):(ve l).length=l.length:=by simp [ve]
@[go_sem] theorem kcY (l:List (List UInt8)) (i:Nat):(ve l).getD i [.sl []]=[.sl (u8s (l.getD i default))]:=by
 simp only [ve,List.getD_eq_getElem?_getD,List.getElem?_map]
 cases l[i]? <;>rfl
@[go_sem] theorem wcB (l:List (List UInt8)):bf 1 (ve l)=True:=by simp [bf,ve]
@[go_sem] theorem qbY (l:List (List UInt8)):bB (ve l)=l:=by
 simp only [bB,ve,List.map_map]
 exact List.map_id'' (fun e=>by simp [jr]) l
@[go_sem] theorem jcY (a b:List (List UInt8)):ve a++ve b=ve (a++b):=by simp [ve]
@[go_sem] theorem kcB (l:List (List UInt8)) (k:Nat):(ve l).drop k=ve (l.drop k):=by simp [ve]
@[go_sem] theorem vcB (l:List (List UInt8)) (k:Nat):(ve l).take k=ve (l.take k):=by simp [ve]
@[go_sem] theorem vcY (b:List UInt8):[[C.sl (u8s b)]]=ve [b]:=rfl
@[go_sem] theorem jcB (b:List UInt8) (l:List (List UInt8)):[C.sl (u8s b)]::ve l=ve (b::l):=rfl
@[go_sem] theorem wcY (l:List (List UInt8)) (i:Nat) (b:List UInt8):(ve l).set i [C.sl (u8s b)]=ve (l.set i b):=by simp [ve,List.map_set]
end Dm
