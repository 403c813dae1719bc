import Derived.Test.YthcioaapafehhaaGreatDoorP3

set_option linter.unusedSimpArgs false
set_option linter.unusedVariables false
set_option linter.unusedSectionVars false
namespace Dm
set_option maxRecDepth 20000
def lvL (l:List (Nat×List Nat)) (i:Nat):Option (List Nat):=lk i l
@[go_sem] theorem xei (l:List (Nat×List Nat)) (i:Nat):lvL l i=lk i l:=rfl
abbrev lv3:Nat→Option (List Nat):=lvL [(0,[0,2,4]),(1,[0,2,4,20]),(2,[6]),(3,[0,2,4,28]),(4,[6]),(5,[0,2,4,7,8,9]),(6,[2,4,7,8,9,10,11,12]),(7,[2,4,7,8,55]),(8,[6]),(9,[2,4,7,56,57,58]),(10,[2,4,7,56,57,58,59]),(11,[2,4,7,13,14,56,57,58]),(12,[2,4,7,13,56,57,58]),(13,[2,4,7,13,15,16,56,57,58]),(14,[2,4,7,15,16,56,57,58]),(15,[2,4,7,15,16,17,18,56,57,58]),(16,[2,4,7,56,57,58,97]),(17,[6]),(18,[2,4,7,56,57,58]),(19,[6])]
theorem ac3 {T:Tab} (hT:za Go.Proofs.Tryz.prog T) {ds:List D} {os:List (Nat×Ob)} {nx:Nat} {Q:D→List (Nat×Ob)→Nat→Prop} (hl:ds.length≤99) (h:awp Go.Proofs.Tryz.prog T 99 nx lv3 (Go.Proofs.Tryz.f3.body.getD .skip) (fin Go.Proofs.Tryz.prog [.tmp 6] Q) ⟨prm 0 ds,os,nx⟩):ga Go.Proofs.Tryz.prog 3 ds os nx Q:=
 ya hT.toS (fn:=Go.Proofs.Tryz.f3) lv3 (by kernel_rfl) rfl rfl (by kernel_rfl) rfl hl rfl h
abbrev lv8:Nat→Option (List Nat):=lvL [(0,[]),(1,[1,2,3]),(2,[1,2,25]),(3,[0]),(4,[1,4,5,6]),(5,[1,5,6]),(6,[1,5,6,7,8]),(7,[1,5,6,7,8,9,10]),(8,[1,5,6,7,8,10]),(9,[6,7,8,10,11,12]),(10,[0])]
@[go_sem] def yd3:List Nat:=[0,1,0,4,12,0,63,127,255,255,255,0,0,6655,15359,32767]
theorem ac8 {T:Tab} (hT:za Go.Proofs.Tryz.prog T) {ds:List D} {os:List (Nat×Ob)} {nx:Nat} {Q:D→List (Nat×Ob)→Nat→Prop} (hl:ds.length≤82) (h:awp Go.Proofs.Tryz.prog T 82 nx lv8 (Go.Proofs.Tryz.f8.body.getD .skip) (fin Go.Proofs.Tryz.prog [.tmp 0] Q) ⟨prm 0 ds,os,nx⟩):ga Go.Proofs.Tryz.prog 8 ds os nx Q:=
 ya hT.toS (fn:=Go.Proofs.Tryz.f8) lv8 (by kernel_rfl) rfl rfl (by kernel_rfl) rfl hl rfl h
abbrev lv9:Nat→Option (List Nat):=lvL [(0,[1]),(1,[2])]
theorem ac9 {T:Tab} (hT:za Go.Proofs.Tryz.prog T) {ds:List D} {os:List (Nat×Ob)} {nx:Nat} {Q:D→List (Nat×Ob)→Nat→Prop} (hl:ds.length≤20) (h:awp Go.Proofs.Tryz.prog T 20 nx lv9 (Go.Proofs.Tryz.f9.body.getD .skip) (fin Go.Proofs.Tryz.prog [.tmp 2] Q) ⟨prm 0 ds,os,nx⟩):ga Go.Proofs.Tryz.prog 9 ds os nx Q:=
 ya hT.toS (fn:=Go.Proofs.Tryz.f9) lv9 (by kernel_rfl) rfl rfl (by kernel_rfl) rfl hl rfl h
abbrev gc9:Nat→Option (List Nat):=lvL [(0,[0,2]),(1,[0,2,5,6]),(2,[2,5,6,17,18,19]),(3,[2,5,6,17,18,19,20]),(4,[2,5,6,7,8,17,18,19]),(5,[2,5,6,7,9,10,11,17,18,19]),(6,[2,5,6,7,9,10,11,17,18,19,35]),(7,[2,3,4]),(8,[2,5,6,17,18,19]),(9,[2,5,6,17,18,19]),(10,[2,3,4])]
@[go_sem] def wcS:List Nat:=[0,1,0,4,12,0,35,127]
@[go_sem] def ucS:List Nat:=[0,0,0,0,4,31,63]
theorem xeq {T:Tab} (hT:za Go.Proofs.Tryz.prog T) {ds:List D} {os:List (Nat×Ob)} {nx:Nat} {Q:D→List (Nat×Ob)→Nat→Prop} (hl:ds.length≤46) (h:awp Go.Proofs.Tryz.prog T 46 nx gc9 (Go.Proofs.Tryz.f10.body.getD .skip) (fin Go.Proofs.Tryz.prog [.cell 2 48, .tmp 3, .tmp 4] Q) ⟨prm 0 ds,os,nx⟩):ga Go.Proofs.Tryz.prog 10 ds os nx Q:=
 ya hT.toS (fn:=Go.Proofs.Tryz.f10) gc9 (by kernel_rfl) rfl rfl (by kernel_rfl) rfl hl rfl h
abbrev bc9:Nat→Option (List Nat):=lvL [(0,[0,2]),(1,[0,2,5]),(2,[0,2,5,6]),(3,[2,5,6,14,15,16]),(4,[2,5,6,14,15,16,17]),(5,[2,5,6,7,8,14,15,16]),(6,[2,5,6,9,10,11,14,15,16]),(7,[2,5,6,9,10,11,14,15,16,32]),(8,[2,3,4]),(9,[2,5,6,10,14,15,16]),(10,[2,5,6,14,15,16]),(11,[2,5,6,14,15,16]),(12,[2,3,4])]
theorem qeq {T:Tab} (hT:za Go.Proofs.Tryz.prog T) {ds:List D} {os:List (Nat×Ob)} {nx:Nat} {Q:D→List (Nat×Ob)→Nat→Prop} (hl:ds.length≤43) (h:awp Go.Proofs.Tryz.prog T 43 nx bc9 (Go.Proofs.Tryz.f11.body.getD .skip) (fin Go.Proofs.Tryz.prog [.cell 2 48, .tmp 3, .tmp 4] Q) ⟨prm 0 ds,os,nx⟩):ga Go.Proofs.Tryz.prog 11 ds os nx Q:=
 ya hT.toS (fn:=Go.Proofs.Tryz.f11) bc9 (by kernel_rfl) rfl rfl (by kernel_rfl) rfl hl rfl h
abbrev uee:Nat→Option (List Nat):=lvL [(0,[2,3]),(1,[4])]
theorem jeq {T:Tab} (hT:za Go.Proofs.Tryz.prog T) {ds:List D} {os:List (Nat×Ob)} {nx:Nat} {Q:D→List (Nat×Ob)→Nat→Prop} (hl:ds.length≤38) (h:awp Go.Proofs.Tryz.prog T 38 nx uee (Go.Proofs.Tryz.f12.body.getD .skip) (fin Go.Proofs.Tryz.prog [.tmp 4] Q) ⟨prm 0 ds,os,nx⟩):ga Go.Proofs.Tryz.prog 12 ds os nx Q:=
 ya hT.toS (fn:=Go.Proofs.Tryz.f12) uee (by kernel_rfl) rfl rfl (by kernel_rfl) rfl hl rfl h
abbrev gdP:Nat→Option (List Nat):=lvL [(0,[0,1]),(1,[0,1,10]),(2,[4]),(3,[0,1,12,13]),(4,[0,1,12,13,14]),(5,[0,1,5,12,13]),(6,[0,1,12,13,25]),(7,[4]),(8,[0,1,12,13]),(9,[4])]
@[go_sem] def gcS:List Nat:=[0,0,3,7,0,0,48,112,255,511]
theorem keq {T:Tab} (hT:za Go.Proofs.Tryz.prog T) {ds:List D} {os:List (Nat×Ob)} {nx:Nat} {Q:D→List (Nat×Ob)→Nat→Prop} (hl:ds.length≤27) (h:awp Go.Proofs.Tryz.prog T 27 nx gdP (Go.Proofs.Tryz.f13.body.getD .skip) (fin Go.Proofs.Tryz.prog [.tmp 4] Q) ⟨prm 0 ds,os,nx⟩):ga Go.Proofs.Tryz.prog 13 ds os nx Q:=
 ya hT.toS (fn:=Go.Proofs.Tryz.f13) gdP (by kernel_rfl) rfl rfl (by kernel_rfl) rfl hl rfl h
abbrev bcn:Nat→Option (List Nat):=lvL [(0,[2,3,4]),(1,[3,4,8,9]),(2,[3,4,8,9,23]),(3,[6,7]),(4,[3,4,8,9,10]),(5,[3,4,8,10,35]),(6,[6,7]),(7,[42,43]),(8,[42,43,44]),(9,[12,42,43]),(10,[13,14,42,43]),(11,[14,42,43,57]),(12,[6,7]),(13,[42,43]),(14,[6,7])]
theorem veq {T:Tab} (hT:za Go.Proofs.Tryz.prog T) {ds:List D} {os:List (Nat×Ob)} {nx:Nat} {Q:D→List (Nat×Ob)→Nat→Prop} (hl:ds.length≤60) (h:awp Go.Proofs.Tryz.prog T 60 nx bcn (Go.Proofs.Tryz.f14.body.getD .skip) (fin Go.Proofs.Tryz.prog [.tmp 6, .tmp 7] Q) ⟨prm 0 ds,os,nx⟩):ga Go.Proofs.Tryz.prog 14 ds os nx Q:=
 ya hT.toS (fn:=Go.Proofs.Tryz.f14) bcn (by kernel_rfl) rfl rfl (by kernel_rfl) rfl hl rfl h
abbrev gee:Nat→Option (List Nat):=lvL [(0,[3,4,5,6,7]),(1,[3,4,5,6,7,9,10]),(2,[3,4,5,6,7,9,17]),(3,[6,7,8]),(4,[3,4,5,6,7,9,32]),(5,[6,7,8]),(6,[3,4,5,6,7,10,11]),(7,[3,4,5,6,7,10,11,49]),(8,[6,7,8]),(9,[3,4,6,7]),(10,[6,7,8])]
@[go_sem] def bcS:List Nat:=[0,1,3,0,8,31,0,63,191,511,1023]
@[go_sem] def zcd:List Nat:=[0,0,1,7,15]
theorem weq {T:Tab} (hT:za Go.Proofs.Tryz.prog T) {ds:List D} {os:List (Nat×Ob)} {nx:Nat} {Q:D→List (Nat×Ob)→Nat→Prop} (hl:ds.length≤64) (h:awp Go.Proofs.Tryz.prog T 64 nx gee (Go.Proofs.Tryz.f16.body.getD .skip) (fin Go.Proofs.Tryz.prog [.cell 6 43, .cell 7 26, .tmp 8] Q) ⟨prm 0 ds,os,nx⟩):ga Go.Proofs.Tryz.prog 16 ds os nx Q:=
 ya hT.toS (fn:=Go.Proofs.Tryz.f16) gee (by kernel_rfl) rfl rfl (by kernel_rfl) rfl hl rfl h
abbrev bee:Nat→Option (List Nat):=lvL [(0,[2,3,4,6]),(1,[2,3,4,6,8,9]),(2,[2,3,4,6,8,21]),(3,[6,7]),(4,[6,7])]
theorem zer {T:Tab} (hT:za Go.Proofs.Tryz.prog T) {ds:List D} {os:List (Nat×Ob)} {nx:Nat} {Q:D→List (Nat×Ob)→Nat→Prop} (hl:ds.length≤31) (h:awp Go.Proofs.Tryz.prog T 31 nx bee (Go.Proofs.Tryz.f17.body.getD .skip) (fin Go.Proofs.Tryz.prog [.cell 6 64, .tmp 7] Q) ⟨prm 0 ds,os,nx⟩):ga Go.Proofs.Tryz.prog 17 ds os nx Q:=
 ya hT.toS (fn:=Go.Proofs.Tryz.f17) bee (by kernel_rfl) rfl rfl (by kernel_rfl) rfl hl rfl h
abbrev zef:Nat→Option (List Nat):=lvL [(0,[2,3,4]),(1,[2,3,4,13]),(2,[4,5]),(3,[2,3,4,15]),(4,[2,3,4,15,16]),(5,[2,3,4,15,18]),(6,[2,3,4,15,20]),(7,[2,3,4,15,22]),(8,[2,3,4,24]),(9,[4]),(10,[4]),(11,[4]),(12,[4]),(13,[4,5])]
theorem yer {T:Tab} (hT:za Go.Proofs.Tryz.prog T) {ds:List D} {os:List (Nat×Ob)} {nx:Nat} {Q:D→List (Nat×Ob)→Nat→Prop} (hl:ds.length≤49) (h:awp Go.Proofs.Tryz.prog T 49 nx zef (Go.Proofs.Tryz.f18.body.getD .skip) (fin Go.Proofs.Tryz.prog [.tmp 4, .tmp 5] Q) ⟨prm 0 ds,os,nx⟩):ga Go.Proofs.Tryz.prog 18 ds os nx Q:=
 ya hT.toS (fn:=Go.Proofs.Tryz.f18) zef (by kernel_rfl) rfl rfl (by kernel_rfl) rfl hl rfl h
abbrev yef:Nat→Option (List Nat):=lvL [(0,[1,2,3,6,7]),(1,[1,3,6,7,9,10]),(2,[1,3,6,7,9,10,22]),(3,[6,7,8]),(4,[6,7,8])]
@[go_sem] def zcT:List Nat:=[0,0,0,4,12,31,63,127,127,127,255,1535,4095]
theorem qer {T:Tab} (hT:za Go.Proofs.Tryz.prog T) {ds:List D} {os:List (Nat×Ob)} {nx:Nat} {Q:D→List (Nat×Ob)→Nat→Prop} (hl:ds.length≤30) (h:awp Go.Proofs.Tryz.prog T 30 nx yef (Go.Proofs.Tryz.f19.body.getD .skip) (fin Go.Proofs.Tryz.prog [.cell 6 43, .cell 7 26, .tmp 8] Q) ⟨prm 0 ds,os,nx⟩):ga Go.Proofs.Tryz.prog 19 ds os nx Q:=
 ya hT.toS (fn:=Go.Proofs.Tryz.f19) yef (by kernel_rfl) rfl rfl (by kernel_rfl) rfl hl rfl h
abbrev xef:Nat→Option (List Nat):=lvL [(0,[1,2]),(1,[2])]
@[go_sem] def ycT:List Nat:=[0,1,3,0,8,31,0,64,255,0,512,2047,0,4096,16383,32767,65535]
theorem jer {T:Tab} (hT:za Go.Proofs.Tryz.prog T) {ds:List D} {os:List (Nat×Ob)} {nx:Nat} {Q:D→List (Nat×Ob)→Nat→Prop} (hl:ds.length≤19) (h:awp Go.Proofs.Tryz.prog T 19 nx xef (Go.Proofs.Tryz.f23.body.getD .skip) (fin Go.Proofs.Tryz.prog [.cell 2 48] Q) ⟨prm 0 ds,os,nx⟩):ga Go.Proofs.Tryz.prog 23 ds os nx Q:=
 ya hT.toS (fn:=Go.Proofs.Tryz.f23) xef (by kernel_rfl) rfl rfl (by kernel_rfl) rfl hl rfl h
abbrev qef:Nat→Option (List Nat):=lvL [(0,[1,2,3,6,7]),(1,[6,7,8])]
theorem ker {T:Tab} (hT:za Go.Proofs.Tryz.prog T) {ds:List D} {os:List (Nat×Ob)} {nx:Nat} {Q:D→List (Nat×Ob)→Nat→Prop} (hl:ds.length≤16) (h:awp Go.Proofs.Tryz.prog T 16 nx qef (Go.Proofs.Tryz.f26.body.getD .skip) (fin Go.Proofs.Tryz.prog [.cell 6 48, .cell 7 26, .tmp 8] Q) ⟨prm 0 ds,os,nx⟩):ga Go.Proofs.Tryz.prog 26 ds os nx Q:=
 ya hT.toS (fn:=Go.Proofs.Tryz.f26) qef (by kernel_rfl) rfl rfl (by kernel_rfl) rfl hl rfl h
abbrev jef:Nat→Option (List Nat):=lvL [(0,[1,2,3,6,7]),(1,[1,2,3,6,7,13]),(2,[6,7,8]),(3,[1,2,3,6,7,9,10]),(4,[1,2,3,6,7,9,10,25]),(5,[6,7,8]),(6,[6,7,8])]
theorem ver {T:Tab} (hT:za Go.Proofs.Tryz.prog T) {ds:List D} {os:List (Nat×Ob)} {nx:Nat} {Q:D→List (Nat×Ob)→Nat→Prop} (hl:ds.length≤37) (h:awp Go.Proofs.Tryz.prog T 37 nx jef (Go.Proofs.Tryz.f27.body.getD .skip) (fin Go.Proofs.Tryz.prog [.cell 6 48, .cell 7 26, .tmp 8] Q) ⟨prm 0 ds,os,nx⟩):ga Go.Proofs.Tryz.prog 27 ds os nx Q:=
 ya hT.toS (fn:=Go.Proofs.Tryz.f27) jef (by kernel_rfl) rfl rfl (by kernel_rfl) rfl hl rfl h
abbrev kef:Nat→Option (List Nat):=lvL [(0,[2,3]),(1,[4])]
theorem wer {T:Tab} (hT:za Go.Proofs.Tryz.prog T) {ds:List D} {os:List (Nat×Ob)} {nx:Nat} {Q:D→List (Nat×Ob)→Nat→Prop} (hl:ds.length≤24) (h:awp Go.Proofs.Tryz.prog T 24 nx kef (Go.Proofs.Tryz.f30.body.getD .skip) (fin Go.Proofs.Tryz.prog [.tmp 4] Q) ⟨prm 0 ds,os,nx⟩):ga Go.Proofs.Tryz.prog 30 ds os nx Q:=
 ya hT.toS (fn:=Go.Proofs.Tryz.f30) kef (by kernel_rfl) rfl rfl (by kernel_rfl) rfl hl rfl h
abbrev wbO:Nat→Option (List Nat):=lvL [(0,[1]),(1,[20,21]),(2,[20,21,22]),(3,[4,20,21]),(4,[4,20,21,25]),(5,[2]),(6,[20,21]),(7,[2])]
@[go_sem] def xcT:List Nat:=[0,1,3,0,8,31,0,64,255,0,512,2047,0,4096,16383,32767,0]
theorem uer {T:Tab} (hT:za Go.Proofs.Tryz.prog T) {ds:List D} {os:List (Nat×Ob)} {nx:Nat} {Q:D→List (Nat×Ob)→Nat→Prop} (hl:ds.length≤28) (h:awp Go.Proofs.Tryz.prog T 28 nx wbO (Go.Proofs.Tryz.f31.body.getD .skip) (fin Go.Proofs.Tryz.prog [.tmp 2] Q) ⟨prm 0 ds,os,nx⟩):ga Go.Proofs.Tryz.prog 31 ds os nx Q:=
 ya hT.toS (fn:=Go.Proofs.Tryz.f31) wbO (by kernel_rfl) rfl rfl (by kernel_rfl) rfl hl rfl h
abbrev vef:Nat→Option (List Nat):=lvL [(0,[1]),(1,[30]),(2,[2]),(3,[2])]
theorem ger {T:Tab} (hT:za Go.Proofs.Tryz.prog T) {ds:List D} {os:List (Nat×Ob)} {nx:Nat} {Q:D→List (Nat×Ob)→Nat→Prop} (hl:ds.length≤31) (h:awp Go.Proofs.Tryz.prog T 31 nx vef (Go.Proofs.Tryz.f32.body.getD .skip) (fin Go.Proofs.Tryz.prog [.tmp 2] Q) ⟨prm 0 ds,os,nx⟩):ga Go.Proofs.Tryz.prog 32 ds os nx Q:=
 ya hT.toS (fn:=Go.Proofs.Tryz.f32) vef (by kernel_rfl) rfl rfl (by kernel_rfl) rfl hl rfl h
abbrev wef:Nat→Option (List Nat):=lvL [(0,[2,3,4]),(1,[2,3,4,6]),(2,[3,4,6]),(3,[3,4,6]),(4,[4,6]),(5,[4,5])]
theorem ber {T:Tab} (hT:za Go.Proofs.Tryz.prog T) {ds:List D} {os:List (Nat×Ob)} {nx:Nat} {Q:D→List (Nat×Ob)→Nat→Prop} (hl:ds.length≤31) (h:awp Go.Proofs.Tryz.prog T 31 nx wef (Go.Proofs.Tryz.f34.body.getD .skip) (fin Go.Proofs.Tryz.prog [.cell 4 40, .tmp 5] Q) ⟨prm 0 ds,os,nx⟩):ga Go.Proofs.Tryz.prog 34 ds os nx Q:=
 ya hT.toS (fn:=Go.Proofs.Tryz.f34) wef (by kernel_rfl) rfl rfl (by kernel_rfl) rfl hl rfl h
abbrev uef:Nat→Option (List Nat):=lvL [(0,[0]),(1,[0])]
theorem zes {T:Tab} (hT:za Go.Proofs.Tryz.prog T) {ds:List D} {os:List (Nat×Ob)} {nx:Nat} {Q:D→List (Nat×Ob)→Nat→Prop} (hl:ds.length≤3) (h:awp Go.Proofs.Tryz.prog T 3 nx uef (Go.Proofs.Tryz.f35.body.getD .skip) (fin Go.Proofs.Tryz.prog [.cell 0 40] Q) ⟨prm 0 ds,os,nx⟩):ga Go.Proofs.Tryz.prog 35 ds os nx Q:=
 ya hT.toS (fn:=Go.Proofs.Tryz.f35) uef (by kernel_rfl) rfl rfl (by kernel_rfl) rfl hl rfl h
abbrev gef:Nat→Option (List Nat):=lvL [(0,[0]),(1,[0])]
theorem xes {T:Tab} (hT:za Go.Proofs.Tryz.prog T) {ds:List D} {os:List (Nat×Ob)} {nx:Nat} {Q:D→List (Nat×Ob)→Nat→Prop} (hl:ds.length≤3) (h:awp Go.Proofs.Tryz.prog T 3 nx gef (Go.Proofs.Tryz.f36.body.getD .skip) (fin Go.Proofs.Tryz.prog [.cell 0 40] Q) ⟨prm 0 ds,os,nx⟩):ga Go.Proofs.Tryz.prog 36 ds os nx Q:=
 ya hT.toS (fn:=Go.Proofs.Tryz.f36) gef (by kernel_rfl) rfl rfl (by kernel_rfl) rfl hl rfl h
abbrev bdP:Nat→Option (List Nat):=lvL [(0,[2,3]),(1,[2,3,58]),(2,[4]),(3,[2,3,61,62]),(4,[2,3,61,62,63]),(5,[2,3,5,61,62]),(6,[2,3,61,62,93]),(7,[4]),(8,[2,3,61,62]),(9,[4])]
@[go_sem] def yem:List Nat:=[0,1,0,7,15,31,0,64,0,448,960,1984,4095,8191,16383,32767,16383,131071,262143,524287,16383,1064959,16383,7356415,15745023,32522239,67108863,134217727,268435455]
theorem qes {T:Tab} (hT:za Go.Proofs.Tryz.prog T) {ds:List D} {os:List (Nat×Ob)} {nx:Nat} {Q:D→List (Nat×Ob)→Nat→Prop} (hl:ds.length≤95) (h:awp Go.Proofs.Tryz.prog T 95 nx bdP (Go.Proofs.Tryz.f37.body.getD .skip) (fin Go.Proofs.Tryz.prog [.tmp 4] Q) ⟨prm 0 ds,os,nx⟩):ga Go.Proofs.Tryz.prog 37 ds os nx Q:=
 ya hT.toS (fn:=Go.Proofs.Tryz.f37) bdP (by kernel_rfl) rfl rfl (by kernel_rfl) rfl hl rfl h
abbrev zdQ:Nat→Option (List Nat):=lvL [(0,[2,3]),(1,[2,3,12]),(2,[4]),(3,[2,3,15,16]),(4,[2,3,15,16,17]),(5,[2,3,5,15,16]),(6,[2,3,15,16,30]),(7,[4]),(8,[2,3,15,16]),(9,[4])]
@[go_sem] def qcT:List Nat:=[0,1,0,7,15,0,32,0,224,480,1023,2047]
theorem jes {T:Tab} (hT:za Go.Proofs.Tryz.prog T) {ds:List D} {os:List (Nat×Ob)} {nx:Nat} {Q:D→List (Nat×Ob)→Nat→Prop} (hl:ds.length≤32) (h:awp Go.Proofs.Tryz.prog T 32 nx zdQ (Go.Proofs.Tryz.f38.body.getD .skip) (fin Go.Proofs.Tryz.prog [.tmp 4] Q) ⟨prm 0 ds,os,nx⟩):ga Go.Proofs.Tryz.prog 38 ds os nx Q:=
 ya hT.toS (fn:=Go.Proofs.Tryz.f38) zdQ (by kernel_rfl) rfl rfl (by kernel_rfl) rfl hl rfl h
abbrev ydQ:Nat→Option (List Nat):=lvL [(0,[0,1]),(1,[0,1,10]),(2,[4]),(3,[0,1,12,13]),(4,[0,1,12,13,14]),(5,[0,1,5,12,13]),(6,[0,1,12,13,24]),(7,[4]),(8,[0,1,12,13]),(9,[4])]
@[go_sem] def jcT:List Nat:=[0,0,3,7,0,0,48,112,255]
theorem kes {T:Tab} (hT:za Go.Proofs.Tryz.prog T) {ds:List D} {os:List (Nat×Ob)} {nx:Nat} {Q:D→List (Nat×Ob)→Nat→Prop} (hl:ds.length≤26) (h:awp Go.Proofs.Tryz.prog T 26 nx ydQ (Go.Proofs.Tryz.f39.body.getD .skip) (fin Go.Proofs.Tryz.prog [.tmp 4] Q) ⟨prm 0 ds,os,nx⟩):ga Go.Proofs.Tryz.prog 39 ds os nx Q:=
 ya hT.toS (fn:=Go.Proofs.Tryz.f39) ydQ (by kernel_rfl) rfl rfl (by kernel_rfl) rfl hl rfl h
abbrev xdQ:Nat→Option (List Nat):=lvL [(0,[0,1]),(1,[0,1,10]),(2,[4]),(3,[0,1,12,13]),(4,[0,1,12,13,14]),(5,[0,1,5,12,13]),(6,[0,1,12,13,25]),(7,[4]),(8,[0,1,12,13]),(9,[4])]
@[go_sem] def xem:List Nat:=[0,0,3,7,0,0,48,112,255,511]
theorem ves {T:Tab} (hT:za Go.Proofs.Tryz.prog T) {ds:List D} {os:List (Nat×Ob)} {nx:Nat} {Q:D→List (Nat×Ob)→Nat→Prop} (hl:ds.length≤27) (h:awp Go.Proofs.Tryz.prog T 27 nx xdQ (Go.Proofs.Tryz.f40.body.getD .skip) (fin Go.Proofs.Tryz.prog [.tmp 4] Q) ⟨prm 0 ds,os,nx⟩):ga Go.Proofs.Tryz.prog 40 ds os nx Q:=
 ya hT.toS (fn:=Go.Proofs.Tryz.f40) xdQ (by kernel_rfl) rfl rfl (by kernel_rfl) rfl hl rfl h
abbrev qdQ:Nat→Option (List Nat):=lvL [(0,[0,1]),(1,[0,1,10]),(2,[4]),(3,[0,1,12,13]),(4,[0,1,12,13,14]),(5,[0,1,5,12,13]),(6,[0,1,12,13,24]),(7,[4]),(8,[0,1,12,13]),(9,[4])]
@[go_sem] def kcT:List Nat:=[0,0,3,7,0,0,48,112,255]
theorem wes {T:Tab} (hT:za Go.Proofs.Tryz.prog T) {ds:List D} {os:List (Nat×Ob)} {nx:Nat} {Q:D→List (Nat×Ob)→Nat→Prop} (hl:ds.length≤26) (h:awp Go.Proofs.Tryz.prog T 26 nx qdQ (Go.Proofs.Tryz.f41.body.getD .skip) (fin Go.Proofs.Tryz.prog [.tmp 4] Q) ⟨prm 0 ds,os,nx⟩):ga Go.Proofs.Tryz.prog 41 ds os nx Q:=
 ya hT.toS (fn:=Go.Proofs.Tryz.f41) qdQ (by kernel_rfl) rfl rfl (by kernel_rfl) rfl hl rfl h
abbrev bef:Nat→Option (List Nat):=lvL [(0,[0,1]),(1,[0,6,7]),(2,[0,6,7,15]),(3,[4,5]),(4,[4,5])]
theorem ues {T:Tab} (hT:za Go.Proofs.Tryz.prog T) {ds:List D} {os:List (Nat×Ob)} {nx:Nat} {Q:D→List (Nat×Ob)→Nat→Prop} (hl:ds.length≤22) (h:awp Go.Proofs.Tryz.prog T 22 nx bef (Go.Proofs.Tryz.f42.body.getD .skip) (fin Go.Proofs.Tryz.prog [.tmp 4, .tmp 5] Q) ⟨prm 0 ds,os,nx⟩):ga Go.Proofs.Tryz.prog 42 ds os nx Q:=
 ya hT.toS (fn:=Go.Proofs.Tryz.f42) bef (by kernel_rfl) rfl rfl (by kernel_rfl) rfl hl rfl h
abbrev zeg:Nat→Option (List Nat):=lvL [(0,[0,1,2]),(1,[3,4])]
theorem ges {T:Tab} (hT:za Go.Proofs.Tryz.prog T) {ds:List D} {os:List (Nat×Ob)} {nx:Nat} {Q:D→List (Nat×Ob)→Nat→Prop} (hl:ds.length≤13) (h:awp Go.Proofs.Tryz.prog T 13 nx zeg (Go.Proofs.Tryz.f43.body.getD .skip) (fin Go.Proofs.Tryz.prog [.tmp 3, .tmp 4] Q) ⟨prm 0 ds,os,nx⟩):ga Go.Proofs.Tryz.prog 43 ds os nx Q:=
 ya hT.toS (fn:=Go.Proofs.Tryz.f43) zeg (by kernel_rfl) rfl rfl (by kernel_rfl) rfl hl rfl h
abbrev yeg:Nat→Option (List Nat):=lvL [(0,[1,3,5]),(1,[1,3,5,17]),(2,[6,7]),(3,[5,8,9]),(4,[6,7])]
@[go_sem] def vcT:List Nat:=[0,0,0,4,12,28,0,124,255,511,1023,1023,2047,8191]
theorem bes {T:Tab} (hT:za Go.Proofs.Tryz.prog T) {ds:List D} {os:List (Nat×Ob)} {nx:Nat} {Q:D→List (Nat×Ob)→Nat→Prop} (hl:ds.length≤38) (h:awp Go.Proofs.Tryz.prog T 38 nx yeg (Go.Proofs.Tryz.f44.body.getD .skip) (fin Go.Proofs.Tryz.prog [.tmp 6, .tmp 7] Q) ⟨prm 0 ds,os,nx⟩):ga Go.Proofs.Tryz.prog 44 ds os nx Q:=
 ya hT.toS (fn:=Go.Proofs.Tryz.f44) yeg (by kernel_rfl) rfl rfl (by kernel_rfl) rfl hl rfl h
abbrev xeg:Nat→Option (List Nat):=lvL [(0,[0,1]),(1,[2,3])]
theorem zet {T:Tab} (hT:za Go.Proofs.Tryz.prog T) {ds:List D} {os:List (Nat×Ob)} {nx:Nat} {Q:D→List (Nat×Ob)→Nat→Prop} (hl:ds.length≤11) (h:awp Go.Proofs.Tryz.prog T 11 nx xeg (Go.Proofs.Tryz.f45.body.getD .skip) (fin Go.Proofs.Tryz.prog [.tmp 2, .tmp 3] Q) ⟨prm 0 ds,os,nx⟩):ga Go.Proofs.Tryz.prog 45 ds os nx Q:=
 ya hT.toS (fn:=Go.Proofs.Tryz.f45) xeg (by kernel_rfl) rfl rfl (by kernel_rfl) rfl hl rfl h
abbrev jdQ:Nat→Option (List Nat):=lvL [(0,[0,3]),(1,[0,3,18]),(2,[4,5]),(3,[0,3,6]),(4,[3,6,19,20,21]),(5,[3,6,19,20,21,22]),(6,[3,6,8,19,20,21]),(7,[3,6,9,10,19,20,21]),(8,[3,6,9,10,19,20,21,32]),(9,[4,5]),(10,[3,6,19,20,21]),(11,[3,6,19,20,21]),(12,[4,5])]
theorem yet {T:Tab} (hT:za Go.Proofs.Tryz.prog T) {ds:List D} {os:List (Nat×Ob)} {nx:Nat} {Q:D→List (Nat×Ob)→Nat→Prop} (hl:ds.length≤40) (h:awp Go.Proofs.Tryz.prog T 40 nx jdQ (Go.Proofs.Tryz.f46.body.getD .skip) (fin Go.Proofs.Tryz.prog [.tmp 4, .tmp 5] Q) ⟨prm 0 ds,os,nx⟩):ga Go.Proofs.Tryz.prog 46 ds os nx Q:=
 ya hT.toS (fn:=Go.Proofs.Tryz.f46) jdQ (by kernel_rfl) rfl rfl (by kernel_rfl) rfl hl rfl h
abbrev qeg:Nat→Option (List Nat):=lvL [(0,[0,1,2]),(1,[3,4])]
theorem xet {T:Tab} (hT:za Go.Proofs.Tryz.prog T) {ds:List D} {os:List (Nat×Ob)} {nx:Nat} {Q:D→List (Nat×Ob)→Nat→Prop} (hl:ds.length≤18) (h:awp Go.Proofs.Tryz.prog T 18 nx qeg (Go.Proofs.Tryz.f47.body.getD .skip) (fin Go.Proofs.Tryz.prog [.tmp 3, .tmp 4] Q) ⟨prm 0 ds,os,nx⟩):ga Go.Proofs.Tryz.prog 47 ds os nx Q:=
 ya hT.toS (fn:=Go.Proofs.Tryz.f47) qeg (by kernel_rfl) rfl rfl (by kernel_rfl) rfl hl rfl h
abbrev jeg:Nat→Option (List Nat):=lvL [(0,[0,1,2,3]),(1,[11]),(2,[11,21]),(3,[8,9]),(4,[8,9])]
theorem qet {T:Tab} (hT:za Go.Proofs.Tryz.prog T) {ds:List D} {os:List (Nat×Ob)} {nx:Nat} {Q:D→List (Nat×Ob)→Nat→Prop} (hl:ds.length≤25) (h:awp Go.Proofs.Tryz.prog T 25 nx jeg (Go.Proofs.Tryz.f48.body.getD .skip) (fin Go.Proofs.Tryz.prog [.tmp 8, .tmp 9] Q) ⟨prm 0 ds,os,nx⟩):ga Go.Proofs.Tryz.prog 48 ds os nx Q:=
 ya hT.toS (fn:=Go.Proofs.Tryz.f48) jeg (by kernel_rfl) rfl rfl (by kernel_rfl) rfl hl rfl h
abbrev keg:Nat→Option (List Nat):=lvL [(0,[1]),(1,[1,4]),(2,[1,4,9]),(3,[2,3]),(4,[1,5]),(5,[5,21]),(6,[5]),(7,[2,3])]
theorem jet {T:Tab} (hT:za Go.Proofs.Tryz.prog T) {ds:List D} {os:List (Nat×Ob)} {nx:Nat} {Q:D→List (Nat×Ob)→Nat→Prop} (hl:ds.length≤26) (h:awp Go.Proofs.Tryz.prog T 26 nx keg (Go.Proofs.Tryz.f52.body.getD .skip) (fin Go.Proofs.Tryz.prog [.tmp 2, .tmp 3] Q) ⟨prm 0 ds,os,nx⟩):ga Go.Proofs.Tryz.prog 52 ds os nx Q:=
 ya hT.toS (fn:=Go.Proofs.Tryz.f52) keg (by kernel_rfl) rfl rfl (by kernel_rfl) rfl hl rfl h
abbrev veg:Nat→Option (List Nat):=lvL [(0,[1]),(1,[1,3]),(2,[23]),(3,[2]),(4,[2])]
theorem ket {T:Tab} (hT:za Go.Proofs.Tryz.prog T) {ds:List D} {os:List (Nat×Ob)} {nx:Nat} {Q:D→List (Nat×Ob)→Nat→Prop} (hl:ds.length≤24) (h:awp Go.Proofs.Tryz.prog T 24 nx veg (Go.Proofs.Tryz.f53.body.getD .skip) (fin Go.Proofs.Tryz.prog [.tmp 2] Q) ⟨prm 0 ds,os,nx⟩):ga Go.Proofs.Tryz.prog 53 ds os nx Q:=
 ya hT.toS (fn:=Go.Proofs.Tryz.f53) veg (by kernel_rfl) rfl rfl (by kernel_rfl) rfl hl rfl h
abbrev weg:Nat→Option (List Nat):=lvL [(0,[1]),(1,[4]),(2,[2])]
theorem vet {T:Tab} (hT:za Go.Proofs.Tryz.prog T) {ds:List D} {os:List (Nat×Ob)} {nx:Nat} {Q:D→List (Nat×Ob)→Nat→Prop} (hl:ds.length≤11) (h:awp Go.Proofs.Tryz.prog T 11 nx weg (Go.Proofs.Tryz.f54.body.getD .skip) (fin Go.Proofs.Tryz.prog [.tmp 2] Q) ⟨prm 0 ds,os,nx⟩):ga Go.Proofs.Tryz.prog 54 ds os nx Q:=
 ya hT.toS (fn:=Go.Proofs.Tryz.f54) weg (by kernel_rfl) rfl rfl (by kernel_rfl) rfl hl rfl h
abbrev ueg:Nat→Option (List Nat):=lvL [(0,[1,2,3,6]),(1,[1,2,3,6,10]),(2,[6,7,8]),(3,[6,7,8])]
theorem wet {T:Tab} (hT:za Go.Proofs.Tryz.prog T) {ds:List D} {os:List (Nat×Ob)} {nx:Nat} {Q:D→List (Nat×Ob)→Nat→Prop} (hl:ds.length≤20) (h:awp Go.Proofs.Tryz.prog T 20 nx ueg (Go.Proofs.Tryz.f55.body.getD .skip) (fin Go.Proofs.Tryz.prog [.cell 6 43, .tmp 7, .tmp 8] Q) ⟨prm 0 ds,os,nx⟩):ga Go.Proofs.Tryz.prog 55 ds os nx Q:=
 ya hT.toS (fn:=Go.Proofs.Tryz.f55) ueg (by kernel_rfl) rfl rfl (by kernel_rfl) rfl hl rfl h
abbrev geg:Nat→Option (List Nat):=lvL [(0,[0]),(1,[2])]
theorem uet {T:Tab} (hT:za Go.Proofs.Tryz.prog T) {ds:List D} {os:List (Nat×Ob)} {nx:Nat} {Q:D→List (Nat×Ob)→Nat→Prop} (hl:ds.length≤9) (h:awp Go.Proofs.Tryz.prog T 9 nx geg (Go.Proofs.Tryz.f56.body.getD .skip) (fin Go.Proofs.Tryz.prog [.tmp 2] Q) ⟨prm 0 ds,os,nx⟩):ga Go.Proofs.Tryz.prog 56 ds os nx Q:=
 ya hT.toS (fn:=Go.Proofs.Tryz.f56) geg (by kernel_rfl) rfl rfl (by kernel_rfl) rfl hl rfl h
abbrev beg:Nat→Option (List Nat):=lvL [(0,[1]),(1,[1,4]),(2,[1,4,7]),(3,[2,3]),(4,[1,11]),(5,[2,3]),(6,[1,17]),(7,[2,3]),(8,[2,3])]
theorem bet {T:Tab} (hT:za Go.Proofs.Tryz.prog T) {ds:List D} {os:List (Nat×Ob)} {nx:Nat} {Q:D→List (Nat×Ob)→Nat→Prop} (hl:ds.length≤26) (h:awp Go.Proofs.Tryz.prog T 26 nx beg (Go.Proofs.Tryz.f57.body.getD .skip) (fin Go.Proofs.Tryz.prog [.tmp 2, .tmp 3] Q) ⟨prm 0 ds,os,nx⟩):ga Go.Proofs.Tryz.prog 57 ds os nx Q:=
 ya hT.toS (fn:=Go.Proofs.Tryz.f57) beg (by kernel_rfl) rfl rfl (by kernel_rfl) rfl hl rfl h
abbrev zeh:Nat→Option (List Nat):=lvL [(0,[1]),(1,[1,4]),(2,[2]),(3,[1,4,5]),(4,[2]),(5,[1,4,11]),(6,[1,17]),(7,[2]),(8,[1,4,18]),(9,[1,23]),(10,[2]),(11,[1,4,24]),(12,[1,24]),(13,[29]),(14,[2]),(15,[2])]
theorem zeu {T:Tab} (hT:za Go.Proofs.Tryz.prog T) {ds:List D} {os:List (Nat×Ob)} {nx:Nat} {Q:D→List (Nat×Ob)→Nat→Prop} (hl:ds.length≤30) (h:awp Go.Proofs.Tryz.prog T 30 nx zeh (Go.Proofs.Tryz.f58.body.getD .skip) (fin Go.Proofs.Tryz.prog [.tmp 2] Q) ⟨prm 0 ds,os,nx⟩):ga Go.Proofs.Tryz.prog 58 ds os nx Q:=
 ya hT.toS (fn:=Go.Proofs.Tryz.f58) zeh (by kernel_rfl) rfl rfl (by kernel_rfl) rfl hl rfl h
abbrev yeh:Nat→Option (List Nat):=lvL [(0,[1]),(1,[2])]
theorem yeu {T:Tab} (hT:za Go.Proofs.Tryz.prog T) {ds:List D} {os:List (Nat×Ob)} {nx:Nat} {Q:D→List (Nat×Ob)→Nat→Prop} (hl:ds.length≤18) (h:awp Go.Proofs.Tryz.prog T 18 nx yeh (Go.Proofs.Tryz.f59.body.getD .skip) (fin Go.Proofs.Tryz.prog [.tmp 2] Q) ⟨prm 0 ds,os,nx⟩):ga Go.Proofs.Tryz.prog 59 ds os nx Q:=
 ya hT.toS (fn:=Go.Proofs.Tryz.f59) yeh (by kernel_rfl) rfl rfl (by kernel_rfl) rfl hl rfl h
abbrev xeh:Nat→Option (List Nat):=lvL [(0,[1,2,3,6]),(1,[6,7,8])]
theorem xeu {T:Tab} (hT:za Go.Proofs.Tryz.prog T) {ds:List D} {os:List (Nat×Ob)} {nx:Nat} {Q:D→List (Nat×Ob)→Nat→Prop} (hl:ds.length≤17) (h:awp Go.Proofs.Tryz.prog T 17 nx xeh (Go.Proofs.Tryz.f60.body.getD .skip) (fin Go.Proofs.Tryz.prog [.cell 6 43, .tmp 7, .tmp 8] Q) ⟨prm 0 ds,os,nx⟩):ga Go.Proofs.Tryz.prog 60 ds os nx Q:=
 ya hT.toS (fn:=Go.Proofs.Tryz.f60) xeh (by kernel_rfl) rfl rfl (by kernel_rfl) rfl hl rfl h
abbrev zda:Nat→Option (List Nat):=lvL [(0,[0]),(1,[0,3]),(2,[3,8,9,10]),(3,[3,8,9,10,11]),(4,[3,5,8,9,10]),(5,[3,5,6,8,9,10]),(6,[3,5,6,8,9,10]),(7,[3,5,6,8,9,10,21,22]),(8,[3,5,6,8,9,10,21,22,23]),(9,[3,5,6,7,8,9,10,21,22]),(10,[3,5,6,8,9,10,21,22]),(11,[3,5,6,8,9,10,21,22]),(12,[3,8,9,10]),(13,[2])]
theorem qeu {T:Tab} (hT:za Go.Proofs.Tryz.prog T) {ds:List D} {os:List (Nat×Ob)} {nx:Nat} {Q:D→List (Nat×Ob)→Nat→Prop} (hl:ds.length≤40) (h:awp Go.Proofs.Tryz.prog T 40 nx zda (Go.Proofs.Tryz.f61.body.getD .skip) (fin Go.Proofs.Tryz.prog [.tmp 2] Q) ⟨prm 0 ds,os,nx⟩):ga Go.Proofs.Tryz.prog 61 ds os nx Q:=
 ya hT.toS (fn:=Go.Proofs.Tryz.f61) zda (by kernel_rfl) rfl rfl (by kernel_rfl) rfl hl rfl h
abbrev vcI:Nat→Option (List Nat):=lvL [(0,[1,2]),(1,[1,2,3]),(2,[1,2,3]),(3,[1,2,3,35,36,37]),(4,[1,2,3,35,36,37,38]),(5,[1,2,3,4,5,35,36,37]),(6,[1,2,3,35,36,37]),(7,[1,2,3,35,36,37]),(8,[1,2]),(9,[1,2,73,74,75]),(10,[1,2,73,74,75,76]),(11,[1,2,6,7,73,74,75]),(12,[1,2,73,74,75]),(13,[1,2,73,74,75]),(14,[1,2,91,92,93]),(15,[1,2,91,92,93,94]),(16,[1,2,8,9,91,92,93]),(17,[1,2,91,92,93]),(18,[1,2,91,92,93]),(19,[2])]
@[go_sem] def wcT:List Nat:=[0,1,3,0,8,31,0,64,255,0,512,2047,0,4096,12288,32767,30431,131071,262143,524287,1048575,2097151,4194303,8388607,16777215,33554431,67108863]
@[go_sem] def ucT:List Nat:=[0,1,0,0,8,24,63,127,255]
@[go_sem] def gcT:List Nat:=[0,0,2,6,14,0,32,126,0,256,1022,0,2048,8190,7023,32767,65535,131071,262143,524287,1048575,2097151,4194303,8388607,16777215]
@[go_sem] def zce:List Nat:=[0,1,3,0,0,16,48,127,255,511]
@[go_sem] def yce:List Nat:=[0,1,0,0,8,0,0,64,192,0,512,1984,4039,8135,16327,32767,65535,131071]
theorem jeu {T:Tab} (hT:za Go.Proofs.Tryz.prog T) {ds:List D} {os:List (Nat×Ob)} {nx:Nat} {Q:D→List (Nat×Ob)→Nat→Prop} (hl:ds.length≤116) (h:awp Go.Proofs.Tryz.prog T 116 nx vcI (Go.Proofs.Tryz.f64.body.getD .skip) (fin Go.Proofs.Tryz.prog [.cell 2 48] Q) ⟨prm 0 ds,os,nx⟩):ga Go.Proofs.Tryz.prog 64 ds os nx Q:=
 ya hT.toS (fn:=Go.Proofs.Tryz.f64) vcI (by kernel_rfl) rfl rfl (by kernel_rfl) rfl hl rfl h
abbrev qeh:Nat→Option (List Nat):=lvL [(0,[1,2,3,4,8,9]),(1,[1,2,3,4,8,9,11]),(2,[1,2,3,4,8,9,11,19]),(3,[8,9,10]),(4,[1,2,4,8,9,12,13]),(5,[1,2,4,8,9,12,13,33]),(6,[8,9,10]),(7,[4,8,9,12,13,14,15]),(8,[4,8,9,12,13,14,15,47]),(9,[8,9,10]),(10,[4,8,9,15]),(11,[8,9,10])]
@[go_sem] def xce:List Nat:=[0,0,1,5,15,31]
@[go_sem] def qce:List Nat:=[0,1,0,3,15,31]
theorem keu {T:Tab} (hT:za Go.Proofs.Tryz.prog T) {ds:List D} {os:List (Nat×Ob)} {nx:Nat} {Q:D→List (Nat×Ob)→Nat→Prop} (hl:ds.length≤58) (h:awp Go.Proofs.Tryz.prog T 58 nx qeh (Go.Proofs.Tryz.f65.body.getD .skip) (fin Go.Proofs.Tryz.prog [.cell 8 48, .cell 9 26, .tmp 10] Q) ⟨prm 0 ds,os,nx⟩):ga Go.Proofs.Tryz.prog 65 ds os nx Q:=
 ya hT.toS (fn:=Go.Proofs.Tryz.f65) qeh (by kernel_rfl) rfl rfl (by kernel_rfl) rfl hl rfl h
abbrev jeh:Nat→Option (List Nat):=lvL [(0,[1,2]),(1,[2])]
@[go_sem] def bcT:List Nat:=[0,1,3,0,8,31,0,64,255,0,512,2047,0,4096,12288,0,32768,98304,233471,524287,0,1048576,0,4194304,16777215,33554431]
theorem veu {T:Tab} (hT:za Go.Proofs.Tryz.prog T) {ds:List D} {os:List (Nat×Ob)} {nx:Nat} {Q:D→List (Nat×Ob)→Nat→Prop} (hl:ds.length≤28) (h:awp Go.Proofs.Tryz.prog T 28 nx jeh (Go.Proofs.Tryz.f67.body.getD .skip) (fin Go.Proofs.Tryz.prog [.cell 2 40] Q) ⟨prm 0 ds,os,nx⟩):ga Go.Proofs.Tryz.prog 67 ds os nx Q:=
 ya hT.toS (fn:=Go.Proofs.Tryz.f67) jeh (by kernel_rfl) rfl rfl (by kernel_rfl) rfl hl rfl h
abbrev kdQ:Nat→Option (List Nat):=lvL [(0,[1,2]),(1,[1,2,3]),(2,[2,3,8,9,10]),(3,[2,3,8,9,10,11]),(4,[2,3,5,8,9,10]),(5,[2,3,8,9,10]),(6,[2,3,8,9,10]),(7,[2])]
@[go_sem] def zcU:List Nat:=[0,1,0,4,0,16,0,64,192,508,1020,2047,4095,8191]
theorem weu {T:Tab} (hT:za Go.Proofs.Tryz.prog T) {ds:List D} {os:List (Nat×Ob)} {nx:Nat} {Q:D→List (Nat×Ob)→Nat→Prop} (hl:ds.length≤29) (h:awp Go.Proofs.Tryz.prog T 29 nx kdQ (Go.Proofs.Tryz.f68.body.getD .skip) (fin Go.Proofs.Tryz.prog [.cell 2 43] Q) ⟨prm 0 ds,os,nx⟩):ga Go.Proofs.Tryz.prog 68 ds os nx Q:=
 ya hT.toS (fn:=Go.Proofs.Tryz.f68) kdQ (by kernel_rfl) rfl rfl (by kernel_rfl) rfl hl rfl h
abbrev vdQ:Nat→Option (List Nat):=lvL [(0,[0]),(1,[0,3]),(2,[3,6,7,8]),(3,[3,6,7,8,9]),(4,[3,5,6,7,8]),(5,[3,5,6,7,8]),(6,[3,5,6,7,8]),(7,[3,6,7,8]),(8,[3,6,7,8]),(9,[2])]
theorem ueu {T:Tab} (hT:za Go.Proofs.Tryz.prog T) {ds:List D} {os:List (Nat×Ob)} {nx:Nat} {Q:D→List (Nat×Ob)→Nat→Prop} (hl:ds.length≤26) (h:awp Go.Proofs.Tryz.prog T 26 nx vdQ (Go.Proofs.Tryz.f69.body.getD .skip) (fin Go.Proofs.Tryz.prog [.tmp 2] Q) ⟨prm 0 ds,os,nx⟩):ga Go.Proofs.Tryz.prog 69 ds os nx Q:=
 ya hT.toS (fn:=Go.Proofs.Tryz.f69) vdQ (by kernel_rfl) rfl rfl (by kernel_rfl) rfl hl rfl h
abbrev keh:Nat→Option (List Nat):=lvL [(0,[0,1,2]),(1,[0,1,2,8,9,10]),(2,[0,1,2,8,9,10,18]),(3,[6,7]),(4,[0,1,2,8,22]),(5,[6,7]),(6,[0,1,2,8,29]),(7,[6,7]),(8,[6,7])]
theorem geu {T:Tab} (hT:za Go.Proofs.Tryz.prog T) {ds:List D} {os:List (Nat×Ob)} {nx:Nat} {Q:D→List (Nat×Ob)→Nat→Prop} (hl:ds.length≤41) (h:awp Go.Proofs.Tryz.prog T 41 nx keh (Go.Proofs.Tryz.f76.body.getD .skip) (fin Go.Proofs.Tryz.prog [.tmp 6, .tmp 7] Q) ⟨prm 0 ds,os,nx⟩):ga Go.Proofs.Tryz.prog 76 ds os nx Q:=
 ya hT.toS (fn:=Go.Proofs.Tryz.f76) keh (by kernel_rfl) rfl rfl (by kernel_rfl) rfl hl rfl h
abbrev veh:Nat→Option (List Nat):=lvL [(0,[0,1,2]),(1,[0,1,2,12]),(2,[6,7]),(3,[0,1,2,9]),(4,[0,1,2,24]),(5,[6,7]),(6,[0,1,2,27]),(7,[6,7]),(8,[6,7])]
theorem beu {T:Tab} (hT:za Go.Proofs.Tryz.prog T) {ds:List D} {os:List (Nat×Ob)} {nx:Nat} {Q:D→List (Nat×Ob)→Nat→Prop} (hl:ds.length≤33) (h:awp Go.Proofs.Tryz.prog T 33 nx veh (Go.Proofs.Tryz.f77.body.getD .skip) (fin Go.Proofs.Tryz.prog [.tmp 6, .tmp 7] Q) ⟨prm 0 ds,os,nx⟩):ga Go.Proofs.Tryz.prog 77 ds os nx Q:=
 ya hT.toS (fn:=Go.Proofs.Tryz.f77) veh (by kernel_rfl) rfl rfl (by kernel_rfl) rfl hl rfl h
abbrev weh:Nat→Option (List Nat):=lvL [(0,[1,2,3,4,8,9]),(1,[1,4,8,9,11,12,13]),(2,[1,4,8,9,11,12,13,24]),(3,[8,9,10]),(4,[1,4,8,9,12]),(5,[4,8,9,12]),(6,[8,9,10])]
@[go_sem] def ycU:List Nat:=[0,1,0,3,15,31]
theorem zev {T:Tab} (hT:za Go.Proofs.Tryz.prog T) {ds:List D} {os:List (Nat×Ob)} {nx:Nat} {Q:D→List (Nat×Ob)→Nat→Prop} (hl:ds.length≤35) (h:awp Go.Proofs.Tryz.prog T 35 nx weh (Go.Proofs.Tryz.f78.body.getD .skip) (fin Go.Proofs.Tryz.prog [.cell 8 48, .cell 9 26, .tmp 10] Q) ⟨prm 0 ds,os,nx⟩):ga Go.Proofs.Tryz.prog 78 ds os nx Q:=
 ya hT.toS (fn:=Go.Proofs.Tryz.f78) weh (by kernel_rfl) rfl rfl (by kernel_rfl) rfl hl rfl h
abbrev wdQ:Nat→Option (List Nat):=lvL [(0,[0,1]),(1,[0,1,10]),(2,[4]),(3,[0,1,12,13]),(4,[0,1,12,13,14]),(5,[0,1,5,12,13]),(6,[0,1,12,13,24]),(7,[4]),(8,[0,1,12,13]),(9,[4])]
@[go_sem] def xcU:List Nat:=[0,0,3,7,0,0,48,112,255]
theorem yev {T:Tab} (hT:za Go.Proofs.Tryz.prog T) {ds:List D} {os:List (Nat×Ob)} {nx:Nat} {Q:D→List (Nat×Ob)→Nat→Prop} (hl:ds.length≤26) (h:awp Go.Proofs.Tryz.prog T 26 nx wdQ (Go.Proofs.Tryz.f81.body.getD .skip) (fin Go.Proofs.Tryz.prog [.tmp 4] Q) ⟨prm 0 ds,os,nx⟩):ga Go.Proofs.Tryz.prog 81 ds os nx Q:=
 ya hT.toS (fn:=Go.Proofs.Tryz.f81) wdQ (by kernel_rfl) rfl rfl (by kernel_rfl) rfl hl rfl h
abbrev ueh:Nat→Option (List Nat):=lvL [(0,[1]),(1,[1,37]),(2,[2]),(3,[1,3]),(4,[1,54]),(5,[2]),(6,[4,5]),(7,[68]),(8,[2]),(9,[2])]
@[go_sem] def qcU:List Nat:=[0,1,3,7,15,7,39,127,255,511,7,1031,4095,8191]
theorem xev {T:Tab} (hT:za Go.Proofs.Tryz.prog T) {ds:List D} {os:List (Nat×Ob)} {nx:Nat} {Q:D→List (Nat×Ob)→Nat→Prop} (hl:ds.length≤69) (h:awp Go.Proofs.Tryz.prog T 69 nx ueh (Go.Proofs.Tryz.f82.body.getD .skip) (fin Go.Proofs.Tryz.prog [.tmp 2] Q) ⟨prm 0 ds,os,nx⟩):ga Go.Proofs.Tryz.prog 82 ds os nx Q:=
 ya hT.toS (fn:=Go.Proofs.Tryz.f82) ueh (by kernel_rfl) rfl rfl (by kernel_rfl) rfl hl rfl h
abbrev udQ:Nat→Option (List Nat):=lvL [(0,[0]),(1,[0,7]),(2,[2]),(3,[0,8,9,10]),(4,[0,8,9,10,11]),(5,[0,3,4,8,9,10]),(6,[0,8,9,10,35]),(7,[2]),(8,[0,8,9,10]),(9,[2])]
@[go_sem] def jcU:List Nat:=[0,1,3,7,7,23,63,127,7,263,1023,2047,4095,8191,16383,16383,65535,16383,147455,524287,1048575]
theorem qev {T:Tab} (hT:za Go.Proofs.Tryz.prog T) {ds:List D} {os:List (Nat×Ob)} {nx:Nat} {Q:D→List (Nat×Ob)→Nat→Prop} (hl:ds.length≤37) (h:awp Go.Proofs.Tryz.prog T 37 nx udQ (Go.Proofs.Tryz.f83.body.getD .skip) (fin Go.Proofs.Tryz.prog [.tmp 2] Q) ⟨prm 0 ds,os,nx⟩):ga Go.Proofs.Tryz.prog 83 ds os nx Q:=
 ya hT.toS (fn:=Go.Proofs.Tryz.f83) udQ (by kernel_rfl) rfl rfl (by kernel_rfl) rfl hl rfl h
abbrev gdQ:Nat→Option (List Nat):=lvL [(0,[0]),(1,[0,7]),(2,[2]),(3,[0,8,9,10]),(4,[0,8,9,10,11]),(5,[0,3,4,8,9,10]),(6,[0,8,9,10,32]),(7,[2]),(8,[0,8,9,10]),(9,[2])]
@[go_sem] def kcU:List Nat:=[0,1,3,7,15,31,63,127,127,383,1023,2047,127,4223,16383,32767,65535,131071]
theorem jev {T:Tab} (hT:za Go.Proofs.Tryz.prog T) {ds:List D} {os:List (Nat×Ob)} {nx:Nat} {Q:D→List (Nat×Ob)→Nat→Prop} (hl:ds.length≤34) (h:awp Go.Proofs.Tryz.prog T 34 nx gdQ (Go.Proofs.Tryz.f84.body.getD .skip) (fin Go.Proofs.Tryz.prog [.tmp 2] Q) ⟨prm 0 ds,os,nx⟩):ga Go.Proofs.Tryz.prog 84 ds os nx Q:=
 ya hT.toS (fn:=Go.Proofs.Tryz.f84) gdQ (by kernel_rfl) rfl rfl (by kernel_rfl) rfl hl rfl h
abbrev bdQ:Nat→Option (List Nat):=lvL [(0,[0]),(1,[0,7]),(2,[2]),(3,[0,8,9,10]),(4,[0,8,9,10,11]),(5,[0,3,4,8,9,10]),(6,[0,8,9,10,38]),(7,[2]),(8,[0,8,9,10]),(9,[2])]
@[go_sem] def vcU:List Nat:=[0,1,3,7,15,31,63,127,255,511,1023,2047,4095,8191,16383,16383,49151,131071,262143,16383,1048575,2097151,4194303,8388607]
theorem kev {T:Tab} (hT:za Go.Proofs.Tryz.prog T) {ds:List D} {os:List (Nat×Ob)} {nx:Nat} {Q:D→List (Nat×Ob)→Nat→Prop} (hl:ds.length≤40) (h:awp Go.Proofs.Tryz.prog T 40 nx bdQ (Go.Proofs.Tryz.f85.body.getD .skip) (fin Go.Proofs.Tryz.prog [.tmp 2] Q) ⟨prm 0 ds,os,nx⟩):ga Go.Proofs.Tryz.prog 85 ds os nx Q:=
 ya hT.toS (fn:=Go.Proofs.Tryz.f85) bdQ (by kernel_rfl) rfl rfl (by kernel_rfl) rfl hl rfl h
abbrev zdR:Nat→Option (List Nat):=lvL [(0,[1]),(1,[1,44]),(2,[2]),(3,[1,46,47,48]),(4,[1,46,47,48,49]),(5,[1,4,46,47,48]),(6,[1,46,47,48,56]),(7,[2]),(8,[1,46,47,48]),(9,[5]),(10,[67]),(11,[2]),(12,[2])]
theorem vev {T:Tab} (hT:za Go.Proofs.Tryz.prog T) {ds:List D} {os:List (Nat×Ob)} {nx:Nat} {Q:D→List (Nat×Ob)→Nat→Prop} (hl:ds.length≤68) (h:awp Go.Proofs.Tryz.prog T 68 nx zdR (Go.Proofs.Tryz.f86.body.getD .skip) (fin Go.Proofs.Tryz.prog [.tmp 2] Q) ⟨prm 0 ds,os,nx⟩):ga Go.Proofs.Tryz.prog 86 ds os nx Q:=
 ya hT.toS (fn:=Go.Proofs.Tryz.f86) zdR (by kernel_rfl) rfl rfl (by kernel_rfl) rfl hl rfl h
abbrev ydR:Nat→Option (List Nat):=lvL [(0,[1]),(1,[1,8]),(2,[2]),(3,[1,10,11,12]),(4,[1,10,11,12,13]),(5,[1,3,4,10,11,12]),(6,[1,10,11,12,49]),(7,[2]),(8,[1,10,11,12]),(9,[2])]
theorem wev {T:Tab} (hT:za Go.Proofs.Tryz.prog T) {ds:List D} {os:List (Nat×Ob)} {nx:Nat} {Q:D→List (Nat×Ob)→Nat→Prop} (hl:ds.length≤51) (h:awp Go.Proofs.Tryz.prog T 51 nx ydR (Go.Proofs.Tryz.f87.body.getD .skip) (fin Go.Proofs.Tryz.prog [.tmp 2] Q) ⟨prm 0 ds,os,nx⟩):ga Go.Proofs.Tryz.prog 87 ds os nx Q:=
 ya hT.toS (fn:=Go.Proofs.Tryz.f87) ydR (by kernel_rfl) rfl rfl (by kernel_rfl) rfl hl rfl h
abbrev xdR:Nat→Option (List Nat):=lvL [(0,[0]),(1,[0,7]),(2,[2]),(3,[0,8,9,10]),(4,[0,8,9,10,11]),(5,[0,3,4,8,9,10]),(6,[0,8,9,10,35]),(7,[2]),(8,[0,8,9,10]),(9,[2])]
@[go_sem] def wcU:List Nat:=[0,1,3,7,7,23,63,127,255,7,519,2047,4095,8191,16383,16383,65535,16383,147455,524287,1048575]
theorem uev {T:Tab} (hT:za Go.Proofs.Tryz.prog T) {ds:List D} {os:List (Nat×Ob)} {nx:Nat} {Q:D→List (Nat×Ob)→Nat→Prop} (hl:ds.length≤37) (h:awp Go.Proofs.Tryz.prog T 37 nx xdR (Go.Proofs.Tryz.f88.body.getD .skip) (fin Go.Proofs.Tryz.prog [.tmp 2] Q) ⟨prm 0 ds,os,nx⟩):ga Go.Proofs.Tryz.prog 88 ds os nx Q:=
 ya hT.toS (fn:=Go.Proofs.Tryz.f88) xdR (by kernel_rfl) rfl rfl (by kernel_rfl) rfl hl rfl h
abbrev qdR:Nat→Option (List Nat):=lvL [(0,[0]),(1,[0,7]),(2,[2]),(3,[0,8,9,10]),(4,[0,8,9,10,11]),(5,[0,3,4,8,9,10]),(6,[0,8,9,10,39]),(7,[2]),(8,[0,8,9,10]),(9,[2])]
@[go_sem] def qem:List Nat:=[0,1,3,7,7,23,63,127,255,7,519,2047,4095,8191,16383,32767,65535,131071,262143,524287,1048575,2097151,4194303,8388607,16777215]
theorem gev {T:Tab} (hT:za Go.Proofs.Tryz.prog T) {ds:List D} {os:List (Nat×Ob)} {nx:Nat} {Q:D→List (Nat×Ob)→Nat→Prop} (hl:ds.length≤41) (h:awp Go.Proofs.Tryz.prog T 41 nx qdR (Go.Proofs.Tryz.f89.body.getD .skip) (fin Go.Proofs.Tryz.prog [.tmp 2] Q) ⟨prm 0 ds,os,nx⟩):ga Go.Proofs.Tryz.prog 89 ds os nx Q:=
 ya hT.toS (fn:=Go.Proofs.Tryz.f89) qdR (by kernel_rfl) rfl rfl (by kernel_rfl) rfl hl rfl h
abbrev jdR:Nat→Option (List Nat):=lvL [(0,[0]),(1,[0,7]),(2,[2]),(3,[0,8,9,10]),(4,[0,8,9,10,11]),(5,[0,3,4,8,9,10]),(6,[0,8,9,10,38]),(7,[2]),(8,[0,8,9,10]),(9,[2])]
@[go_sem] def jem:List Nat:=[0,1,3,7,7,23,63,127,7,511,1023,2047,4095,8191,16383,32767,65535,131071,262143,524287,1048575,2097151,4194303,8388607]
theorem bev {T:Tab} (hT:za Go.Proofs.Tryz.prog T) {ds:List D} {os:List (Nat×Ob)} {nx:Nat} {Q:D→List (Nat×Ob)→Nat→Prop} (hl:ds.length≤40) (h:awp Go.Proofs.Tryz.prog T 40 nx jdR (Go.Proofs.Tryz.f90.body.getD .skip) (fin Go.Proofs.Tryz.prog [.tmp 2] Q) ⟨prm 0 ds,os,nx⟩):ga Go.Proofs.Tryz.prog 90 ds os nx Q:=
 ya hT.toS (fn:=Go.Proofs.Tryz.f90) jdR (by kernel_rfl) rfl rfl (by kernel_rfl) rfl hl rfl h
abbrev geh:Nat→Option (List Nat):=lvL [(0,[1]),(1,[2])]
@[go_sem] def ucU:List Nat:=[0,0,2,7,15,31]
theorem zew {T:Tab} (hT:za Go.Proofs.Tryz.prog T) {ds:List D} {os:List (Nat×Ob)} {nx:Nat} {Q:D→List (Nat×Ob)→Nat→Prop} (hl:ds.length≤8) (h:awp Go.Proofs.Tryz.prog T 8 nx geh (Go.Proofs.Tryz.f96.body.getD .skip) (fin Go.Proofs.Tryz.prog [.tmp 2] Q) ⟨prm 0 ds,os,nx⟩):ga Go.Proofs.Tryz.prog 96 ds os nx Q:=
 ya hT.toS (fn:=Go.Proofs.Tryz.f96) geh (by kernel_rfl) rfl rfl (by kernel_rfl) rfl hl rfl h
abbrev beh:Nat→Option (List Nat):=lvL [(0,[0,2,14]),(1,[])]
theorem kdD {T:Tab} (hT:za Go.Proofs.Tryz.prog T) {ds:List D} {os:List (Nat×Ob)} {nx:Nat} {Q:D→List (Nat×Ob)→Nat→Prop} (hl:ds.length≤19) (h:awp Go.Proofs.Tryz.prog T 19 nx beh (Go.Proofs.Tryz.f97.body.getD .skip) (fin Go.Proofs.Tryz.prog [] Q) ⟨prm 0 ds,os,nx⟩):ga Go.Proofs.Tryz.prog 97 ds os nx Q:=
 ya hT.toS (fn:=Go.Proofs.Tryz.f97) beh (by kernel_rfl) rfl rfl (by kernel_rfl) rfl hl rfl h
abbrev zei:Nat→Option (List Nat):=lvL [(0,[0,1,2,12]),(1,[0,1,6,7]),(2,[0,1,6,7,22]),(3,[]),(4,[])]
theorem vdD {T:Tab} (hT:za Go.Proofs.Tryz.prog T) {ds:List D} {os:List (Nat×Ob)} {nx:Nat} {Q:D→List (Nat×Ob)→Nat→Prop} (hl:ds.length≤30) (h:awp Go.Proofs.Tryz.prog T 30 nx zei (Go.Proofs.Tryz.f98.body.getD .skip) (fin Go.Proofs.Tryz.prog [] Q) ⟨prm 0 ds,os,nx⟩):ga Go.Proofs.Tryz.prog 98 ds os nx Q:=
 ya hT.toS (fn:=Go.Proofs.Tryz.f98) zei (by kernel_rfl) rfl rfl (by kernel_rfl) rfl hl rfl h
abbrev yei:Nat→Option (List Nat):=lvL [(0,[0,1]),(1,[3,4])]
theorem yew {T:Tab} (hT:za Go.Proofs.Tryz.prog T) {ds:List D} {os:List (Nat×Ob)} {nx:Nat} {Q:D→List (Nat×Ob)→Nat→Prop} (hl:ds.length≤10) (h:awp Go.Proofs.Tryz.prog T 10 nx yei (Go.Proofs.Tryz.f99.body.getD .skip) (fin Go.Proofs.Tryz.prog [.tmp 3, .tmp 4] Q) ⟨prm 0 ds,os,nx⟩):ga Go.Proofs.Tryz.prog 99 ds os nx Q:=
 ya hT.toS (fn:=Go.Proofs.Tryz.f99) yei (by kernel_rfl) rfl rfl (by kernel_rfl) rfl hl rfl h
abbrev gcC:Nat→Option (List Nat):=lvL [(0,[0,3]),(1,[0,3,6]),(2,[0,3,6,11]),(3,[4,5]),(4,[0,7]),(5,[4,5])]
theorem xdu {T:Tab} (hT:za Go.Proofs.Tryz.prog T) {ds:List D} {os:List (Nat×Ob)} {nx:Nat} {Q:D→List (Nat×Ob)→Nat→Prop} (hl:ds.length≤18) (h:awp Go.Proofs.Tryz.prog T 18 nx gcC (Go.Proofs.Tryz.f100.body.getD .skip) (fin Go.Proofs.Tryz.prog [.tmp 4, .tmp 5] Q) ⟨prm 0 ds,os,nx⟩):ga Go.Proofs.Tryz.prog 100 ds os nx Q:=
 ya hT.toS (fn:=Go.Proofs.Tryz.f100) gcC (by kernel_rfl) rfl rfl (by kernel_rfl) rfl hl rfl h
abbrev bcC:Nat→Option (List Nat):=lvL [(0,[0,2]),(1,[0,2,8]),(2,[2,3]),(3,[2,3])]
@[go_sem] def zbv:List Nat:=[0,0,2,6,14,1,63]
theorem vbS {T:Tab} (hT:za Go.Proofs.Tryz.prog T) {ds:List D} {os:List (Nat×Ob)} {nx:Nat} {Q:D→List (Nat×Ob)→Nat→Prop} (hl:ds.length≤19) (h:awp Go.Proofs.Tryz.prog T 19 nx bcC (Go.Proofs.Tryz.f101.body.getD .skip) (fin Go.Proofs.Tryz.prog [.cell 2 40, .tmp 3] Q) ⟨prm 0 ds,os,nx⟩):ga Go.Proofs.Tryz.prog 101 ds os nx Q:=
 ya hT.toS (fn:=Go.Proofs.Tryz.f101) bcC (by kernel_rfl) rfl rfl (by kernel_rfl) rfl hl rfl h
abbrev zcD:Nat→Option (List Nat):=lvL [(0,[0]),(1,[0])]
theorem qdu {T:Tab} (hT:za Go.Proofs.Tryz.prog T) {ds:List D} {os:List (Nat×Ob)} {nx:Nat} {Q:D→List (Nat×Ob)→Nat→Prop} (hl:ds.length≤2) (h:awp Go.Proofs.Tryz.prog T 2 nx zcD (Go.Proofs.Tryz.f102.body.getD .skip) (fin Go.Proofs.Tryz.prog [.cell 0 38] Q) ⟨prm 0 ds,os,nx⟩):ga Go.Proofs.Tryz.prog 102 ds os nx Q:=
 ya hT.toS (fn:=Go.Proofs.Tryz.f102) zcD (by kernel_rfl) rfl rfl (by kernel_rfl) rfl hl rfl h
abbrev ycD:Nat→Option (List Nat):=lvL [(0,[0]),(1,[0])]
theorem jdu {T:Tab} (hT:za Go.Proofs.Tryz.prog T) {ds:List D} {os:List (Nat×Ob)} {nx:Nat} {Q:D→List (Nat×Ob)→Nat→Prop} (hl:ds.length≤2) (h:awp Go.Proofs.Tryz.prog T 2 nx ycD (Go.Proofs.Tryz.f103.body.getD .skip) (fin Go.Proofs.Tryz.prog [.cell 0 38] Q) ⟨prm 0 ds,os,nx⟩):ga Go.Proofs.Tryz.prog 103 ds os nx Q:=
 ya hT.toS (fn:=Go.Proofs.Tryz.f103) ycD (by kernel_rfl) rfl rfl (by kernel_rfl) rfl hl rfl h
abbrev gb0:Nat→Option (List Nat):=lvL [(0,[0,1]),(1,[0,1,10]),(2,[4]),(3,[0,1,12,13]),(4,[0,1,12,13,14]),(5,[0,1,5,12,13]),(6,[0,1,12,13,25]),(7,[4]),(8,[0,1,12,13]),(9,[4])]
@[go_sem] def zd3:List Nat:=[0,0,3,7,0,0,48,112,255,511]
theorem kdu {T:Tab} (hT:za Go.Proofs.Tryz.prog T) {ds:List D} {os:List (Nat×Ob)} {nx:Nat} {Q:D→List (Nat×Ob)→Nat→Prop} (hl:ds.length≤27) (h:awp Go.Proofs.Tryz.prog T 27 nx gb0 (Go.Proofs.Tryz.f104.body.getD .skip) (fin Go.Proofs.Tryz.prog [.tmp 4] Q) ⟨prm 0 ds,os,nx⟩):ga Go.Proofs.Tryz.prog 104 ds os nx Q:=
 ya hT.toS (fn:=Go.Proofs.Tryz.f104) gb0 (by kernel_rfl) rfl rfl (by kernel_rfl) rfl hl rfl h
abbrev bb0:Nat→Option (List Nat):=lvL [(0,[0,1]),(1,[0,1,10]),(2,[4]),(3,[0,1,12,13]),(4,[0,1,12,13,14]),(5,[0,1,5,12,13]),(6,[0,1,12,13,24]),(7,[4]),(8,[0,1,12,13]),(9,[4])]
@[go_sem] def xcc:List Nat:=[0,0,3,7,0,0,48,112,255]
theorem vdu {T:Tab} (hT:za Go.Proofs.Tryz.prog T) {ds:List D} {os:List (Nat×Ob)} {nx:Nat} {Q:D→List (Nat×Ob)→Nat→Prop} (hl:ds.length≤26) (h:awp Go.Proofs.Tryz.prog T 26 nx bb0 (Go.Proofs.Tryz.f105.body.getD .skip) (fin Go.Proofs.Tryz.prog [.tmp 4] Q) ⟨prm 0 ds,os,nx⟩):ga Go.Proofs.Tryz.prog 105 ds os nx Q:=
 ya hT.toS (fn:=Go.Proofs.Tryz.f105) bb0 (by kernel_rfl) rfl rfl (by kernel_rfl) rfl hl rfl h
abbrev zb1:Nat→Option (List Nat):=lvL [(0,[0,1]),(1,[0,1,10]),(2,[4]),(3,[0,1,12,13]),(4,[0,1,12,13,14]),(5,[0,1,5,12,13]),(6,[0,1,12,13,24]),(7,[4]),(8,[0,1,12,13]),(9,[4])]
@[go_sem] def qcc:List Nat:=[0,0,3,7,0,0,48,112,255]
theorem wdu {T:Tab} (hT:za Go.Proofs.Tryz.prog T) {ds:List D} {os:List (Nat×Ob)} {nx:Nat} {Q:D→List (Nat×Ob)→Nat→Prop} (hl:ds.length≤26) (h:awp Go.Proofs.Tryz.prog T 26 nx zb1 (Go.Proofs.Tryz.f106.body.getD .skip) (fin Go.Proofs.Tryz.prog [.tmp 4] Q) ⟨prm 0 ds,os,nx⟩):ga Go.Proofs.Tryz.prog 106 ds os nx Q:=
 ya hT.toS (fn:=Go.Proofs.Tryz.f106) zb1 (by kernel_rfl) rfl rfl (by kernel_rfl) rfl hl rfl h
abbrev xcD:Nat→Option (List Nat):=lvL [(0,[2,3]),(1,[4])]
theorem udu {T:Tab} (hT:za Go.Proofs.Tryz.prog T) {ds:List D} {os:List (Nat×Ob)} {nx:Nat} {Q:D→List (Nat×Ob)→Nat→Prop} (hl:ds.length≤17) (h:awp Go.Proofs.Tryz.prog T 17 nx xcD (Go.Proofs.Tryz.f107.body.getD .skip) (fin Go.Proofs.Tryz.prog [.tmp 4] Q) ⟨prm 0 ds,os,nx⟩):ga Go.Proofs.Tryz.prog 107 ds os nx Q:=
 ya hT.toS (fn:=Go.Proofs.Tryz.f107) xcD (by kernel_rfl) rfl rfl (by kernel_rfl) rfl hl rfl h
abbrev qcD:Nat→Option (List Nat):=lvL [(0,[2,3]),(1,[4])]
theorem gdu {T:Tab} (hT:za Go.Proofs.Tryz.prog T) {ds:List D} {os:List (Nat×Ob)} {nx:Nat} {Q:D→List (Nat×Ob)→Nat→Prop} (hl:ds.length≤24) (h:awp Go.Proofs.Tryz.prog T 24 nx qcD (Go.Proofs.Tryz.f109.body.getD .skip) (fin Go.Proofs.Tryz.prog [.tmp 4] Q) ⟨prm 0 ds,os,nx⟩):ga Go.Proofs.Tryz.prog 109 ds os nx Q:=
 ya hT.toS (fn:=Go.Proofs.Tryz.f109) qcD (by kernel_rfl) rfl rfl (by kernel_rfl) rfl hl rfl h
abbrev jcD:Nat→Option (List Nat):=lvL [(0,[0,1]),(1,[0,6,7,8]),(2,[0,6,7,8,16]),(3,[4,5]),(4,[0,6,20]),(5,[4,5]),(6,[6,23]),(7,[4,5]),(8,[4,5])]
theorem bdu {T:Tab} (hT:za Go.Proofs.Tryz.prog T) {ds:List D} {os:List (Nat×Ob)} {nx:Nat} {Q:D→List (Nat×Ob)→Nat→Prop} (hl:ds.length≤30) (h:awp Go.Proofs.Tryz.prog T 30 nx jcD (Go.Proofs.Tryz.f111.body.getD .skip) (fin Go.Proofs.Tryz.prog [.tmp 4, .tmp 5] Q) ⟨prm 0 ds,os,nx⟩):ga Go.Proofs.Tryz.prog 111 ds os nx Q:=
 ya hT.toS (fn:=Go.Proofs.Tryz.f111) jcD (by kernel_rfl) rfl rfl (by kernel_rfl) rfl hl rfl h
abbrev ja5:Nat→Option (List Nat):=lvL [(0,[1,2,3,4]),(1,[1,2,3,10,11]),(2,[1,2,3,10,11,23]),(3,[8,9]),(4,[1,2,3,10,12]),(5,[1,2,3,10,32]),(6,[8,9]),(7,[3,10,13,14]),(8,[10,13,14,42,43,44]),(9,[10,13,14,42,43,44,45]),(10,[10,13,14,16,42,43,44]),(11,[10,13,14,16,42,43,44,49]),(12,[10,13,14,42,43,44]),(13,[10,13,14,42,43,44]),(14,[13,61]),(15,[8,9]),(16,[8,9])]
theorem zdv {T:Tab} (hT:za Go.Proofs.Tryz.prog T) {ds:List D} {os:List (Nat×Ob)} {nx:Nat} {Q:D→List (Nat×Ob)→Nat→Prop} (hl:ds.length≤63) (h:awp Go.Proofs.Tryz.prog T 63 nx ja5 (Go.Proofs.Tryz.f112.body.getD .skip) (fin Go.Proofs.Tryz.prog [.tmp 8, .tmp 9] Q) ⟨prm 0 ds,os,nx⟩):ga Go.Proofs.Tryz.prog 112 ds os nx Q:=
 ya hT.toS (fn:=Go.Proofs.Tryz.f112) ja5 (by kernel_rfl) rfl rfl (by kernel_rfl) rfl hl rfl h
abbrev yb1:Nat→Option (List Nat):=lvL [(0,[1]),(1,[1,3]),(2,[3,11,12,13]),(3,[3,11,12,13,14]),(4,[3,4,5,11,12,13]),(5,[3,11,12,13]),(6,[3,11,12,13]),(7,[2])]
theorem ydv {T:Tab} (hT:za Go.Proofs.Tryz.prog T) {ds:List D} {os:List (Nat×Ob)} {nx:Nat} {Q:D→List (Nat×Ob)→Nat→Prop} (hl:ds.length≤28) (h:awp Go.Proofs.Tryz.prog T 28 nx yb1 (Go.Proofs.Tryz.f113.body.getD .skip) (fin Go.Proofs.Tryz.prog [.tmp 2] Q) ⟨prm 0 ds,os,nx⟩):ga Go.Proofs.Tryz.prog 113 ds os nx Q:=
 ya hT.toS (fn:=Go.Proofs.Tryz.f113) yb1 (by kernel_rfl) rfl rfl (by kernel_rfl) rfl hl rfl h
abbrev xb1:Nat→Option (List Nat):=lvL [(0,[0,1,2,3]),(1,[0,1,3,10,11]),(2,[0,1,3,10,37]),(3,[8,9]),(4,[0,1,3,10,12]),(5,[0,1,3,12,40]),(6,[0,1,3,12,40,42]),(7,[0,1,3,12,13,14,40]),(8,[0,1,3,12,13,14,15,40]),(9,[0,1,3,12,13,14,18,19,40]),(10,[0,1,3,12,13,18,40,67]),(11,[8,9]),(12,[0,1,3,12,40]),(13,[8,9])]
theorem xdv {T:Tab} (hT:za Go.Proofs.Tryz.prog T) {ds:List D} {os:List (Nat×Ob)} {nx:Nat} {Q:D→List (Nat×Ob)→Nat→Prop} (hl:ds.length≤72) (h:awp Go.Proofs.Tryz.prog T 72 nx xb1 (Go.Proofs.Tryz.f114.body.getD .skip) (fin Go.Proofs.Tryz.prog [.tmp 8, .tmp 9] Q) ⟨prm 0 ds,os,nx⟩):ga Go.Proofs.Tryz.prog 114 ds os nx Q:=
 ya hT.toS (fn:=Go.Proofs.Tryz.f114) xb1 (by kernel_rfl) rfl rfl (by kernel_rfl) rfl hl rfl h
abbrev kcD:Nat→Option (List Nat):=lvL [(0,[1]),(1,[2])]
theorem qdv {T:Tab} (hT:za Go.Proofs.Tryz.prog T) {ds:List D} {os:List (Nat×Ob)} {nx:Nat} {Q:D→List (Nat×Ob)→Nat→Prop} (hl:ds.length≤6) (h:awp Go.Proofs.Tryz.prog T 6 nx kcD (Go.Proofs.Tryz.f116.body.getD .skip) (fin Go.Proofs.Tryz.prog [.tmp 2] Q) ⟨prm 0 ds,os,nx⟩):ga Go.Proofs.Tryz.prog 116 ds os nx Q:=
 ya hT.toS (fn:=Go.Proofs.Tryz.f116) kcD (by kernel_rfl) rfl rfl (by kernel_rfl) rfl hl rfl h
abbrev vcD:Nat→Option (List Nat):=lvL [(0,[0,1]),(1,[4])]
theorem xcv {T:Tab} (hT:za Go.Proofs.Tryz.prog T) {ds:List D} {os:List (Nat×Ob)} {nx:Nat} {Q:D→List (Nat×Ob)→Nat→Prop} (hl:ds.length≤9) (h:awp Go.Proofs.Tryz.prog T 9 nx vcD (Go.Proofs.Tryz.f117.body.getD .skip) (fin Go.Proofs.Tryz.prog [.tmp 4] Q) ⟨prm 0 ds,os,nx⟩):ga Go.Proofs.Tryz.prog 117 ds os nx Q:=
 ya hT.toS (fn:=Go.Proofs.Tryz.f117) vcD (by kernel_rfl) rfl rfl (by kernel_rfl) rfl hl rfl h
abbrev qb1:Nat→Option (List Nat):=lvL [(0,[1]),(1,[1,4]),(2,[1,4,13]),(3,[2,3]),(4,[4,15,16,17]),(5,[4,15,16,17,18]),(6,[4,5,6,15,16,17]),(7,[4,5,6,8,15,16,17]),(8,[4,5,6,15,16,17,56]),(9,[2,3]),(10,[4,15,16,17]),(11,[4,15,16,17]),(12,[2,3])]
theorem jdv {T:Tab} (hT:za Go.Proofs.Tryz.prog T) {ds:List D} {os:List (Nat×Ob)} {nx:Nat} {Q:D→List (Nat×Ob)→Nat→Prop} (hl:ds.length≤63) (h:awp Go.Proofs.Tryz.prog T 63 nx qb1 (Go.Proofs.Tryz.f118.body.getD .skip) (fin Go.Proofs.Tryz.prog [.tmp 2, .tmp 3] Q) ⟨prm 0 ds,os,nx⟩):ga Go.Proofs.Tryz.prog 118 ds os nx Q:=
 ya hT.toS (fn:=Go.Proofs.Tryz.f118) qb1 (by kernel_rfl) rfl rfl (by kernel_rfl) rfl hl rfl h
abbrev wbC:Nat→Option (List Nat):=lvL [(0,[2,3,4]),(1,[2,3,4,7,8]),(2,[2,3,4,7,18]),(3,[4,5,6]),(4,[2,3,4,7,30]),(5,[4,5,6]),(6,[2,3,4,9,10]),(7,[2,3,4,9,44]),(8,[2,3,4,9]),(9,[2,3,4,9,49]),(10,[4,5,6]),(11,[2,4,9]),(12,[2,4,9]),(13,[2,4,9,63,64,65]),(14,[2,4,9,63,64,65,66]),(15,[2,4,9,11,12,63,64,65]),(16,[2,4,9,63,64,65]),(17,[2,4,9,63,64,65]),(18,[4,5,6])]
@[go_sem] def kbJ:List Nat:=[0,1,3,0,8,31,63,127]
@[go_sem] def wa1:List Nat:=[0,1,0,0,8,24,63,127,255]
theorem kdv {T:Tab} (hT:za Go.Proofs.Tryz.prog T) {ds:List D} {os:List (Nat×Ob)} {nx:Nat} {Q:D→List (Nat×Ob)→Nat→Prop} (hl:ds.length≤81) (h:awp Go.Proofs.Tryz.prog T 81 nx wbC (Go.Proofs.Tryz.f119.body.getD .skip) (fin Go.Proofs.Tryz.prog [.cell 4 43, .tmp 5, .tmp 6] Q) ⟨prm 0 ds,os,nx⟩):ga Go.Proofs.Tryz.prog 119 ds os nx Q:=
 ya hT.toS (fn:=Go.Proofs.Tryz.f119) wbC (by kernel_rfl) rfl rfl (by kernel_rfl) rfl hl rfl h
abbrev jb1:Nat→Option (List Nat):=lvL [(0,[1]),(1,[1,3,4]),(2,[1,3,4,6]),(3,[1,3,4,6,7]),(4,[1,3,4,82,83,84]),(5,[1,3,4,82,83,84,85]),(6,[1,3,4,9,82,83,84]),(7,[1,3,4,9,82,83,84,92]),(8,[1,3,4,82,83,84]),(9,[1,3,4,82,83,84]),(10,[1,3,4,82,83,84]),(11,[112]),(12,[2]),(13,[2])]
@[go_sem] def jcc:List Nat:=[0,1,3,7,0,16,48,112,0,256,768,0,2048,6144,14336,30720,63488,129024,260096,522240,1046528,2095104,4192256,8386560,16775168,33552384,67108608,0,134217728,402653184,939524096,0,2147483648,6442450944,15032385536,0,34359738368,135291469824,0,274877906944,824633720832,1924145348608,0,4398046511104,13194139533312,30786325577728,65970706053120,136339450230784,277076938586112,558551915296768,1121501868718080,2247401775560704,4499201589245952,9002801216616448,18010000471357440,9002801216616448,72053195999803392,144110790037731328,288225978113587200,576460477433903104,1152921504606846975,2305843009213693951,0]
theorem vdv {T:Tab} (hT:za Go.Proofs.Tryz.prog T) {ds:List D} {os:List (Nat×Ob)} {nx:Nat} {Q:D→List (Nat×Ob)→Nat→Prop} (hl:ds.length≤113) (h:awp Go.Proofs.Tryz.prog T 113 nx jb1 (Go.Proofs.Tryz.f120.body.getD .skip) (fin Go.Proofs.Tryz.prog [.tmp 2] Q) ⟨prm 0 ds,os,nx⟩):ga Go.Proofs.Tryz.prog 120 ds os nx Q:=
 ya hT.toS (fn:=Go.Proofs.Tryz.f120) jb1 (by kernel_rfl) rfl rfl (by kernel_rfl) rfl hl rfl h
abbrev kb1:Nat→Option (List Nat):=lvL [(0,[0,2]),(1,[0,2,4]),(2,[0,2,19]),(3,[2,3]),(4,[2,20,21,22]),(5,[2,20,21,22,23]),(6,[2,6,20,21,22]),(7,[2,3,20,21,22]),(8,[2,3,20,21,22,35]),(9,[2,3]),(10,[2,20,21,22]),(11,[2,3])]
theorem wdv {T:Tab} (hT:za Go.Proofs.Tryz.prog T) {ds:List D} {os:List (Nat×Ob)} {nx:Nat} {Q:D→List (Nat×Ob)→Nat→Prop} (hl:ds.length≤39) (h:awp Go.Proofs.Tryz.prog T 39 nx kb1 (Go.Proofs.Tryz.f121.body.getD .skip) (fin Go.Proofs.Tryz.prog [.tmp 2, .tmp 3] Q) ⟨prm 0 ds,os,nx⟩):ga Go.Proofs.Tryz.prog 121 ds os nx Q:=
 ya hT.toS (fn:=Go.Proofs.Tryz.f121) kb1 (by kernel_rfl) rfl rfl (by kernel_rfl) rfl hl rfl h
abbrev wcD:Nat→Option (List Nat):=lvL [(0,[0]),(1,[10]),(2,[2]),(3,[2])]
theorem udv {T:Tab} (hT:za Go.Proofs.Tryz.prog T) {ds:List D} {os:List (Nat×Ob)} {nx:Nat} {Q:D→List (Nat×Ob)→Nat→Prop} (hl:ds.length≤11) (h:awp Go.Proofs.Tryz.prog T 11 nx wcD (Go.Proofs.Tryz.f122.body.getD .skip) (fin Go.Proofs.Tryz.prog [.tmp 2] Q) ⟨prm 0 ds,os,nx⟩):ga Go.Proofs.Tryz.prog 122 ds os nx Q:=
 ya hT.toS (fn:=Go.Proofs.Tryz.f122) wcD (by kernel_rfl) rfl rfl (by kernel_rfl) rfl hl rfl h
abbrev ucD:Nat→Option (List Nat):=lvL [(0,[0]),(1,[0,3]),(2,[2]),(3,[0,8]),(4,[2]),(5,[11]),(6,[2]),(7,[2])]
theorem gdv {T:Tab} (hT:za Go.Proofs.Tryz.prog T) {ds:List D} {os:List (Nat×Ob)} {nx:Nat} {Q:D→List (Nat×Ob)→Nat→Prop} (hl:ds.length≤14) (h:awp Go.Proofs.Tryz.prog T 14 nx ucD (Go.Proofs.Tryz.f123.body.getD .skip) (fin Go.Proofs.Tryz.prog [.tmp 2] Q) ⟨prm 0 ds,os,nx⟩):ga Go.Proofs.Tryz.prog 123 ds os nx Q:=
 ya hT.toS (fn:=Go.Proofs.Tryz.f123) ucD (by kernel_rfl) rfl rfl (by kernel_rfl) rfl hl rfl h
abbrev gcD:Nat→Option (List Nat):=lvL [(0,[0]),(1,[0,4]),(2,[2]),(3,[2])]
theorem bdv {T:Tab} (hT:za Go.Proofs.Tryz.prog T) {ds:List D} {os:List (Nat×Ob)} {nx:Nat} {Q:D→List (Nat×Ob)→Nat→Prop} (hl:ds.length≤8) (h:awp Go.Proofs.Tryz.prog T 8 nx gcD (Go.Proofs.Tryz.f124.body.getD .skip) (fin Go.Proofs.Tryz.prog [.tmp 2] Q) ⟨prm 0 ds,os,nx⟩):ga Go.Proofs.Tryz.prog 124 ds os nx Q:=
 ya hT.toS (fn:=Go.Proofs.Tryz.f124) gcD (by kernel_rfl) rfl rfl (by kernel_rfl) rfl hl rfl h
abbrev bcD:Nat→Option (List Nat):=lvL [(0,[0]),(1,[0,4]),(2,[2]),(3,[2])]
theorem zdw {T:Tab} (hT:za Go.Proofs.Tryz.prog T) {ds:List D} {os:List (Nat×Ob)} {nx:Nat} {Q:D→List (Nat×Ob)→Nat→Prop} (hl:ds.length≤8) (h:awp Go.Proofs.Tryz.prog T 8 nx bcD (Go.Proofs.Tryz.f127.body.getD .skip) (fin Go.Proofs.Tryz.prog [.tmp 2] Q) ⟨prm 0 ds,os,nx⟩):ga Go.Proofs.Tryz.prog 127 ds os nx Q:=
 ya hT.toS (fn:=Go.Proofs.Tryz.f127) bcD (by kernel_rfl) rfl rfl (by kernel_rfl) rfl hl rfl h
abbrev zcE:Nat→Option (List Nat):=lvL [(0,[0]),(1,[0,4]),(2,[2]),(3,[2])]
theorem ydw {T:Tab} (hT:za Go.Proofs.Tryz.prog T) {ds:List D} {os:List (Nat×Ob)} {nx:Nat} {Q:D→List (Nat×Ob)→Nat→Prop} (hl:ds.length≤8) (h:awp Go.Proofs.Tryz.prog T 8 nx zcE (Go.Proofs.Tryz.f128.body.getD .skip) (fin Go.Proofs.Tryz.prog [.tmp 2] Q) ⟨prm 0 ds,os,nx⟩):ga Go.Proofs.Tryz.prog 128 ds os nx Q:=
 ya hT.toS (fn:=Go.Proofs.Tryz.f128) zcE (by kernel_rfl) rfl rfl (by kernel_rfl) rfl hl rfl h
abbrev ycE:Nat→Option (List Nat):=lvL [(0,[0]),(1,[0,4]),(2,[2]),(3,[2])]
theorem qcv {T:Tab} (hT:za Go.Proofs.Tryz.prog T) {ds:List D} {os:List (Nat×Ob)} {nx:Nat} {Q:D→List (Nat×Ob)→Nat→Prop} (hl:ds.length≤8) (h:awp Go.Proofs.Tryz.prog T 8 nx ycE (Go.Proofs.Tryz.f129.body.getD .skip) (fin Go.Proofs.Tryz.prog [.tmp 2] Q) ⟨prm 0 ds,os,nx⟩):ga Go.Proofs.Tryz.prog 129 ds os nx Q:=
 ya hT.toS (fn:=Go.Proofs.Tryz.f129) ycE (by kernel_rfl) rfl rfl (by kernel_rfl) rfl hl rfl h
abbrev xcE:Nat→Option (List Nat):=lvL [(0,[0]),(1,[0,4]),(2,[2]),(3,[2])]
theorem xdw {T:Tab} (hT:za Go.Proofs.Tryz.prog T) {ds:List D} {os:List (Nat×Ob)} {nx:Nat} {Q:D→List (Nat×Ob)→Nat→Prop} (hl:ds.length≤8) (h:awp Go.Proofs.Tryz.prog T 8 nx xcE (Go.Proofs.Tryz.f130.body.getD .skip) (fin Go.Proofs.Tryz.prog [.tmp 2] Q) ⟨prm 0 ds,os,nx⟩):ga Go.Proofs.Tryz.prog 130 ds os nx Q:=
 ya hT.toS (fn:=Go.Proofs.Tryz.f130) xcE (by kernel_rfl) rfl rfl (by kernel_rfl) rfl hl rfl h
abbrev qcE:Nat→Option (List Nat):=lvL [(0,[0]),(1,[0,4]),(2,[2]),(3,[2])]
theorem qdw {T:Tab} (hT:za Go.Proofs.Tryz.prog T) {ds:List D} {os:List (Nat×Ob)} {nx:Nat} {Q:D→List (Nat×Ob)→Nat→Prop} (hl:ds.length≤8) (h:awp Go.Proofs.Tryz.prog T 8 nx qcE (Go.Proofs.Tryz.f131.body.getD .skip) (fin Go.Proofs.Tryz.prog [.tmp 2] Q) ⟨prm 0 ds,os,nx⟩):ga Go.Proofs.Tryz.prog 131 ds os nx Q:=
 ya hT.toS (fn:=Go.Proofs.Tryz.f131) qcE (by kernel_rfl) rfl rfl (by kernel_rfl) rfl hl rfl h
abbrev jcE:Nat→Option (List Nat):=lvL [(0,[0]),(1,[0,4]),(2,[2]),(3,[2])]
theorem jdw {T:Tab} (hT:za Go.Proofs.Tryz.prog T) {ds:List D} {os:List (Nat×Ob)} {nx:Nat} {Q:D→List (Nat×Ob)→Nat→Prop} (hl:ds.length≤8) (h:awp Go.Proofs.Tryz.prog T 8 nx jcE (Go.Proofs.Tryz.f132.body.getD .skip) (fin Go.Proofs.Tryz.prog [.tmp 2] Q) ⟨prm 0 ds,os,nx⟩):ga Go.Proofs.Tryz.prog 132 ds os nx Q:=
 ya hT.toS (fn:=Go.Proofs.Tryz.f132) jcE (by kernel_rfl) rfl rfl (by kernel_rfl) rfl hl rfl h
abbrev kcE:Nat→Option (List Nat):=lvL [(0,[0]),(1,[0,4]),(2,[2]),(3,[2])]
theorem kdw {T:Tab} (hT:za Go.Proofs.Tryz.prog T) {ds:List D} {os:List (Nat×Ob)} {nx:Nat} {Q:D→List (Nat×Ob)→Nat→Prop} (hl:ds.length≤8) (h:awp Go.Proofs.Tryz.prog T 8 nx kcE (Go.Proofs.Tryz.f133.body.getD .skip) (fin Go.Proofs.Tryz.prog [.tmp 2] Q) ⟨prm 0 ds,os,nx⟩):ga Go.Proofs.Tryz.prog 133 ds os nx Q:=
 ya hT.toS (fn:=Go.Proofs.Tryz.f133) kcE (by kernel_rfl) rfl rfl (by kernel_rfl) rfl hl rfl h
abbrev vcE:Nat→Option (List Nat):=lvL [(0,[0]),(1,[0,4]),(2,[2]),(3,[2])]
theorem vdw {T:Tab} (hT:za Go.Proofs.Tryz.prog T) {ds:List D} {os:List (Nat×Ob)} {nx:Nat} {Q:D→List (Nat×Ob)→Nat→Prop} (hl:ds.length≤8) (h:awp Go.Proofs.Tryz.prog T 8 nx vcE (Go.Proofs.Tryz.f134.body.getD .skip) (fin Go.Proofs.Tryz.prog [.tmp 2] Q) ⟨prm 0 ds,os,nx⟩):ga Go.Proofs.Tryz.prog 134 ds os nx Q:=
 ya hT.toS (fn:=Go.Proofs.Tryz.f134) vcE (by kernel_rfl) rfl rfl (by kernel_rfl) rfl hl rfl h
abbrev wcE:Nat→Option (List Nat):=lvL [(0,[0]),(1,[0,4]),(2,[2]),(3,[2])]
theorem wdw {T:Tab} (hT:za Go.Proofs.Tryz.prog T) {ds:List D} {os:List (Nat×Ob)} {nx:Nat} {Q:D→List (Nat×Ob)→Nat→Prop} (hl:ds.length≤8) (h:awp Go.Proofs.Tryz.prog T 8 nx wcE (Go.Proofs.Tryz.f135.body.getD .skip) (fin Go.Proofs.Tryz.prog [.tmp 2] Q) ⟨prm 0 ds,os,nx⟩):ga Go.Proofs.Tryz.prog 135 ds os nx Q:=
 ya hT.toS (fn:=Go.Proofs.Tryz.f135) wcE (by kernel_rfl) rfl rfl (by kernel_rfl) rfl hl rfl h
abbrev ucE:Nat→Option (List Nat):=lvL [(0,[0]),(1,[0,4]),(2,[2]),(3,[2])]
theorem udw {T:Tab} (hT:za Go.Proofs.Tryz.prog T) {ds:List D} {os:List (Nat×Ob)} {nx:Nat} {Q:D→List (Nat×Ob)→Nat→Prop} (hl:ds.length≤8) (h:awp Go.Proofs.Tryz.prog T 8 nx ucE (Go.Proofs.Tryz.f136.body.getD .skip) (fin Go.Proofs.Tryz.prog [.tmp 2] Q) ⟨prm 0 ds,os,nx⟩):ga Go.Proofs.Tryz.prog 136 ds os nx Q:=
 ya hT.toS (fn:=Go.Proofs.Tryz.f136) ucE (by kernel_rfl) rfl rfl (by kernel_rfl) rfl hl rfl h
abbrev gcE:Nat→Option (List Nat):=lvL [(0,[0]),(1,[0,4]),(2,[2]),(3,[2])]
theorem gdw {T:Tab} (hT:za Go.Proofs.Tryz.prog T) {ds:List D} {os:List (Nat×Ob)} {nx:Nat} {Q:D→List (Nat×Ob)→Nat→Prop} (hl:ds.length≤8) (h:awp Go.Proofs.Tryz.prog T 8 nx gcE (Go.Proofs.Tryz.f137.body.getD .skip) (fin Go.Proofs.Tryz.prog [.tmp 2] Q) ⟨prm 0 ds,os,nx⟩):ga Go.Proofs.Tryz.prog 137 ds os nx Q:=
 ya hT.toS (fn:=Go.Proofs.Tryz.f137) gcE (by kernel_rfl) rfl rfl (by kernel_rfl) rfl hl rfl h
abbrev bcE:Nat→Option (List Nat):=lvL [(0,[0,3]),(1,[4])]
theorem bdw {T:Tab} (hT:za Go.Proofs.Tryz.prog T) {ds:List D} {os:List (Nat×Ob)} {nx:Nat} {Q:D→List (Nat×Ob)→Nat→Prop} (hl:ds.length≤8) (h:awp Go.Proofs.Tryz.prog T 8 nx bcE (Go.Proofs.Tryz.f139.body.getD .skip) (fin Go.Proofs.Tryz.prog [.tmp 4] Q) ⟨prm 0 ds,os,nx⟩):ga Go.Proofs.Tryz.prog 139 ds os nx Q:=
 ya hT.toS (fn:=Go.Proofs.Tryz.f139) bcE (by kernel_rfl) rfl rfl (by kernel_rfl) rfl hl rfl h
abbrev vb1:Nat→Option (List Nat):=lvL [(0,[0]),(1,[0,3]),(2,[3,6,7,8]),(3,[3,6,7,8,9]),(4,[3,5,6,7,8]),(5,[3,6,7,8]),(6,[3,6,7,8]),(7,[2])]
theorem zdx {T:Tab} (hT:za Go.Proofs.Tryz.prog T) {ds:List D} {os:List (Nat×Ob)} {nx:Nat} {Q:D→List (Nat×Ob)→Nat→Prop} (hl:ds.length≤19) (h:awp Go.Proofs.Tryz.prog T 19 nx vb1 (Go.Proofs.Tryz.f140.body.getD .skip) (fin Go.Proofs.Tryz.prog [.tmp 2] Q) ⟨prm 0 ds,os,nx⟩):ga Go.Proofs.Tryz.prog 140 ds os nx Q:=
 ya hT.toS (fn:=Go.Proofs.Tryz.f140) vb1 (by kernel_rfl) rfl rfl (by kernel_rfl) rfl hl rfl h
abbrev wb1:Nat→Option (List Nat):=lvL [(0,[0,1,4]),(1,[1,4,8,9,10]),(2,[1,4,8,9,10,11]),(3,[1,4,7,8,9,10]),(4,[1,4,7,8,9,10,17]),(5,[4,5]),(6,[1,4,8,9,10]),(7,[4,5])]
theorem ydx {T:Tab} (hT:za Go.Proofs.Tryz.prog T) {ds:List D} {os:List (Nat×Ob)} {nx:Nat} {Q:D→List (Nat×Ob)→Nat→Prop} (hl:ds.length≤21) (h:awp Go.Proofs.Tryz.prog T 21 nx wb1 (Go.Proofs.Tryz.f146.body.getD .skip) (fin Go.Proofs.Tryz.prog [.cell 4 70, .tmp 5] Q) ⟨prm 0 ds,os,nx⟩):ga Go.Proofs.Tryz.prog 146 ds os nx Q:=
 ya hT.toS (fn:=Go.Proofs.Tryz.f146) wb1 (by kernel_rfl) rfl rfl (by kernel_rfl) rfl hl rfl h
abbrev ub1:Nat→Option (List Nat):=lvL [(0,[0]),(1,[0,3]),(2,[3,6,7,8]),(3,[3,6,7,8,9]),(4,[3,5,6,7,8]),(5,[3,6,7,8]),(6,[3,6,7,8]),(7,[2])]
theorem xdx {T:Tab} (hT:za Go.Proofs.Tryz.prog T) {ds:List D} {os:List (Nat×Ob)} {nx:Nat} {Q:D→List (Nat×Ob)→Nat→Prop} (hl:ds.length≤18) (h:awp Go.Proofs.Tryz.prog T 18 nx ub1 (Go.Proofs.Tryz.f149.body.getD .skip) (fin Go.Proofs.Tryz.prog [.tmp 2] Q) ⟨prm 0 ds,os,nx⟩):ga Go.Proofs.Tryz.prog 149 ds os nx Q:=
 ya hT.toS (fn:=Go.Proofs.Tryz.f149) ub1 (by kernel_rfl) rfl rfl (by kernel_rfl) rfl hl rfl h
abbrev gb1:Nat→Option (List Nat):=lvL [(0,[0]),(1,[5,6,7]),(2,[5,6,7,8]),(3,[4,5,6,7]),(4,[5,6,7,12]),(5,[2]),(6,[5,6,7]),(7,[2])]
theorem qdx {T:Tab} (hT:za Go.Proofs.Tryz.prog T) {ds:List D} {os:List (Nat×Ob)} {nx:Nat} {Q:D→List (Nat×Ob)→Nat→Prop} (hl:ds.length≤14) (h:awp Go.Proofs.Tryz.prog T 14 nx gb1 (Go.Proofs.Tryz.f152.body.getD .skip) (fin Go.Proofs.Tryz.prog [.tmp 2] Q) ⟨prm 0 ds,os,nx⟩):ga Go.Proofs.Tryz.prog 152 ds os nx Q:=
 ya hT.toS (fn:=Go.Proofs.Tryz.f152) gb1 (by kernel_rfl) rfl rfl (by kernel_rfl) rfl hl rfl h
abbrev zcF:Nat→Option (List Nat):=lvL [(0,[0,1]),(1,[0,1,7]),(2,[0,1,7,13]),(3,[4,5,6]),(4,[8,9]),(5,[4,5,6])]
theorem jdx {T:Tab} (hT:za Go.Proofs.Tryz.prog T) {ds:List D} {os:List (Nat×Ob)} {nx:Nat} {Q:D→List (Nat×Ob)→Nat→Prop} (hl:ds.length≤23) (h:awp Go.Proofs.Tryz.prog T 23 nx zcF (Go.Proofs.Tryz.f154.body.getD .skip) (fin Go.Proofs.Tryz.prog [.tmp 4, .tmp 5, .tmp 6] Q) ⟨prm 0 ds,os,nx⟩):ga Go.Proofs.Tryz.prog 154 ds os nx Q:=
 ya hT.toS (fn:=Go.Proofs.Tryz.f154) zcF (by kernel_rfl) rfl rfl (by kernel_rfl) rfl hl rfl h
abbrev ycF:Nat→Option (List Nat):=lvL [(0,[0,1,2]),(1,[0,1,2]),(2,[0,1,2,7]),(3,[0,1,2,7,16]),(4,[6]),(5,[0,1,2,7,8]),(6,[0,1,2,7,8,22]),(7,[6]),(8,[0,1,2,7,8,31]),(9,[0,1,2,7,9]),(10,[0,1,7,9]),(11,[9]),(12,[6]),(13,[0,1,2,7,8]),(14,[0,1,2,7,8,68]),(15,[0,1,2]),(16,[0]),(17,[6]),(18,[0,1,7]),(19,[0]),(20,[6])]
@[go_sem] def vbJ:List Nat:=[0,0,0,6,15,0,0,96,255]
@[go_sem] def wbJ:List Nat:=[0,0,0,6,15,0,0,96,255]
theorem jcv {T:Tab} (hT:za Go.Proofs.Tryz.prog T) {ds:List D} {os:List (Nat×Ob)} {nx:Nat} {Q:D→List (Nat×Ob)→Nat→Prop} (hl:ds.length≤95) (h:awp Go.Proofs.Tryz.prog T 95 nx ycF (Go.Proofs.Tryz.f155.body.getD .skip) (fin Go.Proofs.Tryz.prog [.tmp 6] Q) ⟨prm 0 ds,os,nx⟩):ga Go.Proofs.Tryz.prog 155 ds os nx Q:=
 ya hT.toS (fn:=Go.Proofs.Tryz.f155) ycF (by kernel_rfl) rfl rfl (by kernel_rfl) rfl hl rfl h
abbrev bb1:Nat→Option (List Nat):=lvL [(0,[0,1]),(1,[1,7,8,9]),(2,[1,7,8,9,10]),(3,[1,6,7,8,9]),(4,[1,7,8,9,16]),(5,[4]),(6,[1,7,8,9]),(7,[4])]
theorem vdx {T:Tab} (hT:za Go.Proofs.Tryz.prog T) {ds:List D} {os:List (Nat×Ob)} {nx:Nat} {Q:D→List (Nat×Ob)→Nat→Prop} (hl:ds.length≤18) (h:awp Go.Proofs.Tryz.prog T 18 nx bb1 (Go.Proofs.Tryz.f156.body.getD .skip) (fin Go.Proofs.Tryz.prog [.tmp 4] Q) ⟨prm 0 ds,os,nx⟩):ga Go.Proofs.Tryz.prog 156 ds os nx Q:=
 ya hT.toS (fn:=Go.Proofs.Tryz.f156) bb1 (by kernel_rfl) rfl rfl (by kernel_rfl) rfl hl rfl h
abbrev ubC:Nat→Option (List Nat):=lvL [(0,[0,3]),(1,[0,3,5]),(2,[0,3,5,10,11,12]),(3,[0,3,5,10,11,12,13]),(4,[0,3,5,7,10,11,12]),(5,[0,3,5,7,10,11,12,20]),(6,[0,3,5,10,11,12]),(7,[0,3,5,10,11,12]),(8,[0,3,5]),(9,[3,5,30,31,32]),(10,[3,5,30,31,32,33]),(11,[3,5,9,30,31,32]),(12,[3,5,9,30,31,32,40]),(13,[3,5,30,31,32]),(14,[3,5,30,31,32]),(15,[4])]
theorem wdx {T:Tab} (hT:za Go.Proofs.Tryz.prog T) {ds:List D} {os:List (Nat×Ob)} {nx:Nat} {Q:D→List (Nat×Ob)→Nat→Prop} (hl:ds.length≤47) (h:awp Go.Proofs.Tryz.prog T 47 nx ubC (Go.Proofs.Tryz.f157.body.getD .skip) (fin Go.Proofs.Tryz.prog [.tmp 4] Q) ⟨prm 0 ds,os,nx⟩):ga Go.Proofs.Tryz.prog 157 ds os nx Q:=
 ya hT.toS (fn:=Go.Proofs.Tryz.f157) ubC (by kernel_rfl) rfl rfl (by kernel_rfl) rfl hl rfl h
abbrev xcF:Nat→Option (List Nat):=lvL [(0,[1,2,3,6,7]),(1,[1,6,7,9,10,11]),(2,[1,6,7,9,10,11,23]),(3,[6,7,8]),(4,[6,7,8])]
@[go_sem] def kcc:List Nat:=[0,0,0,4,12,31,63,127,127,127,0,1279,3583,8191]
theorem udx {T:Tab} (hT:za Go.Proofs.Tryz.prog T) {ds:List D} {os:List (Nat×Ob)} {nx:Nat} {Q:D→List (Nat×Ob)→Nat→Prop} (hl:ds.length≤31) (h:awp Go.Proofs.Tryz.prog T 31 nx xcF (Go.Proofs.Tryz.f158.body.getD .skip) (fin Go.Proofs.Tryz.prog [.cell 6 43, .cell 7 26, .tmp 8] Q) ⟨prm 0 ds,os,nx⟩):ga Go.Proofs.Tryz.prog 158 ds os nx Q:=
 ya hT.toS (fn:=Go.Proofs.Tryz.f158) xcF (by kernel_rfl) rfl rfl (by kernel_rfl) rfl hl rfl h
abbrev qcF:Nat→Option (List Nat):=lvL [(0,[0]),(1,[4]),(2,[2])]
theorem gdx {T:Tab} (hT:za Go.Proofs.Tryz.prog T) {ds:List D} {os:List (Nat×Ob)} {nx:Nat} {Q:D→List (Nat×Ob)→Nat→Prop} (hl:ds.length≤11) (h:awp Go.Proofs.Tryz.prog T 11 nx qcF (Go.Proofs.Tryz.f159.body.getD .skip) (fin Go.Proofs.Tryz.prog [.tmp 2] Q) ⟨prm 0 ds,os,nx⟩):ga Go.Proofs.Tryz.prog 159 ds os nx Q:=
 ya hT.toS (fn:=Go.Proofs.Tryz.f159) qcF (by kernel_rfl) rfl rfl (by kernel_rfl) rfl hl rfl h
abbrev zb2:Nat→Option (List Nat):=lvL [(0,[0]),(1,[0,7]),(2,[2]),(3,[0,8,9,10]),(4,[0,8,9,10,11]),(5,[0,3,4,8,9,10]),(6,[0,8,9,10,43]),(7,[2]),(8,[0,8,9,10]),(9,[2])]
@[go_sem] def vcc:List Nat:=[0,1,3,7,7,23,63,127,7,263,1023,2047,4095,8191,16383,32767,65535,131071,262143,524287,1048575,2097151,4194303,8388607,16777215,33554431,67108863,134217727,268435455]
theorem bdx {T:Tab} (hT:za Go.Proofs.Tryz.prog T) {ds:List D} {os:List (Nat×Ob)} {nx:Nat} {Q:D→List (Nat×Ob)→Nat→Prop} (hl:ds.length≤45) (h:awp Go.Proofs.Tryz.prog T 45 nx zb2 (Go.Proofs.Tryz.f160.body.getD .skip) (fin Go.Proofs.Tryz.prog [.tmp 2] Q) ⟨prm 0 ds,os,nx⟩):ga Go.Proofs.Tryz.prog 160 ds os nx Q:=
 ya hT.toS (fn:=Go.Proofs.Tryz.f160) zb2 (by kernel_rfl) rfl rfl (by kernel_rfl) rfl hl rfl h
abbrev vaw:Nat→Option (List Nat):=lvL [(0,[1,2,31]),(1,[1,2,24,31]),(2,[2]),(3,[1,2,3,31]),(4,[2,3,29,31]),(5,[2,3,5,31]),(6,[2,3,5,31]),(7,[2,3,31,43]),(8,[2]),(9,[2])]
theorem ueq {T:Tab} (hT:za Go.Proofs.Tryz.prog T) {ds:List D} {os:List (Nat×Ob)} {nx:Nat} {Q:D→List (Nat×Ob)→Nat→Prop} (hl:ds.length≤44) (h:awp Go.Proofs.Tryz.prog T 44 nx vaw (Go.Proofs.Tryz.f161.body.getD .skip) (fin Go.Proofs.Tryz.prog [.cell 2 50] Q) ⟨prm 0 ds,os,nx⟩):ga Go.Proofs.Tryz.prog 161 ds os nx Q:=
 ya hT.toS (fn:=Go.Proofs.Tryz.f161) vaw (by kernel_rfl) rfl rfl (by kernel_rfl) rfl hl rfl h
abbrev qbk:Nat→Option (List Nat):=lvL [(0,[0,1]),(1,[0,1,22]),(2,[4,5]),(3,[0,1,6,7,8]),(4,[0,6,7,8,25,26,27]),(5,[0,6,7,8,25,26,27,28]),(6,[0,6,7,8,10,25,26,27]),(7,[0,6,7,8,10,25,26,27]),(8,[0,6,7,8,10,25,26,27,40]),(9,[4,5]),(10,[0,6,7,8,10,25,26,27,42,43,44]),(11,[0,6,7,8,10,25,26,27,42,43,44,45]),(12,[0,6,7,8,10,12,25,26,27,42,43,44]),(13,[0,6,7,8,10,25,26,27,42,43,44]),(14,[0,6,7,8,10,25,26,27,42,43,44]),(15,[0,6,7,8,10,25,26,27,42,43,44]),(16,[0,6,7,8,25,26,27]),(17,[6,8,61,62,63]),(18,[6,8,61,62,63,64]),(19,[6,8,14,61,62,63]),(20,[6,8,14,61,62,63,69]),(21,[6,8,61,62,63,80]),(22,[4,5]),(23,[6,8,61,62,63]),(24,[6,8,61,62,63]),(25,[4,5])]
@[go_sem] def ubJ:List Nat:=[0,0,2,0,14,31,63,31,159,511]
theorem zdy {T:Tab} (hT:za Go.Proofs.Tryz.prog T) {ds:List D} {os:List (Nat×Ob)} {nx:Nat} {Q:D→List (Nat×Ob)→Nat→Prop} (hl:ds.length≤86) (h:awp Go.Proofs.Tryz.prog T 86 nx qbk (Go.Proofs.Tryz.f162.body.getD .skip) (fin Go.Proofs.Tryz.prog [.tmp 4, .tmp 5] Q) ⟨prm 0 ds,os,nx⟩):ga Go.Proofs.Tryz.prog 162 ds os nx Q:=
 ya hT.toS (fn:=Go.Proofs.Tryz.f162) qbk (by kernel_rfl) rfl rfl (by kernel_rfl) rfl hl rfl h
abbrev jcF:Nat→Option (List Nat):=lvL [(0,[1,2]),(1,[4])]
theorem ydy {T:Tab} (hT:za Go.Proofs.Tryz.prog T) {ds:List D} {os:List (Nat×Ob)} {nx:Nat} {Q:D→List (Nat×Ob)→Nat→Prop} (hl:ds.length≤9) (h:awp Go.Proofs.Tryz.prog T 9 nx jcF (Go.Proofs.Tryz.f163.body.getD .skip) (fin Go.Proofs.Tryz.prog [.tmp 4] Q) ⟨prm 0 ds,os,nx⟩):ga Go.Proofs.Tryz.prog 163 ds os nx Q:=
 ya hT.toS (fn:=Go.Proofs.Tryz.f163) jcF (by kernel_rfl) rfl rfl (by kernel_rfl) rfl hl rfl h
abbrev kcF:Nat→Option (List Nat):=lvL [(0,[1]),(1,[2])]
theorem xdy {T:Tab} (hT:za Go.Proofs.Tryz.prog T) {ds:List D} {os:List (Nat×Ob)} {nx:Nat} {Q:D→List (Nat×Ob)→Nat→Prop} (hl:ds.length≤11) (h:awp Go.Proofs.Tryz.prog T 11 nx kcF (Go.Proofs.Tryz.f164.body.getD .skip) (fin Go.Proofs.Tryz.prog [.tmp 2] Q) ⟨prm 0 ds,os,nx⟩):ga Go.Proofs.Tryz.prog 164 ds os nx Q:=
 ya hT.toS (fn:=Go.Proofs.Tryz.f164) kcF (by kernel_rfl) rfl rfl (by kernel_rfl) rfl hl rfl h
abbrev vcF:Nat→Option (List Nat):=lvL [(0,[1,2]),(1,[4])]
theorem qdy {T:Tab} (hT:za Go.Proofs.Tryz.prog T) {ds:List D} {os:List (Nat×Ob)} {nx:Nat} {Q:D→List (Nat×Ob)→Nat→Prop} (hl:ds.length≤9) (h:awp Go.Proofs.Tryz.prog T 9 nx vcF (Go.Proofs.Tryz.f165.body.getD .skip) (fin Go.Proofs.Tryz.prog [.tmp 4] Q) ⟨prm 0 ds,os,nx⟩):ga Go.Proofs.Tryz.prog 165 ds os nx Q:=
 ya hT.toS (fn:=Go.Proofs.Tryz.f165) vcF (by kernel_rfl) rfl rfl (by kernel_rfl) rfl hl rfl h
abbrev wcF:Nat→Option (List Nat):=lvL [(0,[2,3]),(1,[4])]
@[go_sem] def wcc:List Nat:=[0,1,0,4,15,0,32,0,128,511,1023,2047,4095]
theorem jdy {T:Tab} (hT:za Go.Proofs.Tryz.prog T) {ds:List D} {os:List (Nat×Ob)} {nx:Nat} {Q:D→List (Nat×Ob)→Nat→Prop} (hl:ds.length≤17) (h:awp Go.Proofs.Tryz.prog T 17 nx wcF (Go.Proofs.Tryz.f166.body.getD .skip) (fin Go.Proofs.Tryz.prog [.tmp 4] Q) ⟨prm 0 ds,os,nx⟩):ga Go.Proofs.Tryz.prog 166 ds os nx Q:=
 ya hT.toS (fn:=Go.Proofs.Tryz.f166) wcF (by kernel_rfl) rfl rfl (by kernel_rfl) rfl hl rfl h
abbrev gbC:Nat→Option (List Nat):=lvL [(0,[0]),(1,[0,11]),(2,[2]),(3,[0,12,13,14]),(4,[0,12,13,14,15]),(5,[0,3,4,12,13,14]),(6,[0,3,4,12,13,14,36]),(7,[2]),(8,[0,3,12,13,14,38,39,40]),(9,[0,3,12,13,14,38,39,40,41]),(10,[0,3,6,12,13,14,38,39,40]),(11,[0,3,12,13,14,38,39,40,50]),(12,[2]),(13,[0,3,12,13,14,38,39,40]),(14,[0,12,13,14]),(15,[8]),(16,[59]),(17,[2]),(18,[2])]
@[go_sem] def ucc:List Nat:=[0,1,3,7,15,31,63,127,127,383,1023,2047,4095,127,8319,32767,65535,131071]
@[go_sem] def gbJ:List Nat:=[0,0,3,0,8,31,63]
theorem kdy {T:Tab} (hT:za Go.Proofs.Tryz.prog T) {ds:List D} {os:List (Nat×Ob)} {nx:Nat} {Q:D→List (Nat×Ob)→Nat→Prop} (hl:ds.length≤60) (h:awp Go.Proofs.Tryz.prog T 60 nx gbC (Go.Proofs.Tryz.f167.body.getD .skip) (fin Go.Proofs.Tryz.prog [.tmp 2] Q) ⟨prm 0 ds,os,nx⟩):ga Go.Proofs.Tryz.prog 167 ds os nx Q:=
 ya hT.toS (fn:=Go.Proofs.Tryz.f167) gbC (by kernel_rfl) rfl rfl (by kernel_rfl) rfl hl rfl h
abbrev yb2:Nat→Option (List Nat):=lvL [(0,[0]),(1,[0,7]),(2,[2]),(3,[0,8,9,10]),(4,[0,8,9,10,11]),(5,[0,3,4,8,9,10]),(6,[0,8,9,10,49]),(7,[2]),(8,[0,8,9,10]),(9,[2])]
@[go_sem] def gcc:List Nat:=[0,1,3,7,7,23,63,127,255,7,519,2047,4095,8191,16383,32767,65535,131071,262143,524287,1048575,2097151,4194303,8388607,16777215,33554431,67108863,134217727,268435455,536870911,1073741823,2147483647,4294967295,8589934591,17179869183]
theorem vdy {T:Tab} (hT:za Go.Proofs.Tryz.prog T) {ds:List D} {os:List (Nat×Ob)} {nx:Nat} {Q:D→List (Nat×Ob)→Nat→Prop} (hl:ds.length≤51) (h:awp Go.Proofs.Tryz.prog T 51 nx yb2 (Go.Proofs.Tryz.f168.body.getD .skip) (fin Go.Proofs.Tryz.prog [.tmp 2] Q) ⟨prm 0 ds,os,nx⟩):ga Go.Proofs.Tryz.prog 168 ds os nx Q:=
 ya hT.toS (fn:=Go.Proofs.Tryz.f168) yb2 (by kernel_rfl) rfl rfl (by kernel_rfl) rfl hl rfl h
abbrev xb2:Nat→Option (List Nat):=lvL [(0,[0]),(1,[0,7]),(2,[2]),(3,[0,8,9,10]),(4,[0,8,9,10,11]),(5,[0,3,4,8,9,10]),(6,[0,8,9,10,32]),(7,[2]),(8,[0,8,9,10]),(9,[2])]
@[go_sem] def bcc:List Nat:=[0,1,3,7,7,23,63,127,255,7,519,2047,4095,8191,16383,32767,65535,131071]
theorem wdy {T:Tab} (hT:za Go.Proofs.Tryz.prog T) {ds:List D} {os:List (Nat×Ob)} {nx:Nat} {Q:D→List (Nat×Ob)→Nat→Prop} (hl:ds.length≤34) (h:awp Go.Proofs.Tryz.prog T 34 nx xb2 (Go.Proofs.Tryz.f169.body.getD .skip) (fin Go.Proofs.Tryz.prog [.tmp 2] Q) ⟨prm 0 ds,os,nx⟩):ga Go.Proofs.Tryz.prog 169 ds os nx Q:=
 ya hT.toS (fn:=Go.Proofs.Tryz.f169) xb2 (by kernel_rfl) rfl rfl (by kernel_rfl) rfl hl rfl h
abbrev qb2:Nat→Option (List Nat):=lvL [(0,[1]),(1,[1,23]),(2,[2]),(3,[1,25,26,27]),(4,[1,25,26,27,28]),(5,[1,3,4,25,26,27]),(6,[1,25,26,27,53]),(7,[2]),(8,[1,25,26,27]),(9,[2])]
theorem udy {T:Tab} (hT:za Go.Proofs.Tryz.prog T) {ds:List D} {os:List (Nat×Ob)} {nx:Nat} {Q:D→List (Nat×Ob)→Nat→Prop} (hl:ds.length≤55) (h:awp Go.Proofs.Tryz.prog T 55 nx qb2 (Go.Proofs.Tryz.f170.body.getD .skip) (fin Go.Proofs.Tryz.prog [.tmp 2] Q) ⟨prm 0 ds,os,nx⟩):ga Go.Proofs.Tryz.prog 170 ds os nx Q:=
 ya hT.toS (fn:=Go.Proofs.Tryz.f170) qb2 (by kernel_rfl) rfl rfl (by kernel_rfl) rfl hl rfl h
abbrev jbk:Nat→Option (List Nat):=lvL [(0,[0,1]),(1,[0,1,21]),(2,[4,5]),(3,[0,1,6]),(4,[0,1,6,22,23,24]),(5,[0,1,6,22,23,24,25]),(6,[0,1,6,7,8,22,23,24]),(7,[0,1,6,8,22,23,24,31,32,33]),(8,[0,1,6,8,22,23,24,31,32,33,34]),(9,[0,1,6,8,10,22,23,24,31,32,33]),(10,[0,1,6,8,22,23,24,31,32,33,41]),(11,[4,5]),(12,[0,1,6,8,22,23,24,31,32,33]),(13,[0,1,6,22,23,24]),(14,[0,1,6,22,23,24]),(15,[0,1,6,11]),(16,[1,6,11,49,50,51]),(17,[1,6,11,49,50,51,52]),(18,[1,6,11,13,49,50,51]),(19,[1,6,11,13,49,50,51,57]),(20,[1,6,11,13,49,50,51]),(21,[1,6,11,49,50,51,69]),(22,[4,5]),(23,[1,6,11,49,50,51]),(24,[4,5])]
theorem gdy {T:Tab} (hT:za Go.Proofs.Tryz.prog T) {ds:List D} {os:List (Nat×Ob)} {nx:Nat} {Q:D→List (Nat×Ob)→Nat→Prop} (hl:ds.length≤74) (h:awp Go.Proofs.Tryz.prog T 74 nx jbk (Go.Proofs.Tryz.f171.body.getD .skip) (fin Go.Proofs.Tryz.prog [.tmp 4, .tmp 5] Q) ⟨prm 0 ds,os,nx⟩):ga Go.Proofs.Tryz.prog 171 ds os nx Q:=
 ya hT.toS (fn:=Go.Proofs.Tryz.f171) jbk (by kernel_rfl) rfl rfl (by kernel_rfl) rfl hl rfl h
abbrev jb2:Nat→Option (List Nat):=lvL [(0,[0,3]),(1,[3,7,8,9]),(2,[3,7,8,9,10]),(3,[3,5,6,7,8,9]),(4,[3,5,7,8,9,16]),(5,[4]),(6,[3,7,8,9]),(7,[4])]
theorem bdy {T:Tab} (hT:za Go.Proofs.Tryz.prog T) {ds:List D} {os:List (Nat×Ob)} {nx:Nat} {Q:D→List (Nat×Ob)→Nat→Prop} (hl:ds.length≤19) (h:awp Go.Proofs.Tryz.prog T 19 nx jb2 (Go.Proofs.Tryz.f172.body.getD .skip) (fin Go.Proofs.Tryz.prog [.tmp 4] Q) ⟨prm 0 ds,os,nx⟩):ga Go.Proofs.Tryz.prog 172 ds os nx Q:=
 ya hT.toS (fn:=Go.Proofs.Tryz.f172) jb2 (by kernel_rfl) rfl rfl (by kernel_rfl) rfl hl rfl h
abbrev ucF:Nat→Option (List Nat):=lvL [(0,[1,2]),(1,[3])]
theorem kcv {T:Tab} (hT:za Go.Proofs.Tryz.prog T) {ds:List D} {os:List (Nat×Ob)} {nx:Nat} {Q:D→List (Nat×Ob)→Nat→Prop} (hl:ds.length≤13) (h:awp Go.Proofs.Tryz.prog T 13 nx ucF (Go.Proofs.Tryz.f186.body.getD .skip) (fin Go.Proofs.Tryz.prog [.tmp 3] Q) ⟨prm 0 ds,os,nx⟩):ga Go.Proofs.Tryz.prog 186 ds os nx Q:=
 ya hT.toS (fn:=Go.Proofs.Tryz.f186) ucF (by kernel_rfl) rfl rfl (by kernel_rfl) rfl hl rfl h
abbrev gcF:Nat→Option (List Nat):=lvL [(0,[1,2]),(1,[2,13]),(2,[4]),(3,[4])]
theorem zdz {T:Tab} (hT:za Go.Proofs.Tryz.prog T) {ds:List D} {os:List (Nat×Ob)} {nx:Nat} {Q:D→List (Nat×Ob)→Nat→Prop} (hl:ds.length≤16) (h:awp Go.Proofs.Tryz.prog T 16 nx gcF (Go.Proofs.Tryz.f187.body.getD .skip) (fin Go.Proofs.Tryz.prog [.tmp 4] Q) ⟨prm 0 ds,os,nx⟩):ga Go.Proofs.Tryz.prog 187 ds os nx Q:=
 ya hT.toS (fn:=Go.Proofs.Tryz.f187) gcF (by kernel_rfl) rfl rfl (by kernel_rfl) rfl hl rfl h
abbrev zan:Nat→Option (List Nat):=lvL [(0,[0,1]),(1,[0,1,5]),(2,[0,1,5,12]),(3,[4]),(4,[0,1,5,6]),(5,[0,1,5,6,19]),(6,[0,1,5,6]),(7,[0,1,5,6,7]),(8,[0,1,5,6,7,29]),(9,[0,1,5,6]),(10,[0,1,5,6]),(11,[0,5]),(12,[4])]
theorem xer {T:Tab} (hT:za Go.Proofs.Tryz.prog T) {ds:List D} {os:List (Nat×Ob)} {nx:Nat} {Q:D→List (Nat×Ob)→Nat→Prop} (hl:ds.length≤42) (h:awp Go.Proofs.Tryz.prog T 42 nx zan (Go.Proofs.Tryz.f188.body.getD .skip) (fin Go.Proofs.Tryz.prog [.tmp 4] Q) ⟨prm 0 ds,os,nx⟩):ga Go.Proofs.Tryz.prog 188 ds os nx Q:=
 ya hT.toS (fn:=Go.Proofs.Tryz.f188) zan (by kernel_rfl) rfl rfl (by kernel_rfl) rfl hl rfl h
abbrev kb2:Nat→Option (List Nat):=lvL [(0,[1,2]),(1,[1,2]),(2,[1,2,28,29,30]),(3,[1,2,28,29,30,31]),(4,[1,2,3,4,28,29,30]),(5,[1,2,28,29,30]),(6,[1,2,28,29,30]),(7,[2])]
@[go_sem] def ycd:List Nat:=[0,1,3,0,8,31,0,64,255,0,512,2047,0,4096,12288,32767,30431,131071,262143,524287,1048575,2097151,4194303,8388607,16777215,33554431,67108863]
@[go_sem] def xcd:List Nat:=[0,1,0,0,8,24,63,127,255]
theorem ydz {T:Tab} (hT:za Go.Proofs.Tryz.prog T) {ds:List D} {os:List (Nat×Ob)} {nx:Nat} {Q:D→List (Nat×Ob)→Nat→Prop} (hl:ds.length≤45) (h:awp Go.Proofs.Tryz.prog T 45 nx kb2 (Go.Proofs.Tryz.f189.body.getD .skip) (fin Go.Proofs.Tryz.prog [.cell 2 40] Q) ⟨prm 0 ds,os,nx⟩):ga Go.Proofs.Tryz.prog 189 ds os nx Q:=
 ya hT.toS (fn:=Go.Proofs.Tryz.f189) kb2 (by kernel_rfl) rfl rfl (by kernel_rfl) rfl hl rfl h
abbrev vb2:Nat→Option (List Nat):=lvL [(0,[0,1]),(1,[0,1,10]),(2,[4]),(3,[0,1,12,13]),(4,[0,1,12,13,14]),(5,[0,1,5,12,13]),(6,[0,1,12,13,24]),(7,[4]),(8,[0,1,12,13]),(9,[4])]
@[go_sem] def qcd:List Nat:=[0,0,3,7,0,0,48,112,255]
theorem xdz {T:Tab} (hT:za Go.Proofs.Tryz.prog T) {ds:List D} {os:List (Nat×Ob)} {nx:Nat} {Q:D→List (Nat×Ob)→Nat→Prop} (hl:ds.length≤26) (h:awp Go.Proofs.Tryz.prog T 26 nx vb2 (Go.Proofs.Tryz.f191.body.getD .skip) (fin Go.Proofs.Tryz.prog [.tmp 4] Q) ⟨prm 0 ds,os,nx⟩):ga Go.Proofs.Tryz.prog 191 ds os nx Q:=
 ya hT.toS (fn:=Go.Proofs.Tryz.f191) vb2 (by kernel_rfl) rfl rfl (by kernel_rfl) rfl hl rfl h
abbrev bcF:Nat→Option (List Nat):=lvL [(0,[0,1]),(1,[4])]
theorem qdz {T:Tab} (hT:za Go.Proofs.Tryz.prog T) {ds:List D} {os:List (Nat×Ob)} {nx:Nat} {Q:D→List (Nat×Ob)→Nat→Prop} (hl:ds.length≤10) (h:awp Go.Proofs.Tryz.prog T 10 nx bcF (Go.Proofs.Tryz.f193.body.getD .skip) (fin Go.Proofs.Tryz.prog [.tmp 4] Q) ⟨prm 0 ds,os,nx⟩):ga Go.Proofs.Tryz.prog 193 ds os nx Q:=
 ya hT.toS (fn:=Go.Proofs.Tryz.f193) bcF (by kernel_rfl) rfl rfl (by kernel_rfl) rfl hl rfl h
abbrev zcG:Nat→Option (List Nat):=lvL [(0,[0]),(1,[2])]
theorem vcv {T:Tab} (hT:za Go.Proofs.Tryz.prog T) {ds:List D} {os:List (Nat×Ob)} {nx:Nat} {Q:D→List (Nat×Ob)→Nat→Prop} (hl:ds.length≤6) (h:awp Go.Proofs.Tryz.prog T 6 nx zcG (Go.Proofs.Tryz.f194.body.getD .skip) (fin Go.Proofs.Tryz.prog [.tmp 2] Q) ⟨prm 0 ds,os,nx⟩):ga Go.Proofs.Tryz.prog 194 ds os nx Q:=
 ya hT.toS (fn:=Go.Proofs.Tryz.f194) zcG (by kernel_rfl) rfl rfl (by kernel_rfl) rfl hl rfl h
abbrev ycG:Nat→Option (List Nat):=lvL [(0,[0,1]),(1,[4])]
theorem jdz {T:Tab} (hT:za Go.Proofs.Tryz.prog T) {ds:List D} {os:List (Nat×Ob)} {nx:Nat} {Q:D→List (Nat×Ob)→Nat→Prop} (hl:ds.length≤9) (h:awp Go.Proofs.Tryz.prog T 9 nx ycG (Go.Proofs.Tryz.f195.body.getD .skip) (fin Go.Proofs.Tryz.prog [.tmp 4] Q) ⟨prm 0 ds,os,nx⟩):ga Go.Proofs.Tryz.prog 195 ds os nx Q:=
 ya hT.toS (fn:=Go.Proofs.Tryz.f195) ycG (by kernel_rfl) rfl rfl (by kernel_rfl) rfl hl rfl h
abbrev wb2:Nat→Option (List Nat):=lvL [(0,[0]),(1,[0,12]),(2,[2,3]),(3,[0,4]),(4,[4,14,15,16]),(5,[4,14,15,16,17]),(6,[4,6,14,15,16]),(7,[4,6,7,14,15,16]),(8,[4,6,7,14,15,16,23]),(9,[2,3]),(10,[4,6,14,15,16,27]),(11,[4,6,8,9,14,15,16]),(12,[4,6,14,15,16,42]),(13,[4,14,15,16]),(14,[4,14,15,16]),(15,[2,3])]
theorem kdz {T:Tab} (hT:za Go.Proofs.Tryz.prog T) {ds:List D} {os:List (Nat×Ob)} {nx:Nat} {Q:D→List (Nat×Ob)→Nat→Prop} (hl:ds.length≤50) (h:awp Go.Proofs.Tryz.prog T 50 nx wb2 (Go.Proofs.Tryz.f196.body.getD .skip) (fin Go.Proofs.Tryz.prog [.tmp 2, .tmp 3] Q) ⟨prm 0 ds,os,nx⟩):ga Go.Proofs.Tryz.prog 196 ds os nx Q:=
 ya hT.toS (fn:=Go.Proofs.Tryz.f196) wb2 (by kernel_rfl) rfl rfl (by kernel_rfl) rfl hl rfl h
abbrev xcG:Nat→Option (List Nat):=lvL [(0,[0,1,2]),(1,[0,9,10]),(2,[0,9,20]),(3,[6,7,8]),(4,[6,7,8])]
theorem vdz {T:Tab} (hT:za Go.Proofs.Tryz.prog T) {ds:List D} {os:List (Nat×Ob)} {nx:Nat} {Q:D→List (Nat×Ob)→Nat→Prop} (hl:ds.length≤28) (h:awp Go.Proofs.Tryz.prog T 28 nx xcG (Go.Proofs.Tryz.f197.body.getD .skip) (fin Go.Proofs.Tryz.prog [.tmp 6, .tmp 7, .tmp 8] Q) ⟨prm 0 ds,os,nx⟩):ga Go.Proofs.Tryz.prog 197 ds os nx Q:=
 ya hT.toS (fn:=Go.Proofs.Tryz.f197) xcG (by kernel_rfl) rfl rfl (by kernel_rfl) rfl hl rfl h
abbrev ub2:Nat→Option (List Nat):=lvL [(0,[0,2]),(1,[0,2,3]),(2,[0,2,3,9]),(3,[2,3]),(4,[2,11,12,13]),(5,[2,11,12,13,14]),(6,[2,5,11,12,13]),(7,[2,11,12,13]),(8,[2,11,12,13,21]),(9,[2,3]),(10,[2,11,12,13]),(11,[2,3])]
theorem wdz {T:Tab} (hT:za Go.Proofs.Tryz.prog T) {ds:List D} {os:List (Nat×Ob)} {nx:Nat} {Q:D→List (Nat×Ob)→Nat→Prop} (hl:ds.length≤24) (h:awp Go.Proofs.Tryz.prog T 24 nx ub2 (Go.Proofs.Tryz.f198.body.getD .skip) (fin Go.Proofs.Tryz.prog [.tmp 2, .tmp 3] Q) ⟨prm 0 ds,os,nx⟩):ga Go.Proofs.Tryz.prog 198 ds os nx Q:=
 ya hT.toS (fn:=Go.Proofs.Tryz.f198) ub2 (by kernel_rfl) rfl rfl (by kernel_rfl) rfl hl rfl h
abbrev bbC:Nat→Option (List Nat):=lvL [(0,[0,1]),(1,[0,1,7,8]),(2,[0,1,7,8,9]),(3,[0,1,5,7,8]),(4,[0,1,5,7,8,16]),(5,[4]),(6,[0,1,7,8]),(7,[4])]
theorem wcv {T:Tab} (hT:za Go.Proofs.Tryz.prog T) {ds:List D} {os:List (Nat×Ob)} {nx:Nat} {Q:D→List (Nat×Ob)→Nat→Prop} (hl:ds.length≤19) (h:awp Go.Proofs.Tryz.prog T 19 nx bbC (Go.Proofs.Tryz.f199.body.getD .skip) (fin Go.Proofs.Tryz.prog [.tmp 4] Q) ⟨prm 0 ds,os,nx⟩):ga Go.Proofs.Tryz.prog 199 ds os nx Q:=
 ya hT.toS (fn:=Go.Proofs.Tryz.f199) bbC (by kernel_rfl) rfl rfl (by kernel_rfl) rfl hl rfl h
abbrev qcG:Nat→Option (List Nat):=lvL [(0,[1,2]),(1,[2])]
theorem udz {T:Tab} (hT:za Go.Proofs.Tryz.prog T) {ds:List D} {os:List (Nat×Ob)} {nx:Nat} {Q:D→List (Nat×Ob)→Nat→Prop} (hl:ds.length≤11) (h:awp Go.Proofs.Tryz.prog T 11 nx qcG (Go.Proofs.Tryz.f200.body.getD .skip) (fin Go.Proofs.Tryz.prog [.cell 2 239] Q) ⟨prm 0 ds,os,nx⟩):ga Go.Proofs.Tryz.prog 200 ds os nx Q:=
 ya hT.toS (fn:=Go.Proofs.Tryz.f200) qcG (by kernel_rfl) rfl rfl (by kernel_rfl) rfl hl rfl h
abbrev jcG:Nat→Option (List Nat):=lvL [(0,[0]),(1,[2])]
theorem gdz {T:Tab} (hT:za Go.Proofs.Tryz.prog T) {ds:List D} {os:List (Nat×Ob)} {nx:Nat} {Q:D→List (Nat×Ob)→Nat→Prop} (hl:ds.length≤9) (h:awp Go.Proofs.Tryz.prog T 9 nx jcG (Go.Proofs.Tryz.f201.body.getD .skip) (fin Go.Proofs.Tryz.prog [.tmp 2] Q) ⟨prm 0 ds,os,nx⟩):ga Go.Proofs.Tryz.prog 201 ds os nx Q:=
 ya hT.toS (fn:=Go.Proofs.Tryz.f201) jcG (by kernel_rfl) rfl rfl (by kernel_rfl) rfl hl rfl h
abbrev kcG:Nat→Option (List Nat):=lvL [(0,[0]),(1,[0,9]),(2,[2,3]),(3,[2,3])]
theorem wbS {T:Tab} (hT:za Go.Proofs.Tryz.prog T) {ds:List D} {os:List (Nat×Ob)} {nx:Nat} {Q:D→List (Nat×Ob)→Nat→Prop} (hl:ds.length≤13) (h:awp Go.Proofs.Tryz.prog T 13 nx kcG (Go.Proofs.Tryz.f202.body.getD .skip) (fin Go.Proofs.Tryz.prog [.tmp 2, .tmp 3] Q) ⟨prm 0 ds,os,nx⟩):ga Go.Proofs.Tryz.prog 202 ds os nx Q:=
 ya hT.toS (fn:=Go.Proofs.Tryz.f202) kcG (by kernel_rfl) rfl rfl (by kernel_rfl) rfl hl rfl h
abbrev vcG:Nat→Option (List Nat):=lvL [(0,[1]),(1,[2])]
theorem bdz {T:Tab} (hT:za Go.Proofs.Tryz.prog T) {ds:List D} {os:List (Nat×Ob)} {nx:Nat} {Q:D→List (Nat×Ob)→Nat→Prop} (hl:ds.length≤6) (h:awp Go.Proofs.Tryz.prog T 6 nx vcG (Go.Proofs.Tryz.f203.body.getD .skip) (fin Go.Proofs.Tryz.prog [.tmp 2] Q) ⟨prm 0 ds,os,nx⟩):ga Go.Proofs.Tryz.prog 203 ds os nx Q:=
 ya hT.toS (fn:=Go.Proofs.Tryz.f203) vcG (by kernel_rfl) rfl rfl (by kernel_rfl) rfl hl rfl h
abbrev wcG:Nat→Option (List Nat):=lvL [(0,[1]),(1,[2])]
theorem zdA {T:Tab} (hT:za Go.Proofs.Tryz.prog T) {ds:List D} {os:List (Nat×Ob)} {nx:Nat} {Q:D→List (Nat×Ob)→Nat→Prop} (hl:ds.length≤13) (h:awp Go.Proofs.Tryz.prog T 13 nx wcG (Go.Proofs.Tryz.f204.body.getD .skip) (fin Go.Proofs.Tryz.prog [.tmp 2] Q) ⟨prm 0 ds,os,nx⟩):ga Go.Proofs.Tryz.prog 204 ds os nx Q:=
 ya hT.toS (fn:=Go.Proofs.Tryz.f204) wcG (by kernel_rfl) rfl rfl (by kernel_rfl) rfl hl rfl h
abbrev ucG:Nat→Option (List Nat):=lvL [(0,[0,1]),(1,[4])]
theorem ydA {T:Tab} (hT:za Go.Proofs.Tryz.prog T) {ds:List D} {os:List (Nat×Ob)} {nx:Nat} {Q:D→List (Nat×Ob)→Nat→Prop} (hl:ds.length≤9) (h:awp Go.Proofs.Tryz.prog T 9 nx ucG (Go.Proofs.Tryz.f205.body.getD .skip) (fin Go.Proofs.Tryz.prog [.tmp 4] Q) ⟨prm 0 ds,os,nx⟩):ga Go.Proofs.Tryz.prog 205 ds os nx Q:=
 ya hT.toS (fn:=Go.Proofs.Tryz.f205) ucG (by kernel_rfl) rfl rfl (by kernel_rfl) rfl hl rfl h
abbrev gb2:Nat→Option (List Nat):=lvL [(0,[0]),(1,[0,7]),(2,[0]),(3,[0,3]),(4,[0,3,4]),(5,[0,3,4,15]),(6,[0,3,4]),(7,[0,3,4]),(8,[2])]
theorem xdA {T:Tab} (hT:za Go.Proofs.Tryz.prog T) {ds:List D} {os:List (Nat×Ob)} {nx:Nat} {Q:D→List (Nat×Ob)→Nat→Prop} (hl:ds.length≤25) (h:awp Go.Proofs.Tryz.prog T 25 nx gb2 (Go.Proofs.Tryz.f206.body.getD .skip) (fin Go.Proofs.Tryz.prog [.tmp 2] Q) ⟨prm 0 ds,os,nx⟩):ga Go.Proofs.Tryz.prog 206 ds os nx Q:=
 ya hT.toS (fn:=Go.Proofs.Tryz.f206) gb2 (by kernel_rfl) rfl rfl (by kernel_rfl) rfl hl rfl h
abbrev gcG:Nat→Option (List Nat):=lvL [(0,[0,1]),(1,[4])]
theorem qdA {T:Tab} (hT:za Go.Proofs.Tryz.prog T) {ds:List D} {os:List (Nat×Ob)} {nx:Nat} {Q:D→List (Nat×Ob)→Nat→Prop} (hl:ds.length≤9) (h:awp Go.Proofs.Tryz.prog T 9 nx gcG (Go.Proofs.Tryz.f207.body.getD .skip) (fin Go.Proofs.Tryz.prog [.tmp 4] Q) ⟨prm 0 ds,os,nx⟩):ga Go.Proofs.Tryz.prog 207 ds os nx Q:=
 ya hT.toS (fn:=Go.Proofs.Tryz.f207) gcG (by kernel_rfl) rfl rfl (by kernel_rfl) rfl hl rfl h
abbrev bcG:Nat→Option (List Nat):=lvL [(0,[1,2]),(1,[3])]
theorem jdA {T:Tab} (hT:za Go.Proofs.Tryz.prog T) {ds:List D} {os:List (Nat×Ob)} {nx:Nat} {Q:D→List (Nat×Ob)→Nat→Prop} (hl:ds.length≤8) (h:awp Go.Proofs.Tryz.prog T 8 nx bcG (Go.Proofs.Tryz.f208.body.getD .skip) (fin Go.Proofs.Tryz.prog [.tmp 3] Q) ⟨prm 0 ds,os,nx⟩):ga Go.Proofs.Tryz.prog 208 ds os nx Q:=
 ya hT.toS (fn:=Go.Proofs.Tryz.f208) bcG (by kernel_rfl) rfl rfl (by kernel_rfl) rfl hl rfl h
abbrev bb2:Nat→Option (List Nat):=lvL [(0,[0]),(1,[0,9]),(2,[2,3]),(3,[0,4]),(4,[4,10,11,12]),(5,[4,10,11,12,13]),(6,[4,6,10,11,12]),(7,[4,6,10,11,12,19]),(8,[2,3]),(9,[4,10,11,12]),(10,[4,10,11,12]),(11,[2,3])]
theorem kdA {T:Tab} (hT:za Go.Proofs.Tryz.prog T) {ds:List D} {os:List (Nat×Ob)} {nx:Nat} {Q:D→List (Nat×Ob)→Nat→Prop} (hl:ds.length≤25) (h:awp Go.Proofs.Tryz.prog T 25 nx bb2 (Go.Proofs.Tryz.f211.body.getD .skip) (fin Go.Proofs.Tryz.prog [.tmp 2, .tmp 3] Q) ⟨prm 0 ds,os,nx⟩):ga Go.Proofs.Tryz.prog 211 ds os nx Q:=
 ya hT.toS (fn:=Go.Proofs.Tryz.f211) bb2 (by kernel_rfl) rfl rfl (by kernel_rfl) rfl hl rfl h
abbrev zcH:Nat→Option (List Nat):=lvL [(0,[0]),(1,[0,4]),(2,[2]),(3,[0,9]),(4,[2]),(5,[0,15]),(6,[2]),(7,[2])]
theorem vdA {T:Tab} (hT:za Go.Proofs.Tryz.prog T) {ds:List D} {os:List (Nat×Ob)} {nx:Nat} {Q:D→List (Nat×Ob)→Nat→Prop} (hl:ds.length≤24) (h:awp Go.Proofs.Tryz.prog T 24 nx zcH (Go.Proofs.Tryz.f213.body.getD .skip) (fin Go.Proofs.Tryz.prog [.tmp 2] Q) ⟨prm 0 ds,os,nx⟩):ga Go.Proofs.Tryz.prog 213 ds os nx Q:=
 ya hT.toS (fn:=Go.Proofs.Tryz.f213) zcH (by kernel_rfl) rfl rfl (by kernel_rfl) rfl hl rfl h
abbrev zb3:Nat→Option (List Nat):=lvL [(0,[0,1,2]),(1,[0,1,2,8]),(2,[0,1,2,8,9,10]),(3,[0,1,2,8,9,10,17]),(4,[0,1,2,8,9,10,11]),(5,[0,1,2,8,9,10,11,31]),(6,[0,1,2,8,9,10]),(7,[0,1,2,8,9,10]),(8,[6,7])]
theorem wdA {T:Tab} (hT:za Go.Proofs.Tryz.prog T) {ds:List D} {os:List (Nat×Ob)} {nx:Nat} {Q:D→List (Nat×Ob)→Nat→Prop} (hl:ds.length≤49) (h:awp Go.Proofs.Tryz.prog T 49 nx zb3 (Go.Proofs.Tryz.f215.body.getD .skip) (fin Go.Proofs.Tryz.prog [.tmp 6, .tmp 7] Q) ⟨prm 0 ds,os,nx⟩):ga Go.Proofs.Tryz.prog 215 ds os nx Q:=
 ya hT.toS (fn:=Go.Proofs.Tryz.f215) zb3 (by kernel_rfl) rfl rfl (by kernel_rfl) rfl hl rfl h
abbrev ycH:Nat→Option (List Nat):=lvL [(0,[1,2,3,6]),(1,[6,7,8])]
theorem udA {T:Tab} (hT:za Go.Proofs.Tryz.prog T) {ds:List D} {os:List (Nat×Ob)} {nx:Nat} {Q:D→List (Nat×Ob)→Nat→Prop} (hl:ds.length≤17) (h:awp Go.Proofs.Tryz.prog T 17 nx ycH (Go.Proofs.Tryz.f218.body.getD .skip) (fin Go.Proofs.Tryz.prog [.cell 6 43, .tmp 7, .tmp 8] Q) ⟨prm 0 ds,os,nx⟩):ga Go.Proofs.Tryz.prog 218 ds os nx Q:=
 ya hT.toS (fn:=Go.Proofs.Tryz.f218) ycH (by kernel_rfl) rfl rfl (by kernel_rfl) rfl hl rfl h
abbrev zbD:Nat→Option (List Nat):=lvL [(0,[0]),(1,[0,16]),(2,[2,3]),(3,[0,4,5]),(4,[0,4,5,18,19,20]),(5,[0,4,5,18,19,20,21]),(6,[0,4,5,6,7,18,19,20]),(7,[0,4,5,6,7,8,9,18,19,20]),(8,[0,4,5,6,7,8,18,19,20,46]),(9,[2,3]),(10,[0,4,5,6,7,9,18,19,20]),(11,[0,4,5,6,7,18,19,20,55]),(12,[2,3]),(13,[0,4,5,6,18,19,20,57,58,59]),(14,[0,4,5,6,18,19,20,57,58,59,60]),(15,[0,4,5,6,11,18,19,20,57,58,59]),(16,[0,4,5,6,11,13,18,19,20,57,58,59]),(17,[0,4,5,6,11,18,19,20,57,58,59,70]),(18,[2,3]),(19,[0,4,5,6,18,19,20,57,58,59]),(20,[0,4,5,6,18,19,20,57,58,59]),(21,[0,4,5,18,19,20]),(22,[2,3])]
@[go_sem] def jcd:List Nat:=[0,1,3,7,15,31,63,63,191,511,1023,63,2111,8191,16383,32767,65535]
theorem gdA {T:Tab} (hT:za Go.Proofs.Tryz.prog T) {ds:List D} {os:List (Nat×Ob)} {nx:Nat} {Q:D→List (Nat×Ob)→Nat→Prop} (hl:ds.length≤78) (h:awp Go.Proofs.Tryz.prog T 78 nx zbD (Go.Proofs.Tryz.f219.body.getD .skip) (fin Go.Proofs.Tryz.prog [.tmp 2, .tmp 3] Q) ⟨prm 0 ds,os,nx⟩):ga Go.Proofs.Tryz.prog 219 ds os nx Q:=
 ya hT.toS (fn:=Go.Proofs.Tryz.f219) zbD (by kernel_rfl) rfl rfl (by kernel_rfl) rfl hl rfl h
abbrev xcH:Nat→Option (List Nat):=lvL [(0,[1,2]),(1,[4])]
theorem bdA {T:Tab} (hT:za Go.Proofs.Tryz.prog T) {ds:List D} {os:List (Nat×Ob)} {nx:Nat} {Q:D→List (Nat×Ob)→Nat→Prop} (hl:ds.length≤9) (h:awp Go.Proofs.Tryz.prog T 9 nx xcH (Go.Proofs.Tryz.f220.body.getD .skip) (fin Go.Proofs.Tryz.prog [.tmp 4] Q) ⟨prm 0 ds,os,nx⟩):ga Go.Proofs.Tryz.prog 220 ds os nx Q:=
 ya hT.toS (fn:=Go.Proofs.Tryz.f220) xcH (by kernel_rfl) rfl rfl (by kernel_rfl) rfl hl rfl h
abbrev qcH:Nat→Option (List Nat):=lvL [(0,[0]),(1,[2])]
theorem zdB {T:Tab} (hT:za Go.Proofs.Tryz.prog T) {ds:List D} {os:List (Nat×Ob)} {nx:Nat} {Q:D→List (Nat×Ob)→Nat→Prop} (hl:ds.length≤11) (h:awp Go.Proofs.Tryz.prog T 11 nx qcH (Go.Proofs.Tryz.f221.body.getD .skip) (fin Go.Proofs.Tryz.prog [.tmp 2] Q) ⟨prm 0 ds,os,nx⟩):ga Go.Proofs.Tryz.prog 221 ds os nx Q:=
 ya hT.toS (fn:=Go.Proofs.Tryz.f221) qcH (by kernel_rfl) rfl rfl (by kernel_rfl) rfl hl rfl h
abbrev jcH:Nat→Option (List Nat):=lvL [(0,[1]),(1,[2])]
theorem ydB {T:Tab} (hT:za Go.Proofs.Tryz.prog T) {ds:List D} {os:List (Nat×Ob)} {nx:Nat} {Q:D→List (Nat×Ob)→Nat→Prop} (hl:ds.length≤4) (h:awp Go.Proofs.Tryz.prog T 4 nx jcH (Go.Proofs.Tryz.f222.body.getD .skip) (fin Go.Proofs.Tryz.prog [.tmp 2] Q) ⟨prm 0 ds,os,nx⟩):ga Go.Proofs.Tryz.prog 222 ds os nx Q:=
 ya hT.toS (fn:=Go.Proofs.Tryz.f222) jcH (by kernel_rfl) rfl rfl (by kernel_rfl) rfl hl rfl h
abbrev kcH:Nat→Option (List Nat):=lvL [(0,[0]),(1,[2])]
theorem xdB {T:Tab} (hT:za Go.Proofs.Tryz.prog T) {ds:List D} {os:List (Nat×Ob)} {nx:Nat} {Q:D→List (Nat×Ob)→Nat→Prop} (hl:ds.length≤9) (h:awp Go.Proofs.Tryz.prog T 9 nx kcH (Go.Proofs.Tryz.f223.body.getD .skip) (fin Go.Proofs.Tryz.prog [.tmp 2] Q) ⟨prm 0 ds,os,nx⟩):ga Go.Proofs.Tryz.prog 223 ds os nx Q:=
 ya hT.toS (fn:=Go.Proofs.Tryz.f223) kcH (by kernel_rfl) rfl rfl (by kernel_rfl) rfl hl rfl h
abbrev yb3:Nat→Option (List Nat):=lvL [(0,[0]),(1,[0,7]),(2,[2]),(3,[0,8,9,10]),(4,[0,8,9,10,11]),(5,[0,3,4,8,9,10]),(6,[0,8,9,10,32]),(7,[2]),(8,[0,8,9,10]),(9,[2])]
@[go_sem] def kcd:List Nat:=[0,1,3,7,15,31,63,127,127,383,1023,2047,127,4223,16383,32767,65535,131071]
theorem qdB {T:Tab} (hT:za Go.Proofs.Tryz.prog T) {ds:List D} {os:List (Nat×Ob)} {nx:Nat} {Q:D→List (Nat×Ob)→Nat→Prop} (hl:ds.length≤34) (h:awp Go.Proofs.Tryz.prog T 34 nx yb3 (Go.Proofs.Tryz.f224.body.getD .skip) (fin Go.Proofs.Tryz.prog [.tmp 2] Q) ⟨prm 0 ds,os,nx⟩):ga Go.Proofs.Tryz.prog 224 ds os nx Q:=
 ya hT.toS (fn:=Go.Proofs.Tryz.f224) yb3 (by kernel_rfl) rfl rfl (by kernel_rfl) rfl hl rfl h
abbrev vcH:Nat→Option (List Nat):=lvL [(0,[0,1]),(1,[0,1,5]),(2,[0,1,5,6]),(3,[0,1,6,11]),(4,[12]),(5,[4]),(6,[4]),(7,[0,1,13]),(8,[4]),(9,[0,1,16]),(10,[4]),(11,[19]),(12,[4]),(13,[4])]
theorem jdB {T:Tab} (hT:za Go.Proofs.Tryz.prog T) {ds:List D} {os:List (Nat×Ob)} {nx:Nat} {Q:D→List (Nat×Ob)→Nat→Prop} (hl:ds.length≤20) (h:awp Go.Proofs.Tryz.prog T 20 nx vcH (Go.Proofs.Tryz.f225.body.getD .skip) (fin Go.Proofs.Tryz.prog [.tmp 4] Q) ⟨prm 0 ds,os,nx⟩):ga Go.Proofs.Tryz.prog 225 ds os nx Q:=
 ya hT.toS (fn:=Go.Proofs.Tryz.f225) vcH (by kernel_rfl) rfl rfl (by kernel_rfl) rfl hl rfl h
abbrev xb3:Nat→Option (List Nat):=lvL [(0,[0]),(1,[0,3]),(2,[3,6,7,8]),(3,[3,6,7,8,9]),(4,[3,5,6,7,8]),(5,[3,5,6,7,8,14]),(6,[2]),(7,[3,6,7,8]),(8,[2])]
theorem kdB {T:Tab} (hT:za Go.Proofs.Tryz.prog T) {ds:List D} {os:List (Nat×Ob)} {nx:Nat} {Q:D→List (Nat×Ob)→Nat→Prop} (hl:ds.length≤18) (h:awp Go.Proofs.Tryz.prog T 18 nx xb3 (Go.Proofs.Tryz.f226.body.getD .skip) (fin Go.Proofs.Tryz.prog [.tmp 2] Q) ⟨prm 0 ds,os,nx⟩):ga Go.Proofs.Tryz.prog 226 ds os nx Q:=
 ya hT.toS (fn:=Go.Proofs.Tryz.f226) xb3 (by kernel_rfl) rfl rfl (by kernel_rfl) rfl hl rfl h
abbrev qb3:Nat→Option (List Nat):=lvL [(0,[1]),(1,[1,32]),(2,[2]),(3,[1,34,35,36]),(4,[1,34,35,36,37]),(5,[1,3,4,34,35,36]),(6,[1,34,35,36,59]),(7,[2]),(8,[1,34,35,36]),(9,[1,5,6]),(10,[1,5,75]),(11,[2]),(12,[8]),(13,[87]),(14,[2]),(15,[2])]
@[go_sem] def vcd:List Nat:=[0,1,3,7,15,31,63,127,255,127,639,2047,4095,8191,127,16511,65535,131071,262143]
theorem vdB {T:Tab} (hT:za Go.Proofs.Tryz.prog T) {ds:List D} {os:List (Nat×Ob)} {nx:Nat} {Q:D→List (Nat×Ob)→Nat→Prop} (hl:ds.length≤88) (h:awp Go.Proofs.Tryz.prog T 88 nx qb3 (Go.Proofs.Tryz.f227.body.getD .skip) (fin Go.Proofs.Tryz.prog [.tmp 2] Q) ⟨prm 0 ds,os,nx⟩):ga Go.Proofs.Tryz.prog 227 ds os nx Q:=
 ya hT.toS (fn:=Go.Proofs.Tryz.f227) qb3 (by kernel_rfl) rfl rfl (by kernel_rfl) rfl hl rfl h
abbrev ybD:Nat→Option (List Nat):=lvL [(0,[0,1]),(1,[1,9,10,11]),(2,[1,9,10,11,12]),(3,[1,5,6,9,10,11]),(4,[1,5,9,10,11,17,18,19]),(5,[1,5,9,10,11,17,18,19,20]),(6,[1,5,8,9,10,11,17,18,19]),(7,[1,5,9,10,11,17,18,19,26]),(8,[4]),(9,[1,5,9,10,11,17,18,19]),(10,[1,9,10,11]),(11,[4])]
theorem wdB {T:Tab} (hT:za Go.Proofs.Tryz.prog T) {ds:List D} {os:List (Nat×Ob)} {nx:Nat} {Q:D→List (Nat×Ob)→Nat→Prop} (hl:ds.length≤30) (h:awp Go.Proofs.Tryz.prog T 30 nx ybD (Go.Proofs.Tryz.f228.body.getD .skip) (fin Go.Proofs.Tryz.prog [.tmp 4] Q) ⟨prm 0 ds,os,nx⟩):ga Go.Proofs.Tryz.prog 228 ds os nx Q:=
 ya hT.toS (fn:=Go.Proofs.Tryz.f228) ybD (by kernel_rfl) rfl rfl (by kernel_rfl) rfl hl rfl h
abbrev jb3:Nat→Option (List Nat):=lvL [(0,[0]),(1,[0,4]),(2,[4,11,12,13]),(3,[4,11,12,13,14]),(4,[4,6,11,12,13]),(5,[4,7,11,12,13]),(6,[9,10,11,12,13]),(7,[9,11,12,13,30]),(8,[2,3]),(9,[4,11,12,13]),(10,[4,11,12,13]),(11,[2,3])]
theorem udB {T:Tab} (hT:za Go.Proofs.Tryz.prog T) {ds:List D} {os:List (Nat×Ob)} {nx:Nat} {Q:D→List (Nat×Ob)→Nat→Prop} (hl:ds.length≤34) (h:awp Go.Proofs.Tryz.prog T 34 nx jb3 (Go.Proofs.Tryz.f229.body.getD .skip) (fin Go.Proofs.Tryz.prog [.tmp 2, .tmp 3] Q) ⟨prm 0 ds,os,nx⟩):ga Go.Proofs.Tryz.prog 229 ds os nx Q:=
 ya hT.toS (fn:=Go.Proofs.Tryz.f229) jb3 (by kernel_rfl) rfl rfl (by kernel_rfl) rfl hl rfl h
abbrev wcH:Nat→Option (List Nat):=lvL [(0,[1]),(1,[2])]
theorem gdB {T:Tab} (hT:za Go.Proofs.Tryz.prog T) {ds:List D} {os:List (Nat×Ob)} {nx:Nat} {Q:D→List (Nat×Ob)→Nat→Prop} (hl:ds.length≤23) (h:awp Go.Proofs.Tryz.prog T 23 nx wcH (Go.Proofs.Tryz.f230.body.getD .skip) (fin Go.Proofs.Tryz.prog [.tmp 2] Q) ⟨prm 0 ds,os,nx⟩):ga Go.Proofs.Tryz.prog 230 ds os nx Q:=
 ya hT.toS (fn:=Go.Proofs.Tryz.f230) wcH (by kernel_rfl) rfl rfl (by kernel_rfl) rfl hl rfl h
abbrev xbD:Nat→Option (List Nat):=lvL [(0,[0,1,5]),(1,[1,5,11,12,13]),(2,[1,5,11,12,13,14]),(3,[1,5,8,11,12,13]),(4,[1,5,8,11,12,13,18,19,20]),(5,[1,5,8,11,12,13,18,19,20,21]),(6,[1,5,8,10,11,12,13,18,19,20]),(7,[1,5,8,11,12,13,18,19,20,32]),(8,[6]),(9,[1,5,8,11,12,13,18,19,20]),(10,[1,5,11,12,13]),(11,[6])]
theorem bdB {T:Tab} (hT:za Go.Proofs.Tryz.prog T) {ds:List D} {os:List (Nat×Ob)} {nx:Nat} {Q:D→List (Nat×Ob)→Nat→Prop} (hl:ds.length≤35) (h:awp Go.Proofs.Tryz.prog T 35 nx xbD (Go.Proofs.Tryz.f231.body.getD .skip) (fin Go.Proofs.Tryz.prog [.tmp 6] Q) ⟨prm 0 ds,os,nx⟩):ga Go.Proofs.Tryz.prog 231 ds os nx Q:=
 ya hT.toS (fn:=Go.Proofs.Tryz.f231) xbD (by kernel_rfl) rfl rfl (by kernel_rfl) rfl hl rfl h
abbrev kb3:Nat→Option (List Nat):=lvL [(0,[0,1]),(1,[0,1,7,8]),(2,[0,1,7,8,9]),(3,[0,1,5,7,8]),(4,[0,1,5,7,8,16]),(5,[4]),(6,[0,1,7,8]),(7,[4])]
theorem zdC {T:Tab} (hT:za Go.Proofs.Tryz.prog T) {ds:List D} {os:List (Nat×Ob)} {nx:Nat} {Q:D→List (Nat×Ob)→Nat→Prop} (hl:ds.length≤19) (h:awp Go.Proofs.Tryz.prog T 19 nx kb3 (Go.Proofs.Tryz.f240.body.getD .skip) (fin Go.Proofs.Tryz.prog [.tmp 4] Q) ⟨prm 0 ds,os,nx⟩):ga Go.Proofs.Tryz.prog 240 ds os nx Q:=
 ya hT.toS (fn:=Go.Proofs.Tryz.f240) kb3 (by kernel_rfl) rfl rfl (by kernel_rfl) rfl hl rfl h
abbrev vb3:Nat→Option (List Nat):=lvL [(0,[0,1]),(1,[0,1,7,8]),(2,[0,1,7,8,9]),(3,[0,1,5,7,8]),(4,[0,1,5,7,8,16]),(5,[4]),(6,[0,1,7,8]),(7,[4])]
theorem ydC {T:Tab} (hT:za Go.Proofs.Tryz.prog T) {ds:List D} {os:List (Nat×Ob)} {nx:Nat} {Q:D→List (Nat×Ob)→Nat→Prop} (hl:ds.length≤19) (h:awp Go.Proofs.Tryz.prog T 19 nx vb3 (Go.Proofs.Tryz.f241.body.getD .skip) (fin Go.Proofs.Tryz.prog [.tmp 4] Q) ⟨prm 0 ds,os,nx⟩):ga Go.Proofs.Tryz.prog 241 ds os nx Q:=
 ya hT.toS (fn:=Go.Proofs.Tryz.f241) vb3 (by kernel_rfl) rfl rfl (by kernel_rfl) rfl hl rfl h
abbrev wb3:Nat→Option (List Nat):=lvL [(0,[0,2,4]),(1,[0,2,4,8]),(2,[0,2,4,8,9,10]),(3,[0,2,4,8,9,10,17]),(4,[0,2,4,8,9,10,11]),(5,[0,2,4,8,9,10,11,31]),(6,[0,2,4,8,9,10]),(7,[0,2,4,8,9,10]),(8,[6,7])]
@[go_sem] def wcd:List Nat:=[0,0,0,6,14,0,63,127]
@[go_sem] def ucd:List Nat:=[0,0,0,6,14,30,30,30,222,478,30,2046,4094,8190,4095,32767]
theorem xdC {T:Tab} (hT:za Go.Proofs.Tryz.prog T) {ds:List D} {os:List (Nat×Ob)} {nx:Nat} {Q:D→List (Nat×Ob)→Nat→Prop} (hl:ds.length≤49) (h:awp Go.Proofs.Tryz.prog T 49 nx wb3 (Go.Proofs.Tryz.f242.body.getD .skip) (fin Go.Proofs.Tryz.prog [.tmp 6, .tmp 7] Q) ⟨prm 0 ds,os,nx⟩):ga Go.Proofs.Tryz.prog 242 ds os nx Q:=
 ya hT.toS (fn:=Go.Proofs.Tryz.f242) wb3 (by kernel_rfl) rfl rfl (by kernel_rfl) rfl hl rfl h
abbrev ub3:Nat→Option (List Nat):=lvL [(0,[0,1]),(1,[0,1,7,8]),(2,[0,1,7,8,9]),(3,[0,1,5,7,8]),(4,[0,1,5,7,8,16]),(5,[4]),(6,[0,1,7,8]),(7,[4])]
theorem qdC {T:Tab} (hT:za Go.Proofs.Tryz.prog T) {ds:List D} {os:List (Nat×Ob)} {nx:Nat} {Q:D→List (Nat×Ob)→Nat→Prop} (hl:ds.length≤19) (h:awp Go.Proofs.Tryz.prog T 19 nx ub3 (Go.Proofs.Tryz.f243.body.getD .skip) (fin Go.Proofs.Tryz.prog [.tmp 4] Q) ⟨prm 0 ds,os,nx⟩):ga Go.Proofs.Tryz.prog 243 ds os nx Q:=
 ya hT.toS (fn:=Go.Proofs.Tryz.f243) ub3 (by kernel_rfl) rfl rfl (by kernel_rfl) rfl hl rfl h
abbrev gb3:Nat→Option (List Nat):=lvL [(0,[0,1]),(1,[0,1,7,8]),(2,[0,1,7,8,9]),(3,[0,1,5,7,8]),(4,[0,1,5,7,8,16]),(5,[4]),(6,[0,1,7,8]),(7,[4])]
theorem jdC {T:Tab} (hT:za Go.Proofs.Tryz.prog T) {ds:List D} {os:List (Nat×Ob)} {nx:Nat} {Q:D→List (Nat×Ob)→Nat→Prop} (hl:ds.length≤19) (h:awp Go.Proofs.Tryz.prog T 19 nx gb3 (Go.Proofs.Tryz.f244.body.getD .skip) (fin Go.Proofs.Tryz.prog [.tmp 4] Q) ⟨prm 0 ds,os,nx⟩):ga Go.Proofs.Tryz.prog 244 ds os nx Q:=
 ya hT.toS (fn:=Go.Proofs.Tryz.f244) gb3 (by kernel_rfl) rfl rfl (by kernel_rfl) rfl hl rfl h
abbrev ucH:Nat→Option (List Nat):=lvL [(0,[2,3,4]),(1,[2,3,4,23]),(2,[4,5,6]),(3,[2,3,4,28]),(4,[4,5,6]),(5,[2,3,4]),(6,[2,3,4,7]),(7,[2,3,4,7,37]),(8,[4,5,6]),(9,[2,3,4,43]),(10,[4,5,6]),(11,[2,3,4]),(12,[2,4]),(13,[4,5,6])]
@[go_sem] def bbJ:List Nat:=[0,0,2,6,14,1,63,127]
theorem kdC {T:Tab} (hT:za Go.Proofs.Tryz.prog T) {ds:List D} {os:List (Nat×Ob)} {nx:Nat} {Q:D→List (Nat×Ob)→Nat→Prop} (hl:ds.length≤60) (h:awp Go.Proofs.Tryz.prog T 60 nx ucH (Go.Proofs.Tryz.f247.body.getD .skip) (fin Go.Proofs.Tryz.prog [.cell 4 43, .tmp 5, .tmp 6] Q) ⟨prm 0 ds,os,nx⟩):ga Go.Proofs.Tryz.prog 247 ds os nx Q:=
 ya hT.toS (fn:=Go.Proofs.Tryz.f247) ucH (by kernel_rfl) rfl rfl (by kernel_rfl) rfl hl rfl h
abbrev gcH:Nat→Option (List Nat):=lvL [(0,[1]),(1,[5,6]),(2,[2,3])]
theorem vdC {T:Tab} (hT:za Go.Proofs.Tryz.prog T) {ds:List D} {os:List (Nat×Ob)} {nx:Nat} {Q:D→List (Nat×Ob)→Nat→Prop} (hl:ds.length≤15) (h:awp Go.Proofs.Tryz.prog T 15 nx gcH (Go.Proofs.Tryz.f248.body.getD .skip) (fin Go.Proofs.Tryz.prog [.tmp 2, .tmp 3] Q) ⟨prm 0 ds,os,nx⟩):ga Go.Proofs.Tryz.prog 248 ds os nx Q:=
 ya hT.toS (fn:=Go.Proofs.Tryz.f248) gcH (by kernel_rfl) rfl rfl (by kernel_rfl) rfl hl rfl h
abbrev bcH:Nat→Option (List Nat):=lvL [(0,[1,2]),(1,[4])]
theorem wdC {T:Tab} (hT:za Go.Proofs.Tryz.prog T) {ds:List D} {os:List (Nat×Ob)} {nx:Nat} {Q:D→List (Nat×Ob)→Nat→Prop} (hl:ds.length≤9) (h:awp Go.Proofs.Tryz.prog T 9 nx bcH (Go.Proofs.Tryz.f249.body.getD .skip) (fin Go.Proofs.Tryz.prog [.tmp 4] Q) ⟨prm 0 ds,os,nx⟩):ga Go.Proofs.Tryz.prog 249 ds os nx Q:=
 ya hT.toS (fn:=Go.Proofs.Tryz.f249) bcH (by kernel_rfl) rfl rfl (by kernel_rfl) rfl hl rfl h
abbrev zcI:Nat→Option (List Nat):=lvL [(0,[1]),(1,[2])]
theorem udC {T:Tab} (hT:za Go.Proofs.Tryz.prog T) {ds:List D} {os:List (Nat×Ob)} {nx:Nat} {Q:D→List (Nat×Ob)→Nat→Prop} (hl:ds.length≤23) (h:awp Go.Proofs.Tryz.prog T 23 nx zcI (Go.Proofs.Tryz.f251.body.getD .skip) (fin Go.Proofs.Tryz.prog [.tmp 2] Q) ⟨prm 0 ds,os,nx⟩):ga Go.Proofs.Tryz.prog 251 ds os nx Q:=
 ya hT.toS (fn:=Go.Proofs.Tryz.f251) zcI (by kernel_rfl) rfl rfl (by kernel_rfl) rfl hl rfl h
abbrev ycI:Nat→Option (List Nat):=lvL [(0,[1,2]),(1,[4])]
theorem gdC {T:Tab} (hT:za Go.Proofs.Tryz.prog T) {ds:List D} {os:List (Nat×Ob)} {nx:Nat} {Q:D→List (Nat×Ob)→Nat→Prop} (hl:ds.length≤9) (h:awp Go.Proofs.Tryz.prog T 9 nx ycI (Go.Proofs.Tryz.f252.body.getD .skip) (fin Go.Proofs.Tryz.prog [.tmp 4] Q) ⟨prm 0 ds,os,nx⟩):ga Go.Proofs.Tryz.prog 252 ds os nx Q:=
 ya hT.toS (fn:=Go.Proofs.Tryz.f252) ycI (by kernel_rfl) rfl rfl (by kernel_rfl) rfl hl rfl h
abbrev xcI:Nat→Option (List Nat):=lvL [(0,[0]),(1,[2])]
theorem bdC {T:Tab} (hT:za Go.Proofs.Tryz.prog T) {ds:List D} {os:List (Nat×Ob)} {nx:Nat} {Q:D→List (Nat×Ob)→Nat→Prop} (hl:ds.length≤6) (h:awp Go.Proofs.Tryz.prog T 6 nx xcI (Go.Proofs.Tryz.f253.body.getD .skip) (fin Go.Proofs.Tryz.prog [.tmp 2] Q) ⟨prm 0 ds,os,nx⟩):ga Go.Proofs.Tryz.prog 253 ds os nx Q:=
 ya hT.toS (fn:=Go.Proofs.Tryz.f253) xcI (by kernel_rfl) rfl rfl (by kernel_rfl) rfl hl rfl h
abbrev bb3:Nat→Option (List Nat):=lvL [(0,[0]),(1,[0,3]),(2,[3,6,7,8]),(3,[3,6,7,8,9]),(4,[3,5,6,7,8]),(5,[3,6,7,8]),(6,[3,6,7,8]),(7,[2])]
theorem zdD {T:Tab} (hT:za Go.Proofs.Tryz.prog T) {ds:List D} {os:List (Nat×Ob)} {nx:Nat} {Q:D→List (Nat×Ob)→Nat→Prop} (hl:ds.length≤19) (h:awp Go.Proofs.Tryz.prog T 19 nx bb3 (Go.Proofs.Tryz.f254.body.getD .skip) (fin Go.Proofs.Tryz.prog [.tmp 2] Q) ⟨prm 0 ds,os,nx⟩):ga Go.Proofs.Tryz.prog 254 ds os nx Q:=
 ya hT.toS (fn:=Go.Proofs.Tryz.f254) bb3 (by kernel_rfl) rfl rfl (by kernel_rfl) rfl hl rfl h
abbrev qcI:Nat→Option (List Nat):=lvL [(0,[1]),(1,[1,4,5]),(2,[1,4,5,12]),(3,[2,3]),(4,[2,3])]
theorem ydD {T:Tab} (hT:za Go.Proofs.Tryz.prog T) {ds:List D} {os:List (Nat×Ob)} {nx:Nat} {Q:D→List (Nat×Ob)→Nat→Prop} (hl:ds.length≤23) (h:awp Go.Proofs.Tryz.prog T 23 nx qcI (Go.Proofs.Tryz.f255.body.getD .skip) (fin Go.Proofs.Tryz.prog [.tmp 2, .tmp 3] Q) ⟨prm 0 ds,os,nx⟩):ga Go.Proofs.Tryz.prog 255 ds os nx Q:=
 ya hT.toS (fn:=Go.Proofs.Tryz.f255) qcI (by kernel_rfl) rfl rfl (by kernel_rfl) rfl hl rfl h
abbrev zb4:Nat→Option (List Nat):=lvL [(0,[1,2]),(1,[1,2,30]),(2,[2,3,4]),(3,[1,2,32,33,34]),(4,[1,2,32,33,34,35]),(5,[1,2,5,6,32,33,34]),(6,[1,2,6,32,33,34,57]),(7,[2,3,4]),(8,[1,2,4,32,33,34]),(9,[1,2,32,33,34,73]),(10,[2,3,4]),(11,[1,2,32,33,34]),(12,[2,3,4]),(13,[2,3,86]),(14,[2,3,4]),(15,[2,3,4])]
@[go_sem] def bcd:List Nat:=[0,1,3,7,15,31,63,127,255,127,639,2047,4095,127,8319,32767,65535,131071,262143]
theorem xdD {T:Tab} (hT:za Go.Proofs.Tryz.prog T) {ds:List D} {os:List (Nat×Ob)} {nx:Nat} {Q:D→List (Nat×Ob)→Nat→Prop} (hl:ds.length≤89) (h:awp Go.Proofs.Tryz.prog T 89 nx zb4 (Go.Proofs.Tryz.f259.body.getD .skip) (fin Go.Proofs.Tryz.prog [.tmp 2, .tmp 3, .tmp 4] Q) ⟨prm 0 ds,os,nx⟩):ga Go.Proofs.Tryz.prog 259 ds os nx Q:=
 ya hT.toS (fn:=Go.Proofs.Tryz.f259) zb4 (by kernel_rfl) rfl rfl (by kernel_rfl) rfl hl rfl h
abbrev jcI:Nat→Option (List Nat):=lvL [(0,[1]),(1,[1,6]),(2,[2,3]),(3,[2,3])]
theorem qdD {T:Tab} (hT:za Go.Proofs.Tryz.prog T) {ds:List D} {os:List (Nat×Ob)} {nx:Nat} {Q:D→List (Nat×Ob)→Nat→Prop} (hl:ds.length≤13) (h:awp Go.Proofs.Tryz.prog T 13 nx jcI (Go.Proofs.Tryz.f260.body.getD .skip) (fin Go.Proofs.Tryz.prog [.tmp 2, .tmp 3] Q) ⟨prm 0 ds,os,nx⟩):ga Go.Proofs.Tryz.prog 260 ds os nx Q:=
 ya hT.toS (fn:=Go.Proofs.Tryz.f260) jcI (by kernel_rfl) rfl rfl (by kernel_rfl) rfl hl rfl h
abbrev kcI:Nat→Option (List Nat):=lvL [(0,[1,2]),(1,[4])]
theorem jdD {T:Tab} (hT:za Go.Proofs.Tryz.prog T) {ds:List D} {os:List (Nat×Ob)} {nx:Nat} {Q:D→List (Nat×Ob)→Nat→Prop} (hl:ds.length≤9) (h:awp Go.Proofs.Tryz.prog T 9 nx kcI (Go.Proofs.Tryz.f261.body.getD .skip) (fin Go.Proofs.Tryz.prog [.tmp 4] Q) ⟨prm 0 ds,os,nx⟩):ga Go.Proofs.Tryz.prog 261 ds os nx Q:=
 ya hT.toS (fn:=Go.Proofs.Tryz.f261) kcI (by kernel_rfl) rfl rfl (by kernel_rfl) rfl hl rfl h
end Dm
namespace Dm
open Go
section
variable {κ:Type} [DecidableEq κ]
def alk (a:κ):List (κ×Int)→Option Int
 |[]=>none
 |(x,y)::l=>if x=a then some y else alk a l
def kbc (a:κ) (b:Int):List (κ×Int)→List (κ×Int)
 |[]=>[(a,b)]
 |(x,y)::l=>if x=a then(x,b)::l else(x,y)::kbc a b l
theorem vaS {a k:κ} {b:Int}:∀{l:List (κ×Int)},alk k (kbc a b l)=if k=a then some b else alk k l
 |[]=>by
  simp only [kbc,alk]
  by_cases h:a=k
  ·rw [if_pos h,if_pos h.symm]
  ·rw [if_neg h,if_neg (fun e=>h e.symm)]
 |(x,y)::l=>by
  rw [kbc]
  by_cases hx:x=a
  ·subst hx
   rw [if_pos rfl,alk,alk]
   by_cases h:x=k
   ·rw [if_pos h,if_pos h.symm]
   ·rw [if_neg h,if_neg (fun e=>h e.symm),if_neg h]
  ·rw [if_neg hx,alk,alk,vaS]
   by_cases h:x=k
   ·rw [if_pos h,if_pos h]
    subst h
    rw [if_neg hx]
   ·rw [if_neg h,if_neg h]
end
abbrev K3:=Nat×Nat×Nat
def kv3 (l:List (K3×Int)):List (List C×D):=l.map fun x=>([.int .u64 x.1.1, .int .u64 x.1.2.1, .int .u64 x.1.2.2], .int .i64 x.2)
theorem gbk {a b c:Nat}:∀{l:List (K3×Int)},mlk [.int .u64 (a:Int), .int .u64 (b:Int), .int .u64 (c:Int)] (kv3 l)=(alk (a,b,c) l).map fun b=> .int .i64 b
 |[]=>rfl
 |((x,y,z),v)::l=>by
  show mlk _ (([.int .u64 (x:Int), .int .u64 (y:Int), .int .u64 (z:Int)],_)::kv3 l)=_
  rw [mlk,alk]
  by_cases h:(x,y,z)=(a,b,c)
  ·rw [if_pos h];cases h;rw [if_pos rfl];rfl
  ·rw [if_neg h,if_neg,gbk]
   intro e
   simp only [List.cons.injEq,C.int.injEq,true_and,and_true,Int.natCast_inj]at e
   exact h (by rw [e.1,e.2.1,e.2.2])
attribute [go_sem] gbk
theorem jaW {a b c:Nat} {v:Int}:∀{l:List (K3×Int)},w9 [.int .u64 (a:Int), .int .u64 (b:Int), .int .u64 (c:Int)] (.int .i64 v) (kv3 l)=kv3 (kbc (a,b,c) v l)
 |[]=>rfl
 |((x,y,z),u)::l=>by
  show w9 _ _ (([.int .u64 (x:Int), .int .u64 (y:Int), .int .u64 (z:Int)],_)::kv3 l)=_
  rw [w9,kbc]
  by_cases h:(x,y,z)=(a,b,c)
  ·rw [if_pos h];cases h;rw [if_pos rfl];rfl
  ·rw [if_neg h,if_neg,jaW]
   ·rfl
   ·intro e
    simp only [List.cons.injEq,C.int.injEq,true_and,and_true,Int.natCast_inj]at e
    exact h (by rw [e.1,e.2.1,e.2.2])
attribute [go_sem] jaW
@[go_sem] theorem zdG {N:Nat} {l:List (K3×Int)}:bbO N (kv3 l)=true:=by
 simp [bbO,kv3,D.vbx,D.ybe,D.ybw]
@[go_sem] theorem qda:∀{l:List (K3×Int)},(kv3 l).map (·.2)=l.map fun x=>D.int .i64 x.2:=by
 intro l;simp [kv3]
@[go_sem] theorem ubk {α:Type} {k:IntKind} {f:α→Int}:∀{l:List α},uj (l.map fun x=>D.int k (f x))=[]
 |[]=>rfl
 |x::l=>by
  rw [List.map_cons,uj,ubk];rfl
@[go_sem] theorem yaM {key:List C} {k:IntKind} {n:Int}:∀{kv:List (List C×D)},uj ((qn key (.int k n) kv).map (·.2))=uj (kv.map (·.2))
 |[]=>rfl
 |(k',d)::l=>by
  rw [qn]
  split
  ·rfl
  ·rw [List.map_cons,List.map_cons,uj,uj,yaM]
attribute [go_sem] yax
@[go_sem] theorem bdR {k:List C} {kv:List (List C×D)}:(0≤((mpos k kv:Nat):Int))=True:=eq_true (by omega)
@[go_sem] theorem gdR {k:List C} {z:D} {kv:List (List C×D)}:(((mpos k kv:Nat):Int)<(((qn k z kv).length:Nat):Int))=True:=eq_true (by have:=ybl (k:=k) (z:=z) (kv:=kv);omega)
@[go_sem] theorem qdM {o:Option Int}:(o.map fun b=>D.int .i64 b).getD (.int .i64 0)= .int .i64 (o.getD 0):=by cases o<;>rfl
@[go_sem] theorem gdh {P:Program} {s:St}:rdD P s []=some (.tup []):=rfl
@[go_sem] theorem vez {P:Program} {s:St} {r r' r'' r3:ResultVar}:rdD P s [r,r',r'',r3]=match rd1 P s r,rd1 P s r',rd1 P s r'',rd1 P s r3 with|some x,some y,some z,some u=>some (.tup [x,y,z,u])|_,_,_,_=>none:=by
 unfold rdD rds rds rds rds rds
 cases rd1 P s r<;>cases rd1 P s r'<;>cases rd1 P s r''<;>cases rd1 P s r3<;>rfl
theorem qbE {o:Option Int} {d:Option Nat} {s:St} {K:St→Prop}:okL (some (o.map fun b=>D.int .i64 b,D.int .i64 0)) false d s K=K (s.put d (.int .i64 (o.getD 0))):=by
 cases o<;>rfl
end Dm
namespace Dm
open Go
abbrev NK:=Nat×Int×List UInt8
abbrev nkt:List KK:=[.int .u64, .int .i64, .str]
def kvM (l:List (NK×Int)):List (List C×D):=l.map fun x=>([.int .u64 x.1.1, .int .i64 x.1.2.1, .str (xas x.1.2.2)], .int .i64 x.2)
def zb0 (l:List (NK×Int)):List (List C×List C):=l.map fun x=>([.int .u64 x.1.1, .int .i64 x.1.2.1, .str (xas x.1.2.2)],[.int .i64 x.2])
@[go_sem] theorem xc9 {l:List (NK×Int)}:kvD (zb0 l)=kvM l:=by simp [kvD,zb0,kvM,dOf]
@[go_sem] theorem qbj:∀{l:List (NK×Int)},kvC (kvM l)=some (zb0 l)
 |[]=>rfl
 |((a,b,c),v)::l=>by
  show kvC (([.int .u64 (a:Int), .int .i64 b, .str (xas c)],D.int .i64 v)::kvM l)=_
  rw [kvC,qbj]
  rfl
theorem qaM {a:Nat} {b:Int} {c:List UInt8}:∀{l:List (NK×Int)},mlk [.int .u64 (a:Int), .int .i64 b, .str (xas c)] (kvM l)=(alk (a,b,c) l).map fun b=> .int .i64 b
 |[]=>rfl
 |((x,y,z),v)::l=>by
  show mlk _ (([.int .u64 (x:Int), .int .i64 y, .str (xas z)],_)::kvM l)=_
  rw [mlk,alk]
  by_cases h:(x,y,z)=(a,b,c)
  ·rw [if_pos h];cases h;rw [if_pos rfl];rfl
  ·rw [if_neg h,if_neg,qaM]
   intro e
   simp only [List.cons.injEq,C.int.injEq,C.str.injEq,baS,true_and,and_true,Int.natCast_inj]at e
   exact h (by rw [e.1,e.2.1,e.2.2])
attribute [go_sem] qaM
@[go_sem] theorem bda {b:Int} {c:List UInt8} {l:List (NK×Int)}:mlk [.int .u64 0, .int .i64 b, .str (xas c)] (kvM l)=(alk (0,b,c) l).map fun b=> .int .i64 b:=qaM (a:=0)
theorem kaW {a:Nat} {b:Int} {c:List UInt8} {v:Int}:∀{l:List (NK×Int)},w9 [.int .u64 (a:Int), .int .i64 b, .str (xas c)] (.int .i64 v) (kvM l)=kvM (kbc (a,b,c) v l)
 |[]=>rfl
 |((x,y,z),u)::l=>by
  show w9 _ _ (([.int .u64 (x:Int), .int .i64 y, .str (xas z)],_)::kvM l)=_
  rw [w9,kbc]
  by_cases h:(x,y,z)=(a,b,c)
  ·rw [if_pos h];cases h;rw [if_pos rfl];rfl
  ·rw [if_neg h,if_neg,kaW]
   ·rfl
   ·intro e
    simp only [List.cons.injEq,C.int.injEq,C.str.injEq,baS,true_and,and_true,Int.natCast_inj]at e
    exact h (by rw [e.1,e.2.1,e.2.2])
attribute [go_sem] kaW
@[go_sem] theorem ydG {N:Nat} {l:List (NK×Int)}:bbO N (kvM l)=true:=by
 simp [bbO,kvM,D.vbx,D.ybe,D.ybw]
@[go_sem] theorem jda {l:List (NK×Int)}:(kvM l).map (·.2)=l.map fun x=>D.int .i64 x.2:=by
 simp [kvM]
def kf (l:List (List UInt8)):List (List C):=l.map fun x=>[.sl (u8s x)]
def wal (l:List (List C)):List (List UInt8):=l.map fun|[.sl x]=>ku x|_=>[]
@[simp,go_sem] theorem vbC (l:List (List UInt8)):(kf l).length=l.length:=by simp [kf]
@[go_sem] theorem vcn (l:List (List UInt8)) (i:Nat):(kf l).getD i [.sl []]=[.sl (u8s (l.getD i default))]:=by
 simp only [kf,List.getD_eq_getElem?_getD,List.getElem?_map]
 cases l[i]? <;>rfl
@[go_sem] theorem wb0 (l:List (List UInt8)):uf 1 (kf l)=True:=by simp [uf,kf]
@[go_sem] theorem xad (l:List (List UInt8)):wal (kf l)=l:=by
 simp only [wal,kf,List.map_map]
 exact List.map_id'' (fun e=>by simp [zg]) l
@[go_sem] theorem kcn (a b:List (List UInt8)):kf a++kf b=kf (a++b):=by simp [kf]
@[go_sem] theorem kb0 (l:List (List UInt8)) (k:Nat):(kf l).drop k=kf (l.drop k):=by simp [kf]
@[go_sem] theorem vb0 (l:List (List UInt8)) (k:Nat):(kf l).take k=kf (l.take k):=by simp [kf]
@[go_sem] theorem wcn (b:List UInt8):[[C.sl (u8s b)]]=kf [b]:=rfl
@[go_sem] theorem jb0 (b:List UInt8) (l:List (List UInt8)):[C.sl (u8s b)]::kf l=kf (b::l):=rfl
@[go_sem] theorem ucn (l:List (List UInt8)) (i:Nat) (b:List UInt8):(kf l).set i [C.sl (u8s b)]=kf (l.set i b):=by simp [kf,List.map_set]
end Dm
