import Derived.Test.YtceoichdaepegabGreatP3
import Derived.LoopNIn
import Derived.Shelf.Abstract
import Derived.Shelf.SlSortCmp.NoneTotal
set_option linter.unusedSimpArgs false
set_option linter.unusedVariables false
set_option linter.unusedSectionVars false
namespace Dm
set_option maxRecDepth 20000
def lvL (l : List (Nat × List Nat)) (i : Nat) : Option (List Nat) := lk i l
@[go_sem] theorem gcZ (l : List (Nat × List Nat)) (i : Nat) : lvL l i = lk i l := rfl
abbrev lv3 : Nat → Option (List Nat) := lvL [(0, [0]), (1, [0, 23]), (2, [2]), (3, [0, 26]), (4, [2]), (5, [0, 3]), (6, [3, 28, 29, 30]), (7, [3, 28, 29, 30, 31]), (8, [3, 5, 28, 29, 30]), (9, [3, 5, 28, 29, 30, 36]), (10, [2]), (11, [3, 5, 6, 7, 28, 29, 30]), (12, [3, 5, 6, 28, 29, 30, 44]), (13, [3, 28, 29, 30, 59]), (14, [2]), (15, [3, 5, 6, 8, 9, 28, 29, 30]), (16, [3, 5, 6, 28, 29, 30, 101]), (17, [2]), (18, [3, 5, 6, 28, 29, 30, 103, 104, 105]), (19, [3, 5, 6, 28, 29, 30, 103, 104, 105, 106]), (20, [3, 5, 6, 11, 28, 29, 30, 103, 104, 105]), (21, [3, 5, 6, 11, 12, 13, 28, 29, 30, 103, 104, 105]), (22, [3, 5, 6, 11, 12, 13, 14, 15, 28, 29, 30, 103, 104, 105]), (23, [3, 5, 6, 11, 12, 13, 14, 15, 16, 17, 28, 29, 30, 103, 104, 105]), (24, [3, 5, 6, 11, 12, 13, 14, 15, 16, 17, 18, 19, 28, 29, 30, 103, 104, 105]), (25, [3, 5, 6, 11, 12, 13, 14, 15, 16, 17, 18, 19, 20, 21, 28, 29, 30, 103, 104, 105]), (26, [3, 5, 6, 28, 29, 30, 103, 104, 105, 187]), (27, [2]), (28, [3, 5, 6, 28, 29, 30, 103, 104, 105]), (29, [3, 28, 29, 30]), (30, [3, 28, 29, 30]), (31, [2])]
theorem ac3 {T : Tab} (hT : za Go.Proofs.Tryz.prog T) {ds : List D} {os : List (Nat × Ob)} {nx : Nat} {Q : D → List (Nat × Ob) → Nat → Prop} (hl : ds.length ≤ 191) (h : awp Go.Proofs.Tryz.prog T 191 nx lv3 (Go.Proofs.Tryz.f3.body.getD .skip) (fin Go.Proofs.Tryz.prog [.tmp 2] Q) ⟨prm 0 ds, os, nx⟩) : va Go.Proofs.Tryz.prog 3 ds os nx Q :=
  ya hT.toS (fn := Go.Proofs.Tryz.f3) lv3 (by kernel_rfl) rfl rfl (by kernel_rfl) rfl hl rfl h
abbrev lv4 : Nat → Option (List Nat) := lvL [(0, []), (1, [1, 2]), (2, [1, 2, 3, 4]), (3, [1, 2, 3, 4, 5, 7]), (4, [1, 2, 3, 4, 5, 7, 8]), (5, [2, 3, 4, 5, 7, 8, 9, 11]), (6, [0])]
theorem ac4 {T : Tab} (hT : za Go.Proofs.Tryz.prog T) {ds : List D} {os : List (Nat × Ob)} {nx : Nat} {Q : D → List (Nat × Ob) → Nat → Prop} (hl : ds.length ≤ 74) (h : awp Go.Proofs.Tryz.prog T 74 nx lv4 (Go.Proofs.Tryz.f4.body.getD .skip) (fin Go.Proofs.Tryz.prog [.tmp 0] Q) ⟨prm 0 ds, os, nx⟩) : va Go.Proofs.Tryz.prog 4 ds os nx Q :=
  ya hT.toS (fn := Go.Proofs.Tryz.f4) lv4 (by kernel_rfl) rfl rfl (by kernel_rfl) rfl hl rfl h
abbrev lv5 : Nat → Option (List Nat) := lvL [(0, [0]), (1, [0])]
theorem ac5 {T : Tab} (hT : za Go.Proofs.Tryz.prog T) {ds : List D} {os : List (Nat × Ob)} {nx : Nat} {Q : D → List (Nat × Ob) → Nat → Prop} (hl : ds.length ≤ 3) (h : awp Go.Proofs.Tryz.prog T 3 nx lv5 (Go.Proofs.Tryz.f5.body.getD .skip) (fin Go.Proofs.Tryz.prog [.cell 0 33] Q) ⟨prm 0 ds, os, nx⟩) : va Go.Proofs.Tryz.prog 5 ds os nx Q :=
  ya hT.toS (fn := Go.Proofs.Tryz.f5) lv5 (by kernel_rfl) rfl rfl (by kernel_rfl) rfl hl rfl h
abbrev lv6 : Nat → Option (List Nat) := lvL [(0, [1]), (1, [2])]
theorem ac6 {T : Tab} (hT : za Go.Proofs.Tryz.prog T) {ds : List D} {os : List (Nat × Ob)} {nx : Nat} {Q : D → List (Nat × Ob) → Nat → Prop} (hl : ds.length ≤ 14) (h : awp Go.Proofs.Tryz.prog T 14 nx lv6 (Go.Proofs.Tryz.f6.body.getD .skip) (fin Go.Proofs.Tryz.prog [.tmp 2] Q) ⟨prm 0 ds, os, nx⟩) : va Go.Proofs.Tryz.prog 6 ds os nx Q :=
  ya hT.toS (fn := Go.Proofs.Tryz.f6) lv6 (by kernel_rfl) rfl rfl (by kernel_rfl) rfl hl rfl h
abbrev lv7 : Nat → Option (List Nat) := lvL [(0, [2, 3, 4]), (1, [2, 3, 4, 13]), (2, [2, 3, 4, 13, 14]), (3, [2, 3, 4, 13, 14]), (4, [4, 6, 8]), (5, [4, 5]), (6, [2, 3, 4, 13, 29]), (7, [4, 5]), (8, [2, 3, 4, 13, 39]), (9, [4, 5]), (10, [2, 3, 4, 13, 51]), (11, [4, 5]), (12, [2, 3, 4, 13, 59]), (13, [4, 5]), (14, [2, 3, 4, 13, 71]), (15, [4, 5]), (16, [2, 3, 4, 79]), (17, [4, 5]), (18, [3, 4, 9, 10]), (19, [3, 4, 9, 10, 95]), (20, [4, 5]), (21, [4, 5])]
theorem ac7 {T : Tab} (hT : za Go.Proofs.Tryz.prog T) {ds : List D} {os : List (Nat × Ob)} {nx : Nat} {Q : D → List (Nat × Ob) → Nat → Prop} (hl : ds.length ≤ 104) (h : awp Go.Proofs.Tryz.prog T 104 nx lv7 (Go.Proofs.Tryz.f7.body.getD .skip) (fin Go.Proofs.Tryz.prog [.cell 4 33, .tmp 5] Q) ⟨prm 0 ds, os, nx⟩) : va Go.Proofs.Tryz.prog 7 ds os nx Q :=
  ya hT.toS (fn := Go.Proofs.Tryz.f7) lv7 (by kernel_rfl) rfl rfl (by kernel_rfl) rfl hl rfl h
abbrev lv8 : Nat → Option (List Nat) := lvL [(0, [0, 1]), (1, [0, 1, 22]), (2, [4, 5]), (3, [0, 1, 6, 7, 8]), (4, [0, 6, 7, 8, 25, 26, 27]), (5, [0, 6, 7, 8, 25, 26, 27, 28]), (6, [0, 6, 7, 8, 10, 25, 26, 27]), (7, [0, 6, 7, 8, 10, 25, 26, 27]), (8, [0, 6, 7, 8, 10, 25, 26, 27, 40]), (9, [4, 5]), (10, [0, 6, 7, 8, 10, 25, 26, 27, 42, 43, 44]), (11, [0, 6, 7, 8, 10, 25, 26, 27, 42, 43, 44, 45]), (12, [0, 6, 7, 8, 10, 12, 25, 26, 27, 42, 43, 44]), (13, [0, 6, 7, 8, 10, 25, 26, 27, 42, 43, 44]), (14, [0, 6, 7, 8, 10, 25, 26, 27, 42, 43, 44]), (15, [0, 6, 7, 8, 10, 25, 26, 27, 42, 43, 44]), (16, [0, 6, 7, 8, 25, 26, 27]), (17, [6, 8, 61, 62, 63]), (18, [6, 8, 61, 62, 63, 64]), (19, [6, 8, 14, 61, 62, 63]), (20, [6, 8, 14, 61, 62, 63, 69]), (21, [6, 8, 61, 62, 63, 80]), (22, [4, 5]), (23, [6, 8, 61, 62, 63]), (24, [6, 8, 61, 62, 63]), (25, [4, 5])]
@[go_sem] def wbW : List Nat := [0, 0, 2, 0, 14, 31, 63, 31, 159, 511]
theorem ac8 {T : Tab} (hT : za Go.Proofs.Tryz.prog T) {ds : List D} {os : List (Nat × Ob)} {nx : Nat} {Q : D → List (Nat × Ob) → Nat → Prop} (hl : ds.length ≤ 86) (h : awp Go.Proofs.Tryz.prog T 86 nx lv8 (Go.Proofs.Tryz.f8.body.getD .skip) (fin Go.Proofs.Tryz.prog [.tmp 4, .tmp 5] Q) ⟨prm 0 ds, os, nx⟩) : va Go.Proofs.Tryz.prog 8 ds os nx Q :=
  ya hT.toS (fn := Go.Proofs.Tryz.f8) lv8 (by kernel_rfl) rfl rfl (by kernel_rfl) rfl hl rfl h
abbrev lv9 : Nat → Option (List Nat) := lvL [(0, [1]), (1, [1, 37]), (2, [2]), (3, [1, 3]), (4, [1, 54]), (5, [2]), (6, [4, 5]), (7, [68]), (8, [2]), (9, [2])]
@[go_sem] def kcv : List Nat := [0, 1, 3, 7, 15, 7, 39, 127, 255, 511, 7, 1031, 4095, 8191]
theorem ac9 {T : Tab} (hT : za Go.Proofs.Tryz.prog T) {ds : List D} {os : List (Nat × Ob)} {nx : Nat} {Q : D → List (Nat × Ob) → Nat → Prop} (hl : ds.length ≤ 69) (h : awp Go.Proofs.Tryz.prog T 69 nx lv9 (Go.Proofs.Tryz.f9.body.getD .skip) (fin Go.Proofs.Tryz.prog [.tmp 2] Q) ⟨prm 0 ds, os, nx⟩) : va Go.Proofs.Tryz.prog 9 ds os nx Q :=
  ya hT.toS (fn := Go.Proofs.Tryz.f9) lv9 (by kernel_rfl) rfl rfl (by kernel_rfl) rfl hl rfl h
abbrev qcS : Nat → Option (List Nat) := lvL [(0, [0, 1, 4]), (1, [0, 4, 6, 7]), (2, [0, 4, 6, 7, 15]), (3, [4, 5]), (4, [4, 5])]
theorem wdd {T : Tab} (hT : za Go.Proofs.Tryz.prog T) {ds : List D} {os : List (Nat × Ob)} {nx : Nat} {Q : D → List (Nat × Ob) → Nat → Prop} (hl : ds.length ≤ 23) (h : awp Go.Proofs.Tryz.prog T 23 nx qcS (Go.Proofs.Tryz.f10.body.getD .skip) (fin Go.Proofs.Tryz.prog [.cell 4 37, .tmp 5] Q) ⟨prm 0 ds, os, nx⟩) : va Go.Proofs.Tryz.prog 10 ds os nx Q :=
  ya hT.toS (fn := Go.Proofs.Tryz.f10) qcS (by kernel_rfl) rfl rfl (by kernel_rfl) rfl hl rfl h
abbrev kc5 : Nat → Option (List Nat) := lvL [(0, [1]), (1, [5, 6]), (2, [2, 3])]
theorem zdg {T : Tab} (hT : za Go.Proofs.Tryz.prog T) {ds : List D} {os : List (Nat × Ob)} {nx : Nat} {Q : D → List (Nat × Ob) → Nat → Prop} (hl : ds.length ≤ 15) (h : awp Go.Proofs.Tryz.prog T 15 nx kc5 (Go.Proofs.Tryz.f11.body.getD .skip) (fin Go.Proofs.Tryz.prog [.tmp 2, .tmp 3] Q) ⟨prm 0 ds, os, nx⟩) : va Go.Proofs.Tryz.prog 11 ds os nx Q :=
  ya hT.toS (fn := Go.Proofs.Tryz.f11) kc5 (by kernel_rfl) rfl rfl (by kernel_rfl) rfl hl rfl h
abbrev qc5 : Nat → Option (List Nat) := lvL [(0, [1]), (1, [4, 6]), (2, [2, 3])]
theorem jdi {T : Tab} (hT : za Go.Proofs.Tryz.prog T) {ds : List D} {os : List (Nat × Ob)} {nx : Nat} {Q : D → List (Nat × Ob) → Nat → Prop} (hl : ds.length ≤ 15) (h : awp Go.Proofs.Tryz.prog T 15 nx qc5 (Go.Proofs.Tryz.f12.body.getD .skip) (fin Go.Proofs.Tryz.prog [.tmp 2, .tmp 3] Q) ⟨prm 0 ds, os, nx⟩) : va Go.Proofs.Tryz.prog 12 ds os nx Q :=
  ya hT.toS (fn := Go.Proofs.Tryz.f12) qc5 (by kernel_rfl) rfl rfl (by kernel_rfl) rfl hl rfl h
abbrev vcM : Nat → Option (List Nat) := lvL [(0, [0, 1, 4]), (1, [0, 1, 4, 5]), (2, [0, 1, 4, 5, 11]), (3, [4, 5]), (4, [1, 4, 13, 14, 15]), (5, [1, 4, 13, 14, 15, 16]), (6, [1, 4, 7, 13, 14, 15]), (7, [1, 4, 7, 13, 14, 15, 27]), (8, [1, 4, 5, 13, 14, 15]), (9, [1, 4, 13, 14, 15, 37]), (10, [4, 5]), (11, [1, 4, 13, 14, 15]), (12, [4, 5])]
theorem qde {T : Tab} (hT : za Go.Proofs.Tryz.prog T) {ds : List D} {os : List (Nat × Ob)} {nx : Nat} {Q : D → List (Nat × Ob) → Nat → Prop} (hl : ds.length ≤ 40) (h : awp Go.Proofs.Tryz.prog T 40 nx vcM (Go.Proofs.Tryz.f13.body.getD .skip) (fin Go.Proofs.Tryz.prog [.tmp 4, .tmp 5] Q) ⟨prm 0 ds, os, nx⟩) : va Go.Proofs.Tryz.prog 13 ds os nx Q :=
  ya hT.toS (fn := Go.Proofs.Tryz.f13) vcM (by kernel_rfl) rfl rfl (by kernel_rfl) rfl hl rfl h
abbrev kcR : Nat → Option (List Nat) := lvL [(0, [2, 3, 4]), (1, [3, 4, 6]), (2, [3, 4, 6]), (3, [4, 6]), (4, [4, 5])]
theorem qdi {T : Tab} (hT : za Go.Proofs.Tryz.prog T) {ds : List D} {os : List (Nat × Ob)} {nx : Nat} {Q : D → List (Nat × Ob) → Nat → Prop} (hl : ds.length ≤ 26) (h : awp Go.Proofs.Tryz.prog T 26 nx kcR (Go.Proofs.Tryz.f14.body.getD .skip) (fin Go.Proofs.Tryz.prog [.cell 4 33, .tmp 5] Q) ⟨prm 0 ds, os, nx⟩) : va Go.Proofs.Tryz.prog 14 ds os nx Q :=
  ya hT.toS (fn := Go.Proofs.Tryz.f14) kcR (by kernel_rfl) rfl rfl (by kernel_rfl) rfl hl rfl h
abbrev kc3 : Nat → Option (List Nat) := lvL [(0, [3, 4, 5, 6]), (1, [3, 4, 5, 6, 9]), (2, [3, 4, 5, 6, 9]), (3, [3, 4, 5, 6, 9, 10, 11]), (4, [3, 4, 5, 6, 9, 10]), (5, [3, 4, 5, 6, 9, 10]), (6, [3, 5, 6, 9, 10]), (7, [3, 5, 6, 9]), (8, [3, 6, 9]), (9, [3, 6, 9]), (10, [3, 6, 11, 12]), (11, [3, 6, 11, 12, 77]), (12, [6, 7, 8]), (13, [6, 7, 8])]
@[go_sem] def jbq : List Nat := [0, 0, 2, 1, 15, 31]
theorem jdf {T : Tab} (hT : za Go.Proofs.Tryz.prog T) {ds : List D} {os : List (Nat × Ob)} {nx : Nat} {Q : D → List (Nat × Ob) → Nat → Prop} (hl : ds.length ≤ 83) (h : awp Go.Proofs.Tryz.prog T 83 nx kc3 (Go.Proofs.Tryz.f15.body.getD .skip) (fin Go.Proofs.Tryz.prog [.cell 6 33, .tmp 7, .tmp 8] Q) ⟨prm 0 ds, os, nx⟩) : va Go.Proofs.Tryz.prog 15 ds os nx Q :=
  ya hT.toS (fn := Go.Proofs.Tryz.f15) kc3 (by kernel_rfl) rfl rfl (by kernel_rfl) rfl hl rfl h
abbrev jcP : Nat → Option (List Nat) := lvL [(0, [0, 2, 3]), (1, [0, 2, 3, 4]), (2, [0, 2, 3, 4, 12]), (3, [2, 3, 4]), (4, [2, 3, 14, 15, 16]), (5, [2, 3, 14, 15, 16, 17]), (6, [2, 3, 6, 14, 15, 16]), (7, [2, 3, 6, 7, 8, 14, 15, 16]), (8, [2, 3, 6, 7, 8, 14, 15, 16, 26]), (9, [2, 3, 4]), (10, [2, 3, 6, 14, 15, 16]), (11, [2, 3, 6, 14, 15, 16, 32]), (12, [2, 3, 14, 15, 16]), (13, [2, 3, 14, 15, 16]), (14, [2, 3, 4])]
theorem ude {T : Tab} (hT : za Go.Proofs.Tryz.prog T) {ds : List D} {os : List (Nat × Ob)} {nx : Nat} {Q : D → List (Nat × Ob) → Nat → Prop} (hl : ds.length ≤ 40) (h : awp Go.Proofs.Tryz.prog T 40 nx jcP (Go.Proofs.Tryz.f16.body.getD .skip) (fin Go.Proofs.Tryz.prog [.tmp 2, .tmp 3, .tmp 4] Q) ⟨prm 0 ds, os, nx⟩) : va Go.Proofs.Tryz.prog 16 ds os nx Q :=
  ya hT.toS (fn := Go.Proofs.Tryz.f16) jcP (by kernel_rfl) rfl rfl (by kernel_rfl) rfl hl rfl h
abbrev bc7 : Nat → Option (List Nat) := lvL [(0, [3, 4, 5, 6]), (1, [4, 5, 6, 8]), (2, [4, 5, 6, 8]), (3, [4, 5, 6, 8, 9]), (4, [4, 5, 6, 8, 9]), (5, [4, 5, 6, 8, 9, 10]), (6, [4, 6, 8, 9, 10, 27]), (7, [4, 6, 8, 9, 10]), (8, [6, 8]), (9, [6, 7])]
theorem udf {T : Tab} (hT : za Go.Proofs.Tryz.prog T) {ds : List D} {os : List (Nat × Ob)} {nx : Nat} {Q : D → List (Nat × Ob) → Nat → Prop} (hl : ds.length ≤ 37) (h : awp Go.Proofs.Tryz.prog T 37 nx bc7 (Go.Proofs.Tryz.f17.body.getD .skip) (fin Go.Proofs.Tryz.prog [.cell 6 33, .tmp 7] Q) ⟨prm 0 ds, os, nx⟩) : va Go.Proofs.Tryz.prog 17 ds os nx Q :=
  ya hT.toS (fn := Go.Proofs.Tryz.f17) bc7 (by kernel_rfl) rfl rfl (by kernel_rfl) rfl hl rfl h
abbrev uc4 : Nat → Option (List Nat) := lvL [(0, [0]), (1, [0])]
theorem xdf {T : Tab} (hT : za Go.Proofs.Tryz.prog T) {ds : List D} {os : List (Nat × Ob)} {nx : Nat} {Q : D → List (Nat × Ob) → Nat → Prop} (hl : ds.length ≤ 2) (h : awp Go.Proofs.Tryz.prog T 2 nx uc4 (Go.Proofs.Tryz.f18.body.getD .skip) (fin Go.Proofs.Tryz.prog [.cell 0 31] Q) ⟨prm 0 ds, os, nx⟩) : va Go.Proofs.Tryz.prog 18 ds os nx Q :=
  ya hT.toS (fn := Go.Proofs.Tryz.f18) uc4 (by kernel_rfl) rfl rfl (by kernel_rfl) rfl hl rfl h
abbrev vc3 : Nat → Option (List Nat) := lvL [(0, [4, 5, 6, 7, 8]), (1, [5, 6, 7, 8, 10]), (2, [5, 6, 8, 10]), (3, [8, 10]), (4, [8, 9])]
theorem kdg {T : Tab} (hT : za Go.Proofs.Tryz.prog T) {ds : List D} {os : List (Nat × Ob)} {nx : Nat} {Q : D → List (Nat × Ob) → Nat → Prop} (hl : ds.length ≤ 28) (h : awp Go.Proofs.Tryz.prog T 28 nx vc3 (Go.Proofs.Tryz.f19.body.getD .skip) (fin Go.Proofs.Tryz.prog [.cell 8 33, .tmp 9] Q) ⟨prm 0 ds, os, nx⟩) : va Go.Proofs.Tryz.prog 19 ds os nx Q :=
  ya hT.toS (fn := Go.Proofs.Tryz.f19) vc3 (by kernel_rfl) rfl rfl (by kernel_rfl) rfl hl rfl h
abbrev jcV : Nat → Option (List Nat) := lvL [(0, [2, 3, 4]), (1, [2, 3, 4, 6]), (2, [3, 4, 6]), (3, [4, 6]), (4, [4, 5])]
theorem gda {T : Tab} (hT : za Go.Proofs.Tryz.prog T) {ds : List D} {os : List (Nat × Ob)} {nx : Nat} {Q : D → List (Nat × Ob) → Nat → Prop} (hl : ds.length ≤ 23) (h : awp Go.Proofs.Tryz.prog T 23 nx jcV (Go.Proofs.Tryz.f20.body.getD .skip) (fin Go.Proofs.Tryz.prog [.cell 4 33, .tmp 5] Q) ⟨prm 0 ds, os, nx⟩) : va Go.Proofs.Tryz.prog 20 ds os nx Q :=
  ya hT.toS (fn := Go.Proofs.Tryz.f20) jcV (by kernel_rfl) rfl rfl (by kernel_rfl) rfl hl rfl h
abbrev vcR : Nat → Option (List Nat) := lvL [(0, [4, 5, 6, 7, 8]), (1, [4, 5, 6, 7, 8, 10]), (2, [5, 6, 7, 8, 10]), (3, [5, 6, 8, 10]), (4, [8, 10]), (5, [8, 9])]
theorem vdj {T : Tab} (hT : za Go.Proofs.Tryz.prog T) {ds : List D} {os : List (Nat × Ob)} {nx : Nat} {Q : D → List (Nat × Ob) → Nat → Prop} (hl : ds.length ≤ 35) (h : awp Go.Proofs.Tryz.prog T 35 nx vcR (Go.Proofs.Tryz.f21.body.getD .skip) (fin Go.Proofs.Tryz.prog [.cell 8 33, .tmp 9] Q) ⟨prm 0 ds, os, nx⟩) : va Go.Proofs.Tryz.prog 21 ds os nx Q :=
  ya hT.toS (fn := Go.Proofs.Tryz.f21) vcR (by kernel_rfl) rfl rfl (by kernel_rfl) rfl hl rfl h
abbrev xc5 : Nat → Option (List Nat) := lvL [(0, [2, 3, 4]), (1, [3, 4, 6]), (2, [3, 4, 6]), (3, [4, 6]), (4, [4, 5])]
theorem wda {T : Tab} (hT : za Go.Proofs.Tryz.prog T) {ds : List D} {os : List (Nat × Ob)} {nx : Nat} {Q : D → List (Nat × Ob) → Nat → Prop} (hl : ds.length ≤ 23) (h : awp Go.Proofs.Tryz.prog T 23 nx xc5 (Go.Proofs.Tryz.f22.body.getD .skip) (fin Go.Proofs.Tryz.prog [.cell 4 33, .tmp 5] Q) ⟨prm 0 ds, os, nx⟩) : va Go.Proofs.Tryz.prog 22 ds os nx Q :=
  ya hT.toS (fn := Go.Proofs.Tryz.f22) xc5 (by kernel_rfl) rfl rfl (by kernel_rfl) rfl hl rfl h
abbrev qcW : Nat → Option (List Nat) := lvL [(0, [1, 2, 4]), (1, [1, 4, 6]), (2, [1, 4, 6]), (3, [4, 6]), (4, [4, 5])]
theorem xdd {T : Tab} (hT : za Go.Proofs.Tryz.prog T) {ds : List D} {os : List (Nat × Ob)} {nx : Nat} {Q : D → List (Nat × Ob) → Nat → Prop} (hl : ds.length ≤ 23) (h : awp Go.Proofs.Tryz.prog T 23 nx qcW (Go.Proofs.Tryz.f23.body.getD .skip) (fin Go.Proofs.Tryz.prog [.cell 4 33, .tmp 5] Q) ⟨prm 0 ds, os, nx⟩) : va Go.Proofs.Tryz.prog 23 ds os nx Q :=
  ya hT.toS (fn := Go.Proofs.Tryz.f23) qcW (by kernel_rfl) rfl rfl (by kernel_rfl) rfl hl rfl h
abbrev zc7 : Nat → Option (List Nat) := lvL [(0, [2, 3, 4]), (1, [2, 3, 4, 6]), (2, [3, 4, 6]), (3, [3, 4, 6]), (4, [4, 6]), (5, [4, 5])]
theorem qda {T : Tab} (hT : za Go.Proofs.Tryz.prog T) {ds : List D} {os : List (Nat × Ob)} {nx : Nat} {Q : D → List (Nat × Ob) → Nat → Prop} (hl : ds.length ≤ 31) (h : awp Go.Proofs.Tryz.prog T 31 nx zc7 (Go.Proofs.Tryz.f24.body.getD .skip) (fin Go.Proofs.Tryz.prog [.cell 4 33, .tmp 5] Q) ⟨prm 0 ds, os, nx⟩) : va Go.Proofs.Tryz.prog 24 ds os nx Q :=
  ya hT.toS (fn := Go.Proofs.Tryz.f24) zc7 (by kernel_rfl) rfl rfl (by kernel_rfl) rfl hl rfl h
abbrev wcP : Nat → Option (List Nat) := lvL [(0, [0]), (1, [0, 7]), (2, [2]), (3, [0, 8, 9, 10]), (4, [0, 8, 9, 10, 11]), (5, [0, 3, 4, 8, 9, 10]), (6, [0, 8, 9, 10, 32]), (7, [2]), (8, [0, 8, 9, 10]), (9, [2])]
@[go_sem] def ybS : List Nat := [0, 1, 3, 7, 15, 31, 63, 127, 127, 383, 1023, 2047, 127, 4223, 16383, 32767, 65535, 131071]
theorem qdk {T : Tab} (hT : za Go.Proofs.Tryz.prog T) {ds : List D} {os : List (Nat × Ob)} {nx : Nat} {Q : D → List (Nat × Ob) → Nat → Prop} (hl : ds.length ≤ 34) (h : awp Go.Proofs.Tryz.prog T 34 nx wcP (Go.Proofs.Tryz.f25.body.getD .skip) (fin Go.Proofs.Tryz.prog [.tmp 2] Q) ⟨prm 0 ds, os, nx⟩) : va Go.Proofs.Tryz.prog 25 ds os nx Q :=
  ya hT.toS (fn := Go.Proofs.Tryz.f25) wcP (by kernel_rfl) rfl rfl (by kernel_rfl) rfl hl rfl h
abbrev zcQ : Nat → Option (List Nat) := lvL [(0, [0]), (1, [4]), (2, [2])]
theorem zde {T : Tab} (hT : za Go.Proofs.Tryz.prog T) {ds : List D} {os : List (Nat × Ob)} {nx : Nat} {Q : D → List (Nat × Ob) → Nat → Prop} (hl : ds.length ≤ 11) (h : awp Go.Proofs.Tryz.prog T 11 nx zcQ (Go.Proofs.Tryz.f26.body.getD .skip) (fin Go.Proofs.Tryz.prog [.tmp 2] Q) ⟨prm 0 ds, os, nx⟩) : va Go.Proofs.Tryz.prog 26 ds os nx Q :=
  ya hT.toS (fn := Go.Proofs.Tryz.f26) zcQ (by kernel_rfl) rfl rfl (by kernel_rfl) rfl hl rfl h
abbrev vcL : Nat → Option (List Nat) := lvL [(0, [0]), (1, [0, 7]), (2, [2]), (3, [0, 8, 9, 10]), (4, [0, 8, 9, 10, 11]), (5, [0, 3, 4, 8, 9, 10]), (6, [0, 8, 9, 10, 43]), (7, [2]), (8, [0, 8, 9, 10]), (9, [2])]
@[go_sem] def qbP : List Nat := [0, 1, 3, 7, 7, 23, 63, 127, 7, 263, 1023, 2047, 4095, 8191, 16383, 32767, 65535, 131071, 262143, 524287, 1048575, 2097151, 4194303, 8388607, 16777215, 33554431, 67108863, 134217727, 268435455]
theorem xdc {T : Tab} (hT : za Go.Proofs.Tryz.prog T) {ds : List D} {os : List (Nat × Ob)} {nx : Nat} {Q : D → List (Nat × Ob) → Nat → Prop} (hl : ds.length ≤ 45) (h : awp Go.Proofs.Tryz.prog T 45 nx vcL (Go.Proofs.Tryz.f27.body.getD .skip) (fin Go.Proofs.Tryz.prog [.tmp 2] Q) ⟨prm 0 ds, os, nx⟩) : va Go.Proofs.Tryz.prog 27 ds os nx Q :=
  ya hT.toS (fn := Go.Proofs.Tryz.f27) vcL (by kernel_rfl) rfl rfl (by kernel_rfl) rfl hl rfl h
abbrev zbi : Nat → Option (List Nat) := lvL [(0, [1, 2, 31]), (1, [1, 2, 24, 31]), (2, [2]), (3, [1, 2, 3, 31]), (4, [2, 3, 29, 31]), (5, [2, 3, 5, 31]), (6, [2, 3, 5, 31]), (7, [2, 3, 31, 43]), (8, [2]), (9, [2])]
theorem zdm {T : Tab} (hT : za Go.Proofs.Tryz.prog T) {ds : List D} {os : List (Nat × Ob)} {nx : Nat} {Q : D → List (Nat × Ob) → Nat → Prop} (hl : ds.length ≤ 44) (h : awp Go.Proofs.Tryz.prog T 44 nx zbi (Go.Proofs.Tryz.f28.body.getD .skip) (fin Go.Proofs.Tryz.prog [.cell 2 41] Q) ⟨prm 0 ds, os, nx⟩) : va Go.Proofs.Tryz.prog 28 ds os nx Q :=
  ya hT.toS (fn := Go.Proofs.Tryz.f28) zbi (by kernel_rfl) rfl rfl (by kernel_rfl) rfl hl rfl h
abbrev bcX : Nat → Option (List Nat) := lvL [(0, [0, 1]), (1, [0, 1, 6]), (2, [0, 1, 6, 12]), (3, [4, 5]), (4, [7, 8]), (5, [7, 21]), (6, [4, 5]), (7, [4, 5])]
theorem gdi {T : Tab} (hT : za Go.Proofs.Tryz.prog T) {ds : List D} {os : List (Nat × Ob)} {nx : Nat} {Q : D → List (Nat × Ob) → Nat → Prop} (hl : ds.length ≤ 23) (h : awp Go.Proofs.Tryz.prog T 23 nx bcX (Go.Proofs.Tryz.f29.body.getD .skip) (fin Go.Proofs.Tryz.prog [.tmp 4, .tmp 5] Q) ⟨prm 0 ds, os, nx⟩) : va Go.Proofs.Tryz.prog 29 ds os nx Q :=
  ya hT.toS (fn := Go.Proofs.Tryz.f29) bcX (by kernel_rfl) rfl rfl (by kernel_rfl) rfl hl rfl h
abbrev bcP : Nat → Option (List Nat) := lvL [(0, [1, 2]), (1, [1, 2]), (2, [2])]
theorem gdg {T : Tab} (hT : za Go.Proofs.Tryz.prog T) {ds : List D} {os : List (Nat × Ob)} {nx : Nat} {Q : D → List (Nat × Ob) → Nat → Prop} (hl : ds.length ≤ 8) (h : awp Go.Proofs.Tryz.prog T 8 nx bcP (Go.Proofs.Tryz.f30.body.getD .skip) (fin Go.Proofs.Tryz.prog [.cell 2 37] Q) ⟨prm 0 ds, os, nx⟩) : va Go.Proofs.Tryz.prog 30 ds os nx Q :=
  ya hT.toS (fn := Go.Proofs.Tryz.f30) bcP (by kernel_rfl) rfl rfl (by kernel_rfl) rfl hl rfl h
abbrev kcF : Nat → Option (List Nat) := lvL [(0, [1, 2]), (1, [1, 2, 30]), (2, [2, 3, 4]), (3, [1, 2, 32, 33, 34]), (4, [1, 2, 32, 33, 34, 35]), (5, [1, 2, 5, 6, 32, 33, 34]), (6, [1, 2, 6, 32, 33, 34, 57]), (7, [2, 3, 4]), (8, [1, 2, 4, 32, 33, 34]), (9, [1, 2, 32, 33, 34, 73]), (10, [2, 3, 4]), (11, [1, 2, 32, 33, 34]), (12, [2, 3, 4]), (13, [2, 3, 86]), (14, [2, 3, 4]), (15, [2, 3, 4])]
@[go_sem] def ybZ : List Nat := [0, 1, 3, 7, 15, 31, 63, 127, 255, 127, 639, 2047, 4095, 127, 8319, 32767, 65535, 131071, 262143]
theorem vdl {T : Tab} (hT : za Go.Proofs.Tryz.prog T) {ds : List D} {os : List (Nat × Ob)} {nx : Nat} {Q : D → List (Nat × Ob) → Nat → Prop} (hl : ds.length ≤ 89) (h : awp Go.Proofs.Tryz.prog T 89 nx kcF (Go.Proofs.Tryz.f31.body.getD .skip) (fin Go.Proofs.Tryz.prog [.tmp 2, .tmp 3, .tmp 4] Q) ⟨prm 0 ds, os, nx⟩) : va Go.Proofs.Tryz.prog 31 ds os nx Q :=
  ya hT.toS (fn := Go.Proofs.Tryz.f31) kcF (by kernel_rfl) rfl rfl (by kernel_rfl) rfl hl rfl h
abbrev vcO : Nat → Option (List Nat) := lvL [(0, [0, 2]), (1, [0, 2, 3]), (2, [0, 2, 3, 9]), (3, [2, 3]), (4, [2, 11, 12, 13]), (5, [2, 11, 12, 13, 14]), (6, [2, 5, 11, 12, 13]), (7, [2, 11, 12, 13]), (8, [2, 11, 12, 13, 21]), (9, [2, 3]), (10, [2, 11, 12, 13]), (11, [2, 3])]
theorem udc {T : Tab} (hT : za Go.Proofs.Tryz.prog T) {ds : List D} {os : List (Nat × Ob)} {nx : Nat} {Q : D → List (Nat × Ob) → Nat → Prop} (hl : ds.length ≤ 24) (h : awp Go.Proofs.Tryz.prog T 24 nx vcO (Go.Proofs.Tryz.f32.body.getD .skip) (fin Go.Proofs.Tryz.prog [.tmp 2, .tmp 3] Q) ⟨prm 0 ds, os, nx⟩) : va Go.Proofs.Tryz.prog 32 ds os nx Q :=
  ya hT.toS (fn := Go.Proofs.Tryz.f32) vcO (by kernel_rfl) rfl rfl (by kernel_rfl) rfl hl rfl h
abbrev qcX : Nat → Option (List Nat) := lvL [(0, [1]), (1, [2])]
@[go_sem] def wH : List Nat := [0, 0, 2, 7, 15, 31]
theorem xa0 {T : Tab} (hT : za Go.Proofs.Tryz.prog T) {ds : List D} {os : List (Nat × Ob)} {nx : Nat} {Q : D → List (Nat × Ob) → Nat → Prop} (hl : ds.length ≤ 8) (h : awp Go.Proofs.Tryz.prog T 8 nx qcX (Go.Proofs.Tryz.f33.body.getD .skip) (fin Go.Proofs.Tryz.prog [.tmp 2] Q) ⟨prm 0 ds, os, nx⟩) : va Go.Proofs.Tryz.prog 33 ds os nx Q :=
  ya hT.toS (fn := Go.Proofs.Tryz.f33) qcX (by kernel_rfl) rfl rfl (by kernel_rfl) rfl hl rfl h
abbrev vc9 : Nat → Option (List Nat) := lvL [(0, [0, 1, 2, 12]), (1, [0, 1, 6, 7]), (2, [0, 1, 6, 7, 22]), (3, []), (4, [])]
theorem zZ {T : Tab} (hT : za Go.Proofs.Tryz.prog T) {ds : List D} {os : List (Nat × Ob)} {nx : Nat} {Q : D → List (Nat × Ob) → Nat → Prop} (hl : ds.length ≤ 30) (h : awp Go.Proofs.Tryz.prog T 30 nx vc9 (Go.Proofs.Tryz.f34.body.getD .skip) (fin Go.Proofs.Tryz.prog [] Q) ⟨prm 0 ds, os, nx⟩) : va Go.Proofs.Tryz.prog 34 ds os nx Q :=
  ya hT.toS (fn := Go.Proofs.Tryz.f34) vc9 (by kernel_rfl) rfl rfl (by kernel_rfl) rfl hl rfl h
abbrev wcV : Nat → Option (List Nat) := lvL [(0, [0, 1]), (1, [3, 4])]
theorem udh {T : Tab} (hT : za Go.Proofs.Tryz.prog T) {ds : List D} {os : List (Nat × Ob)} {nx : Nat} {Q : D → List (Nat × Ob) → Nat → Prop} (hl : ds.length ≤ 10) (h : awp Go.Proofs.Tryz.prog T 10 nx wcV (Go.Proofs.Tryz.f35.body.getD .skip) (fin Go.Proofs.Tryz.prog [.tmp 3, .tmp 4] Q) ⟨prm 0 ds, os, nx⟩) : va Go.Proofs.Tryz.prog 35 ds os nx Q :=
  ya hT.toS (fn := Go.Proofs.Tryz.f35) wcV (by kernel_rfl) rfl rfl (by kernel_rfl) rfl hl rfl h
abbrev qcV : Nat → Option (List Nat) := lvL [(0, [0, 3]), (1, [0, 3, 26]), (2, [4, 5]), (3, [0, 3, 6, 7]), (4, [0, 3, 6, 34]), (5, [4, 5]), (6, [0, 3, 6, 36]), (7, [4, 5]), (8, [0]), (9, [0, 49]), (10, [4, 5]), (11, [4, 5])]
@[go_sem] def ybg : List Nat := [0, 1, 0, 0, 11, 27, 63, 127]
theorem xda {T : Tab} (hT : za Go.Proofs.Tryz.prog T) {ds : List D} {os : List (Nat × Ob)} {nx : Nat} {Q : D → List (Nat × Ob) → Nat → Prop} (hl : ds.length ≤ 51) (h : awp Go.Proofs.Tryz.prog T 51 nx qcV (Go.Proofs.Tryz.f36.body.getD .skip) (fin Go.Proofs.Tryz.prog [.tmp 4, .tmp 5] Q) ⟨prm 0 ds, os, nx⟩) : va Go.Proofs.Tryz.prog 36 ds os nx Q :=
  ya hT.toS (fn := Go.Proofs.Tryz.f36) qcV (by kernel_rfl) rfl rfl (by kernel_rfl) rfl hl rfl h
abbrev bc8 : Nat → Option (List Nat) := lvL [(0, [0, 5, 6, 7]), (1, [])]
theorem bG {T : Tab} (hT : za Go.Proofs.Tryz.prog T) {ds : List D} {os : List (Nat × Ob)} {nx : Nat} {Q : D → List (Nat × Ob) → Nat → Prop} (hl : ds.length ≤ 15) (h : awp Go.Proofs.Tryz.prog T 15 nx bc8 (Go.Proofs.Tryz.f37.body.getD .skip) (fin Go.Proofs.Tryz.prog [] Q) ⟨prm 0 ds, os, nx⟩) : va Go.Proofs.Tryz.prog 37 ds os nx Q :=
  ya hT.toS (fn := Go.Proofs.Tryz.f37) bc8 (by kernel_rfl) rfl rfl (by kernel_rfl) rfl hl rfl h
abbrev wc1 : Nat → Option (List Nat) := lvL [(0, [0, 2]), (1, [0, 2, 8]), (2, [2, 3]), (3, [2, 3])]
@[go_sem] def kf : List Nat := [0, 0, 2, 6, 14, 1, 63]
theorem yu {T : Tab} (hT : za Go.Proofs.Tryz.prog T) {ds : List D} {os : List (Nat × Ob)} {nx : Nat} {Q : D → List (Nat × Ob) → Nat → Prop} (hl : ds.length ≤ 19) (h : awp Go.Proofs.Tryz.prog T 19 nx wc1 (Go.Proofs.Tryz.f38.body.getD .skip) (fin Go.Proofs.Tryz.prog [.cell 2 33, .tmp 3] Q) ⟨prm 0 ds, os, nx⟩) : va Go.Proofs.Tryz.prog 38 ds os nx Q :=
  ya hT.toS (fn := Go.Proofs.Tryz.f38) wc1 (by kernel_rfl) rfl rfl (by kernel_rfl) rfl hl rfl h
abbrev vcU : Nat → Option (List Nat) := lvL [(0, [0, 2, 14]), (1, [])]
theorem gQ {T : Tab} (hT : za Go.Proofs.Tryz.prog T) {ds : List D} {os : List (Nat × Ob)} {nx : Nat} {Q : D → List (Nat × Ob) → Nat → Prop} (hl : ds.length ≤ 19) (h : awp Go.Proofs.Tryz.prog T 19 nx vcU (Go.Proofs.Tryz.f39.body.getD .skip) (fin Go.Proofs.Tryz.prog [] Q) ⟨prm 0 ds, os, nx⟩) : va Go.Proofs.Tryz.prog 39 ds os nx Q :=
  ya hT.toS (fn := Go.Proofs.Tryz.f39) vcU (by kernel_rfl) rfl rfl (by kernel_rfl) rfl hl rfl h
abbrev ucT : Nat → Option (List Nat) := lvL [(0, [0]), (1, [10]), (2, [2]), (3, [2])]
theorem jdg {T : Tab} (hT : za Go.Proofs.Tryz.prog T) {ds : List D} {os : List (Nat × Ob)} {nx : Nat} {Q : D → List (Nat × Ob) → Nat → Prop} (hl : ds.length ≤ 11) (h : awp Go.Proofs.Tryz.prog T 11 nx ucT (Go.Proofs.Tryz.f40.body.getD .skip) (fin Go.Proofs.Tryz.prog [.tmp 2] Q) ⟨prm 0 ds, os, nx⟩) : va Go.Proofs.Tryz.prog 40 ds os nx Q :=
  ya hT.toS (fn := Go.Proofs.Tryz.f40) ucT (by kernel_rfl) rfl rfl (by kernel_rfl) rfl hl rfl h
abbrev vc0 : Nat → Option (List Nat) := lvL [(0, [0, 1, 2]), (1, [8, 9]), (2, [8, 9, 17]), (3, [6, 7]), (4, [8, 21]), (5, [6, 7]), (6, [6, 7])]
theorem bda {T : Tab} (hT : za Go.Proofs.Tryz.prog T) {ds : List D} {os : List (Nat × Ob)} {nx : Nat} {Q : D → List (Nat × Ob) → Nat → Prop} (hl : ds.length ≤ 28) (h : awp Go.Proofs.Tryz.prog T 28 nx vc0 (Go.Proofs.Tryz.f41.body.getD .skip) (fin Go.Proofs.Tryz.prog [.tmp 6, .tmp 7] Q) ⟨prm 0 ds, os, nx⟩) : va Go.Proofs.Tryz.prog 41 ds os nx Q :=
  ya hT.toS (fn := Go.Proofs.Tryz.f41) vc0 (by kernel_rfl) rfl rfl (by kernel_rfl) rfl hl rfl h
abbrev zcU : Nat → Option (List Nat) := lvL [(0, [0, 1, 2, 12]), (1, [0, 1, 6, 7]), (2, [0, 1, 6, 7, 22]), (3, []), (4, [])]
theorem baM {T : Tab} (hT : za Go.Proofs.Tryz.prog T) {ds : List D} {os : List (Nat × Ob)} {nx : Nat} {Q : D → List (Nat × Ob) → Nat → Prop} (hl : ds.length ≤ 30) (h : awp Go.Proofs.Tryz.prog T 30 nx zcU (Go.Proofs.Tryz.f42.body.getD .skip) (fin Go.Proofs.Tryz.prog [] Q) ⟨prm 0 ds, os, nx⟩) : va Go.Proofs.Tryz.prog 42 ds os nx Q :=
  ya hT.toS (fn := Go.Proofs.Tryz.f42) zcU (by kernel_rfl) rfl rfl (by kernel_rfl) rfl hl rfl h
abbrev uc7 : Nat → Option (List Nat) := lvL [(0, [0, 1, 2, 3, 4]), (1, [6, 7])]
theorem kdc {T : Tab} (hT : za Go.Proofs.Tryz.prog T) {ds : List D} {os : List (Nat × Ob)} {nx : Nat} {Q : D → List (Nat × Ob) → Nat → Prop} (hl : ds.length ≤ 18) (h : awp Go.Proofs.Tryz.prog T 18 nx uc7 (Go.Proofs.Tryz.f43.body.getD .skip) (fin Go.Proofs.Tryz.prog [.tmp 6, .tmp 7] Q) ⟨prm 0 ds, os, nx⟩) : va Go.Proofs.Tryz.prog 43 ds os nx Q :=
  ya hT.toS (fn := Go.Proofs.Tryz.f43) uc7 (by kernel_rfl) rfl rfl (by kernel_rfl) rfl hl rfl h
abbrev yc3 : Nat → Option (List Nat) := lvL [(0, [0, 3]), (1, [0, 3, 6, 7]), (2, [0, 3, 6, 7, 16]), (3, [4, 5]), (4, [0, 3, 6, 29]), (5, [4, 5]), (6, [0, 3, 6]), (7, [0, 3, 6, 36]), (8, [0, 3, 6, 8]), (9, [0, 3, 6, 8, 40]), (10, [4, 5]), (11, [0, 3, 6, 8]), (12, [0, 3, 6, 48]), (13, [0, 3, 6]), (14, [4, 5])]
theorem qdg {T : Tab} (hT : za Go.Proofs.Tryz.prog T) {ds : List D} {os : List (Nat × Ob)} {nx : Nat} {Q : D → List (Nat × Ob) → Nat → Prop} (hl : ds.length ≤ 56) (h : awp Go.Proofs.Tryz.prog T 56 nx yc3 (Go.Proofs.Tryz.f44.body.getD .skip) (fin Go.Proofs.Tryz.prog [.tmp 4, .tmp 5] Q) ⟨prm 0 ds, os, nx⟩) : va Go.Proofs.Tryz.prog 44 ds os nx Q :=
  ya hT.toS (fn := Go.Proofs.Tryz.f44) yc3 (by kernel_rfl) rfl rfl (by kernel_rfl) rfl hl rfl h
abbrev xc0 : Nat → Option (List Nat) := lvL [(0, [0, 1, 2, 3]), (1, [5, 6])]
theorem xdh {T : Tab} (hT : za Go.Proofs.Tryz.prog T) {ds : List D} {os : List (Nat × Ob)} {nx : Nat} {Q : D → List (Nat × Ob) → Nat → Prop} (hl : ds.length ≤ 15) (h : awp Go.Proofs.Tryz.prog T 15 nx xc0 (Go.Proofs.Tryz.f45.body.getD .skip) (fin Go.Proofs.Tryz.prog [.tmp 5, .tmp 6] Q) ⟨prm 0 ds, os, nx⟩) : va Go.Proofs.Tryz.prog 45 ds os nx Q :=
  ya hT.toS (fn := Go.Proofs.Tryz.f45) xc0 (by kernel_rfl) rfl rfl (by kernel_rfl) rfl hl rfl h
abbrev xcV : Nat → Option (List Nat) := lvL [(0, [1, 4, 6, 7]), (1, [8, 9])]
theorem zdb {T : Tab} (hT : za Go.Proofs.Tryz.prog T) {ds : List D} {os : List (Nat × Ob)} {nx : Nat} {Q : D → List (Nat × Ob) → Nat → Prop} (hl : ds.length ≤ 16) (h : awp Go.Proofs.Tryz.prog T 16 nx xcV (Go.Proofs.Tryz.f46.body.getD .skip) (fin Go.Proofs.Tryz.prog [.tmp 8, .tmp 9] Q) ⟨prm 0 ds, os, nx⟩) : va Go.Proofs.Tryz.prog 46 ds os nx Q :=
  ya hT.toS (fn := Go.Proofs.Tryz.f46) xcV (by kernel_rfl) rfl rfl (by kernel_rfl) rfl hl rfl h
abbrev yc1 : Nat → Option (List Nat) := lvL [(0, [0, 1, 2]), (1, [4, 5])]
theorem vcW {T : Tab} (hT : za Go.Proofs.Tryz.prog T) {ds : List D} {os : List (Nat × Ob)} {nx : Nat} {Q : D → List (Nat × Ob) → Nat → Prop} (hl : ds.length ≤ 12) (h : awp Go.Proofs.Tryz.prog T 12 nx yc1 (Go.Proofs.Tryz.f47.body.getD .skip) (fin Go.Proofs.Tryz.prog [.tmp 4, .tmp 5] Q) ⟨prm 0 ds, os, nx⟩) : va Go.Proofs.Tryz.prog 47 ds os nx Q :=
  ya hT.toS (fn := Go.Proofs.Tryz.f47) yc1 (by kernel_rfl) rfl rfl (by kernel_rfl) rfl hl rfl h
abbrev kc6 : Nat → Option (List Nat) := lvL [(0, [0, 1, 2]), (1, [0, 2, 8, 9]), (2, [0, 2, 8, 9, 16]), (3, [6, 7]), (4, [0, 2, 8, 20]), (5, [6, 7]), (6, [0, 2, 8]), (7, [0, 2, 8]), (8, [0, 8, 33]), (9, [0]), (10, [6, 7])]
theorem jdc {T : Tab} (hT : za Go.Proofs.Tryz.prog T) {ds : List D} {os : List (Nat × Ob)} {nx : Nat} {Q : D → List (Nat × Ob) → Nat → Prop} (hl : ds.length ≤ 39) (h : awp Go.Proofs.Tryz.prog T 39 nx kc6 (Go.Proofs.Tryz.f48.body.getD .skip) (fin Go.Proofs.Tryz.prog [.tmp 6, .tmp 7] Q) ⟨prm 0 ds, os, nx⟩) : va Go.Proofs.Tryz.prog 48 ds os nx Q :=
  ya hT.toS (fn := Go.Proofs.Tryz.f48) kc6 (by kernel_rfl) rfl rfl (by kernel_rfl) rfl hl rfl h
abbrev ucW : Nat → Option (List Nat) := lvL [(0, [0, 1, 2, 3]), (1, [0, 6]), (2, [5, 6])]
theorem zc6 {T : Tab} (hT : za Go.Proofs.Tryz.prog T) {ds : List D} {os : List (Nat × Ob)} {nx : Nat} {Q : D → List (Nat × Ob) → Nat → Prop} (hl : ds.length ≤ 17) (h : awp Go.Proofs.Tryz.prog T 17 nx ucW (Go.Proofs.Tryz.f49.body.getD .skip) (fin Go.Proofs.Tryz.prog [.tmp 5, .tmp 6] Q) ⟨prm 0 ds, os, nx⟩) : va Go.Proofs.Tryz.prog 49 ds os nx Q :=
  ya hT.toS (fn := Go.Proofs.Tryz.f49) ucW (by kernel_rfl) rfl rfl (by kernel_rfl) rfl hl rfl h
abbrev gcS : Nat → Option (List Nat) := lvL [(0, [0, 4, 5, 7]), (1, [0, 4, 5, 7, 8, 9]), (2, [0, 4, 5, 7, 8, 9, 17]), (3, [6, 7, 8]), (4, [6, 7, 8]), (5, [6, 7, 8])]
@[go_sem] def bbg : List Nat := [0, 0, 0, 1, 11, 31]
theorem wdl {T : Tab} (hT : za Go.Proofs.Tryz.prog T) {ds : List D} {os : List (Nat × Ob)} {nx : Nat} {Q : D → List (Nat × Ob) → Nat → Prop} (hl : ds.length ≤ 29) (h : awp Go.Proofs.Tryz.prog T 29 nx gcS (Go.Proofs.Tryz.f50.body.getD .skip) (fin Go.Proofs.Tryz.prog [.tmp 6, .cell 7 28, .tmp 8] Q) ⟨prm 0 ds, os, nx⟩) : va Go.Proofs.Tryz.prog 50 ds os nx Q :=
  ya hT.toS (fn := Go.Proofs.Tryz.f50) gcS (by kernel_rfl) rfl rfl (by kernel_rfl) rfl hl rfl h
abbrev vc1 : Nat → Option (List Nat) := lvL [(0, [0, 1, 2, 12]), (1, [0, 1, 6, 7]), (2, [0, 1, 6, 7, 22]), (3, []), (4, [])]
theorem ka2 {T : Tab} (hT : za Go.Proofs.Tryz.prog T) {ds : List D} {os : List (Nat × Ob)} {nx : Nat} {Q : D → List (Nat × Ob) → Nat → Prop} (hl : ds.length ≤ 30) (h : awp Go.Proofs.Tryz.prog T 30 nx vc1 (Go.Proofs.Tryz.f51.body.getD .skip) (fin Go.Proofs.Tryz.prog [] Q) ⟨prm 0 ds, os, nx⟩) : va Go.Proofs.Tryz.prog 51 ds os nx Q :=
  ya hT.toS (fn := Go.Proofs.Tryz.f51) vc1 (by kernel_rfl) rfl rfl (by kernel_rfl) rfl hl rfl h
abbrev qc6 : Nat → Option (List Nat) := lvL [(0, [0, 1, 2, 3]), (1, [5, 6])]
theorem qdj {T : Tab} (hT : za Go.Proofs.Tryz.prog T) {ds : List D} {os : List (Nat × Ob)} {nx : Nat} {Q : D → List (Nat × Ob) → Nat → Prop} (hl : ds.length ≤ 14) (h : awp Go.Proofs.Tryz.prog T 14 nx qc6 (Go.Proofs.Tryz.f52.body.getD .skip) (fin Go.Proofs.Tryz.prog [.tmp 5, .tmp 6] Q) ⟨prm 0 ds, os, nx⟩) : va Go.Proofs.Tryz.prog 52 ds os nx Q :=
  ya hT.toS (fn := Go.Proofs.Tryz.f52) qc6 (by kernel_rfl) rfl rfl (by kernel_rfl) rfl hl rfl h
abbrev wcX : Nat → Option (List Nat) := lvL [(0, [0, 1, 2, 3]), (1, [0, 1, 2, 3, 10, 11]), (2, [0, 1, 2, 3, 10, 11, 18]), (3, [8, 9]), (4, [0, 1, 2, 3, 10, 26]), (5, [8, 9]), (6, [0, 1, 2, 3, 10, 29]), (7, [8, 9]), (8, [8, 9])]
theorem qdc {T : Tab} (hT : za Go.Proofs.Tryz.prog T) {ds : List D} {os : List (Nat × Ob)} {nx : Nat} {Q : D → List (Nat × Ob) → Nat → Prop} (hl : ds.length ≤ 42) (h : awp Go.Proofs.Tryz.prog T 42 nx wcX (Go.Proofs.Tryz.f53.body.getD .skip) (fin Go.Proofs.Tryz.prog [.tmp 8, .tmp 9] Q) ⟨prm 0 ds, os, nx⟩) : va Go.Proofs.Tryz.prog 53 ds os nx Q :=
  ya hT.toS (fn := Go.Proofs.Tryz.f53) wcX (by kernel_rfl) rfl rfl (by kernel_rfl) rfl hl rfl h
abbrev vcQ : Nat → Option (List Nat) := lvL [(0, [0, 1, 2]), (1, [4, 5])]
theorem zdc {T : Tab} (hT : za Go.Proofs.Tryz.prog T) {ds : List D} {os : List (Nat × Ob)} {nx : Nat} {Q : D → List (Nat × Ob) → Nat → Prop} (hl : ds.length ≤ 13) (h : awp Go.Proofs.Tryz.prog T 13 nx vcQ (Go.Proofs.Tryz.f54.body.getD .skip) (fin Go.Proofs.Tryz.prog [.tmp 4, .tmp 5] Q) ⟨prm 0 ds, os, nx⟩) : va Go.Proofs.Tryz.prog 54 ds os nx Q :=
  ya hT.toS (fn := Go.Proofs.Tryz.f54) vcQ (by kernel_rfl) rfl rfl (by kernel_rfl) rfl hl rfl h
abbrev kc4 : Nat → Option (List Nat) := lvL [(0, [0, 1, 2]), (1, [6, 7])]
theorem zdd {T : Tab} (hT : za Go.Proofs.Tryz.prog T) {ds : List D} {os : List (Nat × Ob)} {nx : Nat} {Q : D → List (Nat × Ob) → Nat → Prop} (hl : ds.length ≤ 14) (h : awp Go.Proofs.Tryz.prog T 14 nx kc4 (Go.Proofs.Tryz.f55.body.getD .skip) (fin Go.Proofs.Tryz.prog [.tmp 6, .tmp 7] Q) ⟨prm 0 ds, os, nx⟩) : va Go.Proofs.Tryz.prog 55 ds os nx Q :=
  ya hT.toS (fn := Go.Proofs.Tryz.f55) kc4 (by kernel_rfl) rfl rfl (by kernel_rfl) rfl hl rfl h
abbrev yc6 : Nat → Option (List Nat) := lvL [(0, [0, 1, 2, 3]), (1, [5, 6])]
theorem vdd {T : Tab} (hT : za Go.Proofs.Tryz.prog T) {ds : List D} {os : List (Nat × Ob)} {nx : Nat} {Q : D → List (Nat × Ob) → Nat → Prop} (hl : ds.length ≤ 15) (h : awp Go.Proofs.Tryz.prog T 15 nx yc6 (Go.Proofs.Tryz.f56.body.getD .skip) (fin Go.Proofs.Tryz.prog [.tmp 5, .tmp 6] Q) ⟨prm 0 ds, os, nx⟩) : va Go.Proofs.Tryz.prog 56 ds os nx Q :=
  ya hT.toS (fn := Go.Proofs.Tryz.f56) yc6 (by kernel_rfl) rfl rfl (by kernel_rfl) rfl hl rfl h
abbrev vcV : Nat → Option (List Nat) := lvL [(0, [0, 1, 2, 3]), (1, [8, 9])]
theorem kda {T : Tab} (hT : za Go.Proofs.Tryz.prog T) {ds : List D} {os : List (Nat × Ob)} {nx : Nat} {Q : D → List (Nat × Ob) → Nat → Prop} (hl : ds.length ≤ 17) (h : awp Go.Proofs.Tryz.prog T 17 nx vcV (Go.Proofs.Tryz.f57.body.getD .skip) (fin Go.Proofs.Tryz.prog [.tmp 8, .tmp 9] Q) ⟨prm 0 ds, os, nx⟩) : va Go.Proofs.Tryz.prog 57 ds os nx Q :=
  ya hT.toS (fn := Go.Proofs.Tryz.f57) vcV (by kernel_rfl) rfl rfl (by kernel_rfl) rfl hl rfl h
abbrev bcW : Nat → Option (List Nat) := lvL [(0, [0, 1, 2]), (1, [4, 5])]
theorem bdj {T : Tab} (hT : za Go.Proofs.Tryz.prog T) {ds : List D} {os : List (Nat × Ob)} {nx : Nat} {Q : D → List (Nat × Ob) → Nat → Prop} (hl : ds.length ≤ 12) (h : awp Go.Proofs.Tryz.prog T 12 nx bcW (Go.Proofs.Tryz.f58.body.getD .skip) (fin Go.Proofs.Tryz.prog [.tmp 4, .tmp 5] Q) ⟨prm 0 ds, os, nx⟩) : va Go.Proofs.Tryz.prog 58 ds os nx Q :=
  ya hT.toS (fn := Go.Proofs.Tryz.f58) bcW (by kernel_rfl) rfl rfl (by kernel_rfl) rfl hl rfl h
abbrev uc6 : Nat → Option (List Nat) := lvL [(0, [0, 1, 5]), (1, [6, 7])]
theorem jdk {T : Tab} (hT : za Go.Proofs.Tryz.prog T) {ds : List D} {os : List (Nat × Ob)} {nx : Nat} {Q : D → List (Nat × Ob) → Nat → Prop} (hl : ds.length ≤ 14) (h : awp Go.Proofs.Tryz.prog T 14 nx uc6 (Go.Proofs.Tryz.f59.body.getD .skip) (fin Go.Proofs.Tryz.prog [.tmp 6, .tmp 7] Q) ⟨prm 0 ds, os, nx⟩) : va Go.Proofs.Tryz.prog 59 ds os nx Q :=
  ya hT.toS (fn := Go.Proofs.Tryz.f59) uc6 (by kernel_rfl) rfl rfl (by kernel_rfl) rfl hl rfl h
abbrev jc4 : Nat → Option (List Nat) := lvL [(0, [0, 1]), (1, [3, 4])]
theorem wdf {T : Tab} (hT : za Go.Proofs.Tryz.prog T) {ds : List D} {os : List (Nat × Ob)} {nx : Nat} {Q : D → List (Nat × Ob) → Nat → Prop} (hl : ds.length ≤ 10) (h : awp Go.Proofs.Tryz.prog T 10 nx jc4 (Go.Proofs.Tryz.f60.body.getD .skip) (fin Go.Proofs.Tryz.prog [.tmp 3, .tmp 4] Q) ⟨prm 0 ds, os, nx⟩) : va Go.Proofs.Tryz.prog 60 ds os nx Q :=
  ya hT.toS (fn := Go.Proofs.Tryz.f60) jc4 (by kernel_rfl) rfl rfl (by kernel_rfl) rfl hl rfl h
abbrev vcZ : Nat → Option (List Nat) := lvL [(0, [0, 1]), (1, [4, 5])]
theorem xdk {T : Tab} (hT : za Go.Proofs.Tryz.prog T) {ds : List D} {os : List (Nat × Ob)} {nx : Nat} {Q : D → List (Nat × Ob) → Nat → Prop} (hl : ds.length ≤ 11) (h : awp Go.Proofs.Tryz.prog T 11 nx vcZ (Go.Proofs.Tryz.f61.body.getD .skip) (fin Go.Proofs.Tryz.prog [.tmp 4, .tmp 5] Q) ⟨prm 0 ds, os, nx⟩) : va Go.Proofs.Tryz.prog 61 ds os nx Q :=
  ya hT.toS (fn := Go.Proofs.Tryz.f61) vcZ (by kernel_rfl) rfl rfl (by kernel_rfl) rfl hl rfl h
abbrev gcV : Nat → Option (List Nat) := lvL [(0, [0, 1]), (1, [3, 4])]
theorem zdk {T : Tab} (hT : za Go.Proofs.Tryz.prog T) {ds : List D} {os : List (Nat × Ob)} {nx : Nat} {Q : D → List (Nat × Ob) → Nat → Prop} (hl : ds.length ≤ 10) (h : awp Go.Proofs.Tryz.prog T 10 nx gcV (Go.Proofs.Tryz.f62.body.getD .skip) (fin Go.Proofs.Tryz.prog [.tmp 3, .tmp 4] Q) ⟨prm 0 ds, os, nx⟩) : va Go.Proofs.Tryz.prog 62 ds os nx Q :=
  ya hT.toS (fn := Go.Proofs.Tryz.f62) gcV (by kernel_rfl) rfl rfl (by kernel_rfl) rfl hl rfl h
abbrev gc3 : Nat → Option (List Nat) := lvL [(0, [0, 3]), (1, [0, 3, 6]), (2, [0, 3, 6, 11]), (3, [4, 5]), (4, [0, 7]), (5, [4, 5])]
theorem xde {T : Tab} (hT : za Go.Proofs.Tryz.prog T) {ds : List D} {os : List (Nat × Ob)} {nx : Nat} {Q : D → List (Nat × Ob) → Nat → Prop} (hl : ds.length ≤ 18) (h : awp Go.Proofs.Tryz.prog T 18 nx gc3 (Go.Proofs.Tryz.f63.body.getD .skip) (fin Go.Proofs.Tryz.prog [.tmp 4, .tmp 5] Q) ⟨prm 0 ds, os, nx⟩) : va Go.Proofs.Tryz.prog 63 ds os nx Q :=
  ya hT.toS (fn := Go.Proofs.Tryz.f63) gc3 (by kernel_rfl) rfl rfl (by kernel_rfl) rfl hl rfl h
abbrev gcU : Nat → Option (List Nat) := lvL [(0, [1]), (1, [2])]
theorem bdg {T : Tab} (hT : za Go.Proofs.Tryz.prog T) {ds : List D} {os : List (Nat × Ob)} {nx : Nat} {Q : D → List (Nat × Ob) → Nat → Prop} (hl : ds.length ≤ 23) (h : awp Go.Proofs.Tryz.prog T 23 nx gcU (Go.Proofs.Tryz.f64.body.getD .skip) (fin Go.Proofs.Tryz.prog [.tmp 2] Q) ⟨prm 0 ds, os, nx⟩) : va Go.Proofs.Tryz.prog 64 ds os nx Q :=
  ya hT.toS (fn := Go.Proofs.Tryz.f64) gcU (by kernel_rfl) rfl rfl (by kernel_rfl) rfl hl rfl h
abbrev gcT : Nat → Option (List Nat) := lvL [(0, [1, 2]), (1, [4])]
theorem ydd {T : Tab} (hT : za Go.Proofs.Tryz.prog T) {ds : List D} {os : List (Nat × Ob)} {nx : Nat} {Q : D → List (Nat × Ob) → Nat → Prop} (hl : ds.length ≤ 9) (h : awp Go.Proofs.Tryz.prog T 9 nx gcT (Go.Proofs.Tryz.f65.body.getD .skip) (fin Go.Proofs.Tryz.prog [.tmp 4] Q) ⟨prm 0 ds, os, nx⟩) : va Go.Proofs.Tryz.prog 65 ds os nx Q :=
  ya hT.toS (fn := Go.Proofs.Tryz.f65) gcT (by kernel_rfl) rfl rfl (by kernel_rfl) rfl hl rfl h
abbrev jca : Nat → Option (List Nat) := lvL [(0, [0]), (1, [0, 16]), (2, [2, 3]), (3, [0, 4, 5]), (4, [0, 4, 5, 18, 19, 20]), (5, [0, 4, 5, 18, 19, 20, 21]), (6, [0, 4, 5, 6, 7, 18, 19, 20]), (7, [0, 4, 5, 6, 7, 8, 9, 18, 19, 20]), (8, [0, 4, 5, 6, 7, 8, 18, 19, 20, 46]), (9, [2, 3]), (10, [0, 4, 5, 6, 7, 9, 18, 19, 20]), (11, [0, 4, 5, 6, 7, 18, 19, 20, 55]), (12, [2, 3]), (13, [0, 4, 5, 6, 18, 19, 20, 57, 58, 59]), (14, [0, 4, 5, 6, 18, 19, 20, 57, 58, 59, 60]), (15, [0, 4, 5, 6, 11, 18, 19, 20, 57, 58, 59]), (16, [0, 4, 5, 6, 11, 13, 18, 19, 20, 57, 58, 59]), (17, [0, 4, 5, 6, 11, 18, 19, 20, 57, 58, 59, 70]), (18, [2, 3]), (19, [0, 4, 5, 6, 18, 19, 20, 57, 58, 59]), (20, [0, 4, 5, 6, 18, 19, 20, 57, 58, 59]), (21, [0, 4, 5, 18, 19, 20]), (22, [2, 3])]
@[go_sem] def zb2 : List Nat := [0, 1, 3, 7, 15, 31, 63, 63, 191, 511, 1023, 63, 2111, 8191, 16383, 32767, 65535]
theorem xdg {T : Tab} (hT : za Go.Proofs.Tryz.prog T) {ds : List D} {os : List (Nat × Ob)} {nx : Nat} {Q : D → List (Nat × Ob) → Nat → Prop} (hl : ds.length ≤ 78) (h : awp Go.Proofs.Tryz.prog T 78 nx jca (Go.Proofs.Tryz.f66.body.getD .skip) (fin Go.Proofs.Tryz.prog [.tmp 2, .tmp 3] Q) ⟨prm 0 ds, os, nx⟩) : va Go.Proofs.Tryz.prog 66 ds os nx Q :=
  ya hT.toS (fn := Go.Proofs.Tryz.f66) jca (by kernel_rfl) rfl rfl (by kernel_rfl) rfl hl rfl h
abbrev jcU : Nat → Option (List Nat) := lvL [(0, [1, 2]), (1, [4])]
theorem xdb {T : Tab} (hT : za Go.Proofs.Tryz.prog T) {ds : List D} {os : List (Nat × Ob)} {nx : Nat} {Q : D → List (Nat × Ob) → Nat → Prop} (hl : ds.length ≤ 9) (h : awp Go.Proofs.Tryz.prog T 9 nx jcU (Go.Proofs.Tryz.f67.body.getD .skip) (fin Go.Proofs.Tryz.prog [.tmp 4] Q) ⟨prm 0 ds, os, nx⟩) : va Go.Proofs.Tryz.prog 67 ds os nx Q :=
  ya hT.toS (fn := Go.Proofs.Tryz.f67) jcU (by kernel_rfl) rfl rfl (by kernel_rfl) rfl hl rfl h
abbrev uc2 : Nat → Option (List Nat) := lvL [(0, [0]), (1, [2])]
theorem vdg {T : Tab} (hT : za Go.Proofs.Tryz.prog T) {ds : List D} {os : List (Nat × Ob)} {nx : Nat} {Q : D → List (Nat × Ob) → Nat → Prop} (hl : ds.length ≤ 11) (h : awp Go.Proofs.Tryz.prog T 11 nx uc2 (Go.Proofs.Tryz.f68.body.getD .skip) (fin Go.Proofs.Tryz.prog [.tmp 2] Q) ⟨prm 0 ds, os, nx⟩) : va Go.Proofs.Tryz.prog 68 ds os nx Q :=
  ya hT.toS (fn := Go.Proofs.Tryz.f68) uc2 (by kernel_rfl) rfl rfl (by kernel_rfl) rfl hl rfl h
abbrev xc8 : Nat → Option (List Nat) := lvL [(0, [1]), (1, [2])]
theorem jdl {T : Tab} (hT : za Go.Proofs.Tryz.prog T) {ds : List D} {os : List (Nat × Ob)} {nx : Nat} {Q : D → List (Nat × Ob) → Nat → Prop} (hl : ds.length ≤ 4) (h : awp Go.Proofs.Tryz.prog T 4 nx xc8 (Go.Proofs.Tryz.f69.body.getD .skip) (fin Go.Proofs.Tryz.prog [.tmp 2] Q) ⟨prm 0 ds, os, nx⟩) : va Go.Proofs.Tryz.prog 69 ds os nx Q :=
  ya hT.toS (fn := Go.Proofs.Tryz.f69) xc8 (by kernel_rfl) rfl rfl (by kernel_rfl) rfl hl rfl h
abbrev wc2 : Nat → Option (List Nat) := lvL [(0, [0]), (1, [2])]
theorem zdh {T : Tab} (hT : za Go.Proofs.Tryz.prog T) {ds : List D} {os : List (Nat × Ob)} {nx : Nat} {Q : D → List (Nat × Ob) → Nat → Prop} (hl : ds.length ≤ 9) (h : awp Go.Proofs.Tryz.prog T 9 nx wc2 (Go.Proofs.Tryz.f70.body.getD .skip) (fin Go.Proofs.Tryz.prog [.tmp 2] Q) ⟨prm 0 ds, os, nx⟩) : va Go.Proofs.Tryz.prog 70 ds os nx Q :=
  ya hT.toS (fn := Go.Proofs.Tryz.f70) wc2 (by kernel_rfl) rfl rfl (by kernel_rfl) rfl hl rfl h
abbrev zb7 : Nat → Option (List Nat) := lvL [(0, [0, 1, 2]), (1, [0, 1, 2, 8]), (2, [0, 1, 2, 8, 9, 10]), (3, [0, 1, 2, 8, 9, 10, 17]), (4, [0, 1, 2, 8, 9, 10, 11]), (5, [0, 1, 2, 8, 9, 10, 11, 31]), (6, [0, 1, 2, 8, 9, 10]), (7, [0, 1, 2, 8, 9, 10]), (8, [6, 7])]
theorem yc0 {T : Tab} (hT : za Go.Proofs.Tryz.prog T) {ds : List D} {os : List (Nat × Ob)} {nx : Nat} {Q : D → List (Nat × Ob) → Nat → Prop} (hl : ds.length ≤ 49) (h : awp Go.Proofs.Tryz.prog T 49 nx zb7 (Go.Proofs.Tryz.f71.body.getD .skip) (fin Go.Proofs.Tryz.prog [.tmp 6, .tmp 7] Q) ⟨prm 0 ds, os, nx⟩) : va Go.Proofs.Tryz.prog 71 ds os nx Q :=
  ya hT.toS (fn := Go.Proofs.Tryz.f71) zb7 (by kernel_rfl) rfl rfl (by kernel_rfl) rfl hl rfl h
abbrev zc5 : Nat → Option (List Nat) := lvL [(0, [1, 2]), (1, [4])]
theorem vdc {T : Tab} (hT : za Go.Proofs.Tryz.prog T) {ds : List D} {os : List (Nat × Ob)} {nx : Nat} {Q : D → List (Nat × Ob) → Nat → Prop} (hl : ds.length ≤ 9) (h : awp Go.Proofs.Tryz.prog T 9 nx zc5 (Go.Proofs.Tryz.f72.body.getD .skip) (fin Go.Proofs.Tryz.prog [.tmp 4] Q) ⟨prm 0 ds, os, nx⟩) : va Go.Proofs.Tryz.prog 72 ds os nx Q :=
  ya hT.toS (fn := Go.Proofs.Tryz.f72) zc5 (by kernel_rfl) rfl rfl (by kernel_rfl) rfl hl rfl h
abbrev gcQ : Nat → Option (List Nat) := lvL [(0, [0]), (1, [0, 4]), (2, [2]), (3, [2])]
theorem bc5 {T : Tab} (hT : za Go.Proofs.Tryz.prog T) {ds : List D} {os : List (Nat × Ob)} {nx : Nat} {Q : D → List (Nat × Ob) → Nat → Prop} (hl : ds.length ≤ 8) (h : awp Go.Proofs.Tryz.prog T 8 nx gcQ (Go.Proofs.Tryz.f73.body.getD .skip) (fin Go.Proofs.Tryz.prog [.tmp 2] Q) ⟨prm 0 ds, os, nx⟩) : va Go.Proofs.Tryz.prog 73 ds os nx Q :=
  ya hT.toS (fn := Go.Proofs.Tryz.f73) gcQ (by kernel_rfl) rfl rfl (by kernel_rfl) rfl hl rfl h
abbrev kcX : Nat → Option (List Nat) := lvL [(0, [1, 2]), (1, [4])]
theorem yde {T : Tab} (hT : za Go.Proofs.Tryz.prog T) {ds : List D} {os : List (Nat × Ob)} {nx : Nat} {Q : D → List (Nat × Ob) → Nat → Prop} (hl : ds.length ≤ 9) (h : awp Go.Proofs.Tryz.prog T 9 nx kcX (Go.Proofs.Tryz.f74.body.getD .skip) (fin Go.Proofs.Tryz.prog [.tmp 4] Q) ⟨prm 0 ds, os, nx⟩) : va Go.Proofs.Tryz.prog 74 ds os nx Q :=
  ya hT.toS (fn := Go.Proofs.Tryz.f74) kcX (by kernel_rfl) rfl rfl (by kernel_rfl) rfl hl rfl h
abbrev bcR : Nat → Option (List Nat) := lvL [(0, [1]), (1, [5]), (2, [2])]
theorem bdb {T : Tab} (hT : za Go.Proofs.Tryz.prog T) {ds : List D} {os : List (Nat × Ob)} {nx : Nat} {Q : D → List (Nat × Ob) → Nat → Prop} (hl : ds.length ≤ 13) (h : awp Go.Proofs.Tryz.prog T 13 nx bcR (Go.Proofs.Tryz.f75.body.getD .skip) (fin Go.Proofs.Tryz.prog [.tmp 2] Q) ⟨prm 0 ds, os, nx⟩) : va Go.Proofs.Tryz.prog 75 ds os nx Q :=
  ya hT.toS (fn := Go.Proofs.Tryz.f75) bcR (by kernel_rfl) rfl rfl (by kernel_rfl) rfl hl rfl h
abbrev bcS : Nat → Option (List Nat) := lvL [(0, [0, 1, 2]), (1, [0, 1, 2]), (2, [0, 1, 2, 7]), (3, [0, 1, 2, 7, 16]), (4, [6]), (5, [0, 1, 2, 7, 8]), (6, [0, 1, 2, 7, 8, 22]), (7, [6]), (8, [0, 1, 2, 7, 8, 31]), (9, [0, 1, 2, 7, 9]), (10, [0, 1, 7, 9]), (11, [9]), (12, [6]), (13, [0, 1, 2, 7, 8]), (14, [0, 1, 2, 7, 8, 68]), (15, [0, 1, 2]), (16, [0]), (17, [6]), (18, [0, 1, 7]), (19, [0]), (20, [6])]
@[go_sem] def vbz : List Nat := [0, 0, 0, 6, 15, 0, 0, 96, 255]
@[go_sem] def kbm : List Nat := [0, 0, 0, 6, 15, 0, 0, 96, 255]
theorem yc7 {T : Tab} (hT : za Go.Proofs.Tryz.prog T) {ds : List D} {os : List (Nat × Ob)} {nx : Nat} {Q : D → List (Nat × Ob) → Nat → Prop} (hl : ds.length ≤ 95) (h : awp Go.Proofs.Tryz.prog T 95 nx bcS (Go.Proofs.Tryz.f76.body.getD .skip) (fin Go.Proofs.Tryz.prog [.tmp 6] Q) ⟨prm 0 ds, os, nx⟩) : va Go.Proofs.Tryz.prog 76 ds os nx Q :=
  ya hT.toS (fn := Go.Proofs.Tryz.f76) bcS (by kernel_rfl) rfl rfl (by kernel_rfl) rfl hl rfl h
abbrev zcq : Nat → Option (List Nat) := lvL [(0, [0]), (1, [0]), (2, [0, 7, 8, 9]), (3, [0, 7, 8, 9, 10]), (4, [0, 3, 4, 7, 8, 9]), (5, [0, 7, 8, 9]), (6, [0, 7, 8, 9]), (7, [2])]
theorem udk {T : Tab} (hT : za Go.Proofs.Tryz.prog T) {ds : List D} {os : List (Nat × Ob)} {nx : Nat} {Q : D → List (Nat × Ob) → Nat → Prop} (hl : ds.length ≤ 21) (h : awp Go.Proofs.Tryz.prog T 21 nx zcq (Go.Proofs.Tryz.f77.body.getD .skip) (fin Go.Proofs.Tryz.prog [.tmp 2] Q) ⟨prm 0 ds, os, nx⟩) : va Go.Proofs.Tryz.prog 77 ds os nx Q :=
  ya hT.toS (fn := Go.Proofs.Tryz.f77) zcq (by kernel_rfl) rfl rfl (by kernel_rfl) rfl hl rfl h
abbrev uc1 : Nat → Option (List Nat) := lvL [(0, [0, 1, 2, 12]), (1, [0, 1, 6, 7]), (2, [0, 1, 6, 7, 22]), (3, []), (4, [])]
theorem yH {T : Tab} (hT : za Go.Proofs.Tryz.prog T) {ds : List D} {os : List (Nat × Ob)} {nx : Nat} {Q : D → List (Nat × Ob) → Nat → Prop} (hl : ds.length ≤ 30) (h : awp Go.Proofs.Tryz.prog T 30 nx uc1 (Go.Proofs.Tryz.f78.body.getD .skip) (fin Go.Proofs.Tryz.prog [] Q) ⟨prm 0 ds, os, nx⟩) : va Go.Proofs.Tryz.prog 78 ds os nx Q :=
  ya hT.toS (fn := Go.Proofs.Tryz.f78) uc1 (by kernel_rfl) rfl rfl (by kernel_rfl) rfl hl rfl h
abbrev wcZ : Nat → Option (List Nat) := lvL [(0, [1, 2, 3, 4, 5]), (1, [4, 5, 8]), (2, [5, 6])]
theorem wbf {T : Tab} (hT : za Go.Proofs.Tryz.prog T) {ds : List D} {os : List (Nat × Ob)} {nx : Nat} {Q : D → List (Nat × Ob) → Nat → Prop} (hl : ds.length ≤ 20) (h : awp Go.Proofs.Tryz.prog T 20 nx wcZ (Go.Proofs.Tryz.f79.body.getD .skip) (fin Go.Proofs.Tryz.prog [.cell 5 31, .tmp 6] Q) ⟨prm 0 ds, os, nx⟩) : va Go.Proofs.Tryz.prog 79 ds os nx Q :=
  ya hT.toS (fn := Go.Proofs.Tryz.f79) wcZ (by kernel_rfl) rfl rfl (by kernel_rfl) rfl hl rfl h
abbrev jcS : Nat → Option (List Nat) := lvL [(0, [1, 2, 3, 4, 8]), (1, [1, 2, 3, 4, 8, 13]), (2, [8, 9, 10]), (3, [1, 2, 3, 4, 8, 23]), (4, [8, 9, 10]), (5, [1, 2, 3, 4, 8, 11]), (6, [8, 11, 12]), (7, [8, 9, 10])]
theorem kde {T : Tab} (hT : za Go.Proofs.Tryz.prog T) {ds : List D} {os : List (Nat × Ob)} {nx : Nat} {Q : D → List (Nat × Ob) → Nat → Prop} (hl : ds.length ≤ 50) (h : awp Go.Proofs.Tryz.prog T 50 nx jcS (Go.Proofs.Tryz.f80.body.getD .skip) (fin Go.Proofs.Tryz.prog [.cell 8 31, .tmp 9, .tmp 10] Q) ⟨prm 0 ds, os, nx⟩) : va Go.Proofs.Tryz.prog 80 ds os nx Q :=
  ya hT.toS (fn := Go.Proofs.Tryz.f80) jcS (by kernel_rfl) rfl rfl (by kernel_rfl) rfl hl rfl h
abbrev zcu : Nat → Option (List Nat) := lvL [(0, [1, 2]), (1, [1, 2]), (2, [1, 2, 28, 29, 30]), (3, [1, 2, 28, 29, 30, 31]), (4, [1, 2, 3, 4, 28, 29, 30]), (5, [1, 2, 28, 29, 30]), (6, [1, 2, 28, 29, 30]), (7, [2])]
@[go_sem] def zbP : List Nat := [0, 1, 3, 0, 8, 31, 0, 64, 255, 0, 512, 2047, 0, 4096, 12288, 32767, 30431, 131071, 262143, 524287, 1048575, 2097151, 4194303, 8388607, 16777215, 33554431, 67108863]
@[go_sem] def jb0 : List Nat := [0, 1, 0, 0, 8, 24, 63, 127, 255]
theorem kdb {T : Tab} (hT : za Go.Proofs.Tryz.prog T) {ds : List D} {os : List (Nat × Ob)} {nx : Nat} {Q : D → List (Nat × Ob) → Nat → Prop} (hl : ds.length ≤ 45) (h : awp Go.Proofs.Tryz.prog T 45 nx zcu (Go.Proofs.Tryz.f81.body.getD .skip) (fin Go.Proofs.Tryz.prog [.cell 2 33] Q) ⟨prm 0 ds, os, nx⟩) : va Go.Proofs.Tryz.prog 81 ds os nx Q :=
  ya hT.toS (fn := Go.Proofs.Tryz.f81) zcu (by kernel_rfl) rfl rfl (by kernel_rfl) rfl hl rfl h
abbrev ycv : Nat → Option (List Nat) := lvL [(0, [0]), (1, [0, 7]), (2, [0]), (3, [0, 3]), (4, [0, 3, 4]), (5, [0, 3, 4, 15]), (6, [0, 3, 4]), (7, [0, 3, 4]), (8, [2])]
theorem vda {T : Tab} (hT : za Go.Proofs.Tryz.prog T) {ds : List D} {os : List (Nat × Ob)} {nx : Nat} {Q : D → List (Nat × Ob) → Nat → Prop} (hl : ds.length ≤ 25) (h : awp Go.Proofs.Tryz.prog T 25 nx ycv (Go.Proofs.Tryz.f82.body.getD .skip) (fin Go.Proofs.Tryz.prog [.tmp 2] Q) ⟨prm 0 ds, os, nx⟩) : va Go.Proofs.Tryz.prog 82 ds os nx Q :=
  ya hT.toS (fn := Go.Proofs.Tryz.f82) ycv (by kernel_rfl) rfl rfl (by kernel_rfl) rfl hl rfl h
abbrev qb6 : Nat → Option (List Nat) := lvL [(0, [0, 1, 2]), (1, [0, 1, 2, 8]), (2, [0, 1, 2, 8, 21]), (3, [6, 7]), (4, [0, 1, 2, 9]), (5, [1, 2, 9, 23, 24, 25]), (6, [1, 2, 9, 23, 24, 25, 26]), (7, [1, 2, 9, 11, 23, 24, 25]), (8, [1, 2, 9, 11, 12, 13, 23, 24, 25]), (9, [1, 2, 9, 11, 23, 24, 25, 46]), (10, [1, 2, 9, 11, 13, 14, 23, 24, 25]), (11, [1, 2, 9, 11, 13, 14, 23, 24, 25, 59]), (12, [6, 7]), (13, [1, 2, 9, 11, 14, 23, 24, 25, 62]), (14, [1, 2, 9, 11, 14, 23, 24, 25]), (15, [1, 2, 9, 23, 24, 25]), (16, [1, 2, 9, 23, 24, 25]), (17, [9]), (18, [9, 15]), (19, [15, 77, 78, 79]), (20, [15, 77, 78, 79, 80]), (21, [15, 16, 17, 77, 78, 79]), (22, [15, 77, 78, 79]), (23, [15, 77, 78, 79]), (24, [6, 7])]
@[go_sem] def jbp : List Nat := [0, 0, 0, 4, 14, 0, 32, 127, 255, 511, 511, 1023, 4095]
theorem udg {T : Tab} (hT : za Go.Proofs.Tryz.prog T) {ds : List D} {os : List (Nat × Ob)} {nx : Nat} {Q : D → List (Nat × Ob) → Nat → Prop} (hl : ds.length ≤ 91) (h : awp Go.Proofs.Tryz.prog T 91 nx qb6 (Go.Proofs.Tryz.f83.body.getD .skip) (fin Go.Proofs.Tryz.prog [.tmp 6, .tmp 7] Q) ⟨prm 0 ds, os, nx⟩) : va Go.Proofs.Tryz.prog 83 ds os nx Q :=
  ya hT.toS (fn := Go.Proofs.Tryz.f83) qb6 (by kernel_rfl) rfl rfl (by kernel_rfl) rfl hl rfl h
abbrev jcW : Nat → Option (List Nat) := lvL [(0, [0, 1]), (1, [0, 1, 6]), (2, [0, 1, 6, 12]), (3, [4, 5]), (4, [7, 8]), (5, [7, 21]), (6, [4, 5]), (7, [4, 5])]
theorem gdh {T : Tab} (hT : za Go.Proofs.Tryz.prog T) {ds : List D} {os : List (Nat × Ob)} {nx : Nat} {Q : D → List (Nat × Ob) → Nat → Prop} (hl : ds.length ≤ 24) (h : awp Go.Proofs.Tryz.prog T 24 nx jcW (Go.Proofs.Tryz.f84.body.getD .skip) (fin Go.Proofs.Tryz.prog [.tmp 4, .tmp 5] Q) ⟨prm 0 ds, os, nx⟩) : va Go.Proofs.Tryz.prog 84 ds os nx Q :=
  ya hT.toS (fn := Go.Proofs.Tryz.f84) jcW (by kernel_rfl) rfl rfl (by kernel_rfl) rfl hl rfl h
abbrev gcY : Nat → Option (List Nat) := lvL [(0, [0]), (1, [0, 4]), (2, [2]), (3, [2])]
theorem uc5 {T : Tab} (hT : za Go.Proofs.Tryz.prog T) {ds : List D} {os : List (Nat × Ob)} {nx : Nat} {Q : D → List (Nat × Ob) → Nat → Prop} (hl : ds.length ≤ 8) (h : awp Go.Proofs.Tryz.prog T 8 nx gcY (Go.Proofs.Tryz.f85.body.getD .skip) (fin Go.Proofs.Tryz.prog [.tmp 2] Q) ⟨prm 0 ds, os, nx⟩) : va Go.Proofs.Tryz.prog 85 ds os nx Q :=
  ya hT.toS (fn := Go.Proofs.Tryz.f85) gcY (by kernel_rfl) rfl rfl (by kernel_rfl) rfl hl rfl h
abbrev wct : Nat → Option (List Nat) := lvL [(0, [0, 1]), (1, [0, 1, 7, 8]), (2, [0, 1, 7, 8, 9]), (3, [0, 1, 5, 7, 8]), (4, [0, 1, 5, 7, 8, 16]), (5, [4]), (6, [0, 1, 7, 8]), (7, [4])]
theorem jdh {T : Tab} (hT : za Go.Proofs.Tryz.prog T) {ds : List D} {os : List (Nat × Ob)} {nx : Nat} {Q : D → List (Nat × Ob) → Nat → Prop} (hl : ds.length ≤ 19) (h : awp Go.Proofs.Tryz.prog T 19 nx wct (Go.Proofs.Tryz.f86.body.getD .skip) (fin Go.Proofs.Tryz.prog [.tmp 4] Q) ⟨prm 0 ds, os, nx⟩) : va Go.Proofs.Tryz.prog 86 ds os nx Q :=
  ya hT.toS (fn := Go.Proofs.Tryz.f86) wct (by kernel_rfl) rfl rfl (by kernel_rfl) rfl hl rfl h
abbrev wcY : Nat → Option (List Nat) := lvL [(0, [1]), (1, [2])]
theorem kdk {T : Tab} (hT : za Go.Proofs.Tryz.prog T) {ds : List D} {os : List (Nat × Ob)} {nx : Nat} {Q : D → List (Nat × Ob) → Nat → Prop} (hl : ds.length ≤ 6) (h : awp Go.Proofs.Tryz.prog T 6 nx wcY (Go.Proofs.Tryz.f87.body.getD .skip) (fin Go.Proofs.Tryz.prog [.tmp 2] Q) ⟨prm 0 ds, os, nx⟩) : va Go.Proofs.Tryz.prog 87 ds os nx Q :=
  ya hT.toS (fn := Go.Proofs.Tryz.f87) wcY (by kernel_rfl) rfl rfl (by kernel_rfl) rfl hl rfl h
abbrev zcV : Nat → Option (List Nat) := lvL [(0, [0, 1, 2]), (1, [0, 1, 2]), (2, [0, 1, 2, 16]), (3, [6]), (4, [0, 1, 2, 7]), (5, [0, 7]), (6, [0]), (7, [6])]
@[go_sem] def bbW : List Nat := [0, 0, 3, 0, 0, 24, 63, 127]
theorem bdd {T : Tab} (hT : za Go.Proofs.Tryz.prog T) {ds : List D} {os : List (Nat × Ob)} {nx : Nat} {Q : D → List (Nat × Ob) → Nat → Prop} (hl : ds.length ≤ 33) (h : awp Go.Proofs.Tryz.prog T 33 nx zcV (Go.Proofs.Tryz.f88.body.getD .skip) (fin Go.Proofs.Tryz.prog [.tmp 6] Q) ⟨prm 0 ds, os, nx⟩) : va Go.Proofs.Tryz.prog 88 ds os nx Q :=
  ya hT.toS (fn := Go.Proofs.Tryz.f88) zcV (by kernel_rfl) rfl rfl (by kernel_rfl) rfl hl rfl h
abbrev jcZ : Nat → Option (List Nat) := lvL [(0, [0, 1, 2]), (1, [0, 1, 2]), (2, [0, 1, 2, 7]), (3, [0, 1, 2, 7, 16]), (4, [6]), (5, [0, 1, 2, 7, 8]), (6, [0, 1, 2, 7, 8, 22]), (7, [6]), (8, [0, 1, 2, 7, 8, 31]), (9, [0, 1, 2, 7, 9]), (10, [0, 1, 7, 9]), (11, [9]), (12, [6]), (13, [0, 1, 2, 7, 8]), (14, [0, 1, 2, 7, 8, 68]), (15, [0, 1, 2]), (16, [0]), (17, [6]), (18, [0, 1, 7]), (19, [0]), (20, [6])]
@[go_sem] def ubr : List Nat := [0, 0, 0, 6, 15, 0, 0, 96, 255]
@[go_sem] def jbt : List Nat := [0, 0, 0, 6, 15, 0, 0, 96, 255]
theorem qcT {T : Tab} (hT : za Go.Proofs.Tryz.prog T) {ds : List D} {os : List (Nat × Ob)} {nx : Nat} {Q : D → List (Nat × Ob) → Nat → Prop} (hl : ds.length ≤ 95) (h : awp Go.Proofs.Tryz.prog T 95 nx jcZ (Go.Proofs.Tryz.f89.body.getD .skip) (fin Go.Proofs.Tryz.prog [.tmp 6] Q) ⟨prm 0 ds, os, nx⟩) : va Go.Proofs.Tryz.prog 89 ds os nx Q :=
  ya hT.toS (fn := Go.Proofs.Tryz.f89) jcZ (by kernel_rfl) rfl rfl (by kernel_rfl) rfl hl rfl h
abbrev zc1 : Nat → Option (List Nat) := lvL [(0, [0, 1, 2]), (1, [0, 2, 8, 9]), (2, [0, 2, 8, 9, 18]), (3, [6, 7]), (4, [0, 8, 9, 10]), (5, [0, 8, 9, 10, 30]), (6, [6, 7]), (7, [0, 8, 10]), (8, [0]), (9, [6, 7])]
theorem xck {T : Tab} (hT : za Go.Proofs.Tryz.prog T) {ds : List D} {os : List (Nat × Ob)} {nx : Nat} {Q : D → List (Nat × Ob) → Nat → Prop} (hl : ds.length ≤ 39) (h : awp Go.Proofs.Tryz.prog T 39 nx zc1 (Go.Proofs.Tryz.f90.body.getD .skip) (fin Go.Proofs.Tryz.prog [.tmp 6, .tmp 7] Q) ⟨prm 0 ds, os, nx⟩) : va Go.Proofs.Tryz.prog 90 ds os nx Q :=
  ya hT.toS (fn := Go.Proofs.Tryz.f90) zc1 (by kernel_rfl) rfl rfl (by kernel_rfl) rfl hl rfl h
abbrev xcT : Nat → Option (List Nat) := lvL [(0, [1, 2, 3, 4, 5]), (1, [2, 3, 4, 5, 8]), (2, [2, 3, 4, 5, 16]), (3, [5, 6]), (4, [5, 6])]
theorem bdc {T : Tab} (hT : za Go.Proofs.Tryz.prog T) {ds : List D} {os : List (Nat × Ob)} {nx : Nat} {Q : D → List (Nat × Ob) → Nat → Prop} (hl : ds.length ≤ 24) (h : awp Go.Proofs.Tryz.prog T 24 nx xcT (Go.Proofs.Tryz.f91.body.getD .skip) (fin Go.Proofs.Tryz.prog [.cell 5 37, .tmp 6] Q) ⟨prm 0 ds, os, nx⟩) : va Go.Proofs.Tryz.prog 91 ds os nx Q :=
  ya hT.toS (fn := Go.Proofs.Tryz.f91) xcT (by kernel_rfl) rfl rfl (by kernel_rfl) rfl hl rfl h
abbrev ycW : Nat → Option (List Nat) := lvL [(0, [0, 1]), (1, [0, 1, 6, 7]), (2, [0, 1, 6, 7, 16]), (3, [4, 5]), (4, [0, 8, 9]), (5, [0, 8, 25]), (6, [4, 5]), (7, [4, 5])]
theorem qdl {T : Tab} (hT : za Go.Proofs.Tryz.prog T) {ds : List D} {os : List (Nat × Ob)} {nx : Nat} {Q : D → List (Nat × Ob) → Nat → Prop} (hl : ds.length ≤ 31) (h : awp Go.Proofs.Tryz.prog T 31 nx ycW (Go.Proofs.Tryz.f92.body.getD .skip) (fin Go.Proofs.Tryz.prog [.tmp 4, .tmp 5] Q) ⟨prm 0 ds, os, nx⟩) : va Go.Proofs.Tryz.prog 92 ds os nx Q :=
  ya hT.toS (fn := Go.Proofs.Tryz.f92) ycW (by kernel_rfl) rfl rfl (by kernel_rfl) rfl hl rfl h
abbrev gc6 : Nat → Option (List Nat) := lvL [(0, [1, 2, 3, 6]), (1, [1, 2, 3, 6, 8, 10]), (2, [1, 2, 3, 6, 8, 10, 11, 12]), (3, [1, 2, 3, 6, 8, 11, 12, 26]), (4, [6, 7]), (5, [1, 2, 3, 6, 8, 11, 12, 40]), (6, [6, 7]), (7, [1, 2, 3, 6, 8, 11, 45]), (8, [6, 7]), (9, [1, 2, 3, 6, 8, 11, 48]), (10, [6, 7]), (11, [1, 2, 3, 6, 8, 11, 54]), (12, [6, 7]), (13, [1, 2, 3, 6, 11, 70]), (14, [6, 7]), (15, [1, 2, 3, 6, 11]), (16, [3, 6]), (17, [6, 7])]
theorem qdh {T : Tab} (hT : za Go.Proofs.Tryz.prog T) {ds : List D} {os : List (Nat × Ob)} {nx : Nat} {Q : D → List (Nat × Ob) → Nat → Prop} (hl : ds.length ≤ 94) (h : awp Go.Proofs.Tryz.prog T 94 nx gc6 (Go.Proofs.Tryz.f93.body.getD .skip) (fin Go.Proofs.Tryz.prog [.cell 6 37, .tmp 7] Q) ⟨prm 0 ds, os, nx⟩) : va Go.Proofs.Tryz.prog 93 ds os nx Q :=
  ya hT.toS (fn := Go.Proofs.Tryz.f93) gc6 (by kernel_rfl) rfl rfl (by kernel_rfl) rfl hl rfl h
abbrev ycT : Nat → Option (List Nat) := lvL [(0, [1, 2, 3, 4, 5]), (1, [1, 2, 3, 4, 5, 7]), (2, [2, 3, 4, 5, 7, 8]), (3, [2, 3, 4, 5, 7]), (4, [5, 6]), (5, [5, 6])]
theorem udj {T : Tab} (hT : za Go.Proofs.Tryz.prog T) {ds : List D} {os : List (Nat × Ob)} {nx : Nat} {Q : D → List (Nat × Ob) → Nat → Prop} (hl : ds.length ≤ 19) (h : awp Go.Proofs.Tryz.prog T 19 nx ycT (Go.Proofs.Tryz.f94.body.getD .skip) (fin Go.Proofs.Tryz.prog [.cell 5 37, .tmp 6] Q) ⟨prm 0 ds, os, nx⟩) : va Go.Proofs.Tryz.prog 94 ds os nx Q :=
  ya hT.toS (fn := Go.Proofs.Tryz.f94) ycT (by kernel_rfl) rfl rfl (by kernel_rfl) rfl hl rfl h
abbrev jc7 : Nat → Option (List Nat) := lvL [(0, [1, 2, 4]), (1, [4, 5, 6])]
theorem wdi {T : Tab} (hT : za Go.Proofs.Tryz.prog T) {ds : List D} {os : List (Nat × Ob)} {nx : Nat} {Q : D → List (Nat × Ob) → Nat → Prop} (hl : ds.length ≤ 13) (h : awp Go.Proofs.Tryz.prog T 13 nx jc7 (Go.Proofs.Tryz.f95.body.getD .skip) (fin Go.Proofs.Tryz.prog [.cell 4 37, .tmp 5, .tmp 6] Q) ⟨prm 0 ds, os, nx⟩) : va Go.Proofs.Tryz.prog 95 ds os nx Q :=
  ya hT.toS (fn := Go.Proofs.Tryz.f95) jc7 (by kernel_rfl) rfl rfl (by kernel_rfl) rfl hl rfl h
abbrev wcU : Nat → Option (List Nat) := lvL [(0, [1, 2, 4]), (1, [4, 5, 6])]
theorem vde {T : Tab} (hT : za Go.Proofs.Tryz.prog T) {ds : List D} {os : List (Nat × Ob)} {nx : Nat} {Q : D → List (Nat × Ob) → Nat → Prop} (hl : ds.length ≤ 13) (h : awp Go.Proofs.Tryz.prog T 13 nx wcU (Go.Proofs.Tryz.f96.body.getD .skip) (fin Go.Proofs.Tryz.prog [.cell 4 37, .tmp 5, .tmp 6] Q) ⟨prm 0 ds, os, nx⟩) : va Go.Proofs.Tryz.prog 96 ds os nx Q :=
  ya hT.toS (fn := Go.Proofs.Tryz.f96) wcU (by kernel_rfl) rfl rfl (by kernel_rfl) rfl hl rfl h
abbrev qc7 : Nat → Option (List Nat) := lvL [(0, [0, 1]), (1, [0, 1, 6]), (2, [0, 1, 6, 12]), (3, [4, 5]), (4, [7, 8]), (5, [7, 21]), (6, [4, 5]), (7, [4, 5])]
theorem ydg {T : Tab} (hT : za Go.Proofs.Tryz.prog T) {ds : List D} {os : List (Nat × Ob)} {nx : Nat} {Q : D → List (Nat × Ob) → Nat → Prop} (hl : ds.length ≤ 24) (h : awp Go.Proofs.Tryz.prog T 24 nx qc7 (Go.Proofs.Tryz.f97.body.getD .skip) (fin Go.Proofs.Tryz.prog [.tmp 4, .tmp 5] Q) ⟨prm 0 ds, os, nx⟩) : va Go.Proofs.Tryz.prog 97 ds os nx Q :=
  ya hT.toS (fn := Go.Proofs.Tryz.f97) qc7 (by kernel_rfl) rfl rfl (by kernel_rfl) rfl hl rfl h
abbrev zc4 : Nat → Option (List Nat) := lvL [(0, [0, 1, 2]), (1, [0, 1, 2]), (2, [0, 1, 2, 7]), (3, [0, 1, 2, 7, 16]), (4, [6]), (5, [0, 1, 2, 7, 8]), (6, [0, 1, 2, 7, 8, 22]), (7, [6]), (8, [0, 1, 2, 7, 8, 31]), (9, [0, 1, 2, 7, 9]), (10, [0, 1, 7, 9]), (11, [9]), (12, [6]), (13, [0, 1, 2, 7, 8]), (14, [0, 1, 2, 7, 8, 68]), (15, [0, 1, 2]), (16, [0]), (17, [6]), (18, [0, 1, 7]), (19, [0]), (20, [6])]
@[go_sem] def ubw : List Nat := [0, 0, 0, 6, 15, 0, 0, 96, 255]
@[go_sem] def gbu : List Nat := [0, 0, 0, 6, 15, 0, 0, 96, 255]
theorem jc5 {T : Tab} (hT : za Go.Proofs.Tryz.prog T) {ds : List D} {os : List (Nat × Ob)} {nx : Nat} {Q : D → List (Nat × Ob) → Nat → Prop} (hl : ds.length ≤ 95) (h : awp Go.Proofs.Tryz.prog T 95 nx zc4 (Go.Proofs.Tryz.f98.body.getD .skip) (fin Go.Proofs.Tryz.prog [.tmp 6] Q) ⟨prm 0 ds, os, nx⟩) : va Go.Proofs.Tryz.prog 98 ds os nx Q :=
  ya hT.toS (fn := Go.Proofs.Tryz.f98) zc4 (by kernel_rfl) rfl rfl (by kernel_rfl) rfl hl rfl h
abbrev ycS : Nat → Option (List Nat) := lvL [(0, [0]), (1, [0, 4]), (2, [2]), (3, [2])]
theorem bc4 {T : Tab} (hT : za Go.Proofs.Tryz.prog T) {ds : List D} {os : List (Nat × Ob)} {nx : Nat} {Q : D → List (Nat × Ob) → Nat → Prop} (hl : ds.length ≤ 8) (h : awp Go.Proofs.Tryz.prog T 8 nx ycS (Go.Proofs.Tryz.f99.body.getD .skip) (fin Go.Proofs.Tryz.prog [.tmp 2] Q) ⟨prm 0 ds, os, nx⟩) : va Go.Proofs.Tryz.prog 99 ds os nx Q :=
  ya hT.toS (fn := Go.Proofs.Tryz.f99) ycS (by kernel_rfl) rfl rfl (by kernel_rfl) rfl hl rfl h
abbrev zbZ : Nat → Option (List Nat) := lvL [(0, [0, 1, 2, 3, 4]), (1, [0, 2, 3, 4, 12, 13]), (2, [0, 2, 3, 4, 12, 13, 22]), (3, [10, 11]), (4, [0, 3, 4, 12, 14]), (5, [0, 3, 4, 12, 14, 30]), (6, [10, 11]), (7, [0, 3, 4, 12, 33]), (8, [10, 11]), (9, [0, 4, 12, 36]), (10, [10, 11]), (11, [0, 4, 12]), (12, [0]), (13, [10, 11])]
theorem qb3 {T : Tab} (hT : za Go.Proofs.Tryz.prog T) {ds : List D} {os : List (Nat × Ob)} {nx : Nat} {Q : D → List (Nat × Ob) → Nat → Prop} (hl : ds.length ≤ 52) (h : awp Go.Proofs.Tryz.prog T 52 nx zbZ (Go.Proofs.Tryz.f100.body.getD .skip) (fin Go.Proofs.Tryz.prog [.tmp 10, .tmp 11] Q) ⟨prm 0 ds, os, nx⟩) : va Go.Proofs.Tryz.prog 100 ds os nx Q :=
  ya hT.toS (fn := Go.Proofs.Tryz.f100) zbZ (by kernel_rfl) rfl rfl (by kernel_rfl) rfl hl rfl h
abbrev wb1 : Nat → Option (List Nat) := lvL [(0, [1, 2, 3]), (1, [3, 4])]
theorem bcC {T : Tab} (hT : za Go.Proofs.Tryz.prog T) {ds : List D} {os : List (Nat × Ob)} {nx : Nat} {Q : D → List (Nat × Ob) → Nat → Prop} (hl : ds.length ≤ 10) (h : awp Go.Proofs.Tryz.prog T 10 nx wb1 (Go.Proofs.Tryz.f101.body.getD .skip) (fin Go.Proofs.Tryz.prog [.cell 3 37, .tmp 4] Q) ⟨prm 0 ds, os, nx⟩) : va Go.Proofs.Tryz.prog 101 ds os nx Q :=
  ya hT.toS (fn := Go.Proofs.Tryz.f101) wb1 (by kernel_rfl) rfl rfl (by kernel_rfl) rfl hl rfl h
abbrev qbZ : Nat → Option (List Nat) := lvL [(0, [1, 2, 4]), (1, [1, 2, 4, 16]), (2, [4, 5]), (3, [1, 2, 4, 6, 7]), (4, [1, 2, 4, 6, 7, 25]), (5, [4, 5]), (6, [1, 2, 4, 6, 7, 30]), (7, [4, 5]), (8, [1, 2, 4, 6]), (9, [1, 2, 4]), (10, [2, 4]), (11, [4, 5])]
theorem xcv {T : Tab} (hT : za Go.Proofs.Tryz.prog T) {ds : List D} {os : List (Nat × Ob)} {nx : Nat} {Q : D → List (Nat × Ob) → Nat → Prop} (hl : ds.length ≤ 47) (h : awp Go.Proofs.Tryz.prog T 47 nx qbZ (Go.Proofs.Tryz.f102.body.getD .skip) (fin Go.Proofs.Tryz.prog [.cell 4 37, .tmp 5] Q) ⟨prm 0 ds, os, nx⟩) : va Go.Proofs.Tryz.prog 102 ds os nx Q :=
  ya hT.toS (fn := Go.Proofs.Tryz.f102) qbZ (by kernel_rfl) rfl rfl (by kernel_rfl) rfl hl rfl h
abbrev wbY : Nat → Option (List Nat) := lvL [(0, [1, 2]), (1, [1, 2, 4]), (2, [2, 3]), (3, [1, 2, 9]), (4, [2, 3]), (5, [1, 2, 14]), (6, [2, 3]), (7, [1, 2]), (8, [2, 3])]
theorem gcu {T : Tab} (hT : za Go.Proofs.Tryz.prog T) {ds : List D} {os : List (Nat × Ob)} {nx : Nat} {Q : D → List (Nat × Ob) → Nat → Prop} (hl : ds.length ≤ 23) (h : awp Go.Proofs.Tryz.prog T 23 nx wbY (Go.Proofs.Tryz.f103.body.getD .skip) (fin Go.Proofs.Tryz.prog [.cell 2 37, .tmp 3] Q) ⟨prm 0 ds, os, nx⟩) : va Go.Proofs.Tryz.prog 103 ds os nx Q :=
  ya hT.toS (fn := Go.Proofs.Tryz.f103) wbY (by kernel_rfl) rfl rfl (by kernel_rfl) rfl hl rfl h
abbrev jbS : Nat → Option (List Nat) := lvL [(0, [1, 2]), (1, [3])]
theorem ubX {T : Tab} (hT : za Go.Proofs.Tryz.prog T) {ds : List D} {os : List (Nat × Ob)} {nx : Nat} {Q : D → List (Nat × Ob) → Nat → Prop} (hl : ds.length ≤ 13) (h : awp Go.Proofs.Tryz.prog T 13 nx jbS (Go.Proofs.Tryz.f104.body.getD .skip) (fin Go.Proofs.Tryz.prog [.tmp 3] Q) ⟨prm 0 ds, os, nx⟩) : va Go.Proofs.Tryz.prog 104 ds os nx Q :=
  ya hT.toS (fn := Go.Proofs.Tryz.f104) jbS (by kernel_rfl) rfl rfl (by kernel_rfl) rfl hl rfl h
abbrev vbN : Nat → Option (List Nat) := lvL [(0, [1, 2]), (1, [2, 13]), (2, [4]), (3, [4])]
theorem xcz {T : Tab} (hT : za Go.Proofs.Tryz.prog T) {ds : List D} {os : List (Nat × Ob)} {nx : Nat} {Q : D → List (Nat × Ob) → Nat → Prop} (hl : ds.length ≤ 16) (h : awp Go.Proofs.Tryz.prog T 16 nx vbN (Go.Proofs.Tryz.f105.body.getD .skip) (fin Go.Proofs.Tryz.prog [.tmp 4] Q) ⟨prm 0 ds, os, nx⟩) : va Go.Proofs.Tryz.prog 105 ds os nx Q :=
  ya hT.toS (fn := Go.Proofs.Tryz.f105) vbN (by kernel_rfl) rfl rfl (by kernel_rfl) rfl hl rfl h
abbrev jab : Nat → Option (List Nat) := lvL [(0, [0, 1]), (1, [0, 1, 5]), (2, [0, 1, 5, 12]), (3, [4]), (4, [0, 1, 5, 6]), (5, [0, 1, 5, 6, 19]), (6, [0, 1, 5, 6]), (7, [0, 1, 5, 6, 7]), (8, [0, 1, 5, 6, 7, 29]), (9, [0, 1, 5, 6]), (10, [0, 1, 5, 6]), (11, [0, 5]), (12, [4])]
theorem udi {T : Tab} (hT : za Go.Proofs.Tryz.prog T) {ds : List D} {os : List (Nat × Ob)} {nx : Nat} {Q : D → List (Nat × Ob) → Nat → Prop} (hl : ds.length ≤ 42) (h : awp Go.Proofs.Tryz.prog T 42 nx jab (Go.Proofs.Tryz.f106.body.getD .skip) (fin Go.Proofs.Tryz.prog [.tmp 4] Q) ⟨prm 0 ds, os, nx⟩) : va Go.Proofs.Tryz.prog 106 ds os nx Q :=
  ya hT.toS (fn := Go.Proofs.Tryz.f106) jab (by kernel_rfl) rfl rfl (by kernel_rfl) rfl hl rfl h
abbrev xb0 : Nat → Option (List Nat) := lvL [(0, [0, 1]), (1, [0, 1, 5]), (2, [0, 1, 5, 6]), (3, [0, 1, 6, 11]), (4, [12]), (5, [4]), (6, [4]), (7, [0, 1, 13]), (8, [4]), (9, [0, 1, 16]), (10, [4]), (11, [19]), (12, [4]), (13, [4])]
theorem bcy {T : Tab} (hT : za Go.Proofs.Tryz.prog T) {ds : List D} {os : List (Nat × Ob)} {nx : Nat} {Q : D → List (Nat × Ob) → Nat → Prop} (hl : ds.length ≤ 20) (h : awp Go.Proofs.Tryz.prog T 20 nx xb0 (Go.Proofs.Tryz.f107.body.getD .skip) (fin Go.Proofs.Tryz.prog [.tmp 4] Q) ⟨prm 0 ds, os, nx⟩) : va Go.Proofs.Tryz.prog 107 ds os nx Q :=
  ya hT.toS (fn := Go.Proofs.Tryz.f107) xb0 (by kernel_rfl) rfl rfl (by kernel_rfl) rfl hl rfl h
abbrev vbY : Nat → Option (List Nat) := lvL [(0, [0]), (1, [0, 4]), (2, [2]), (3, [2])]
theorem qcq {T : Tab} (hT : za Go.Proofs.Tryz.prog T) {ds : List D} {os : List (Nat × Ob)} {nx : Nat} {Q : D → List (Nat × Ob) → Nat → Prop} (hl : ds.length ≤ 8) (h : awp Go.Proofs.Tryz.prog T 8 nx vbY (Go.Proofs.Tryz.f111.body.getD .skip) (fin Go.Proofs.Tryz.prog [.tmp 2] Q) ⟨prm 0 ds, os, nx⟩) : va Go.Proofs.Tryz.prog 111 ds os nx Q :=
  ya hT.toS (fn := Go.Proofs.Tryz.f111) vbY (by kernel_rfl) rfl rfl (by kernel_rfl) rfl hl rfl h
abbrev yb1 : Nat → Option (List Nat) := lvL [(0, [0]), (1, [0, 4]), (2, [2]), (3, [2])]
theorem qb1 {T : Tab} (hT : za Go.Proofs.Tryz.prog T) {ds : List D} {os : List (Nat × Ob)} {nx : Nat} {Q : D → List (Nat × Ob) → Nat → Prop} (hl : ds.length ≤ 8) (h : awp Go.Proofs.Tryz.prog T 8 nx yb1 (Go.Proofs.Tryz.f112.body.getD .skip) (fin Go.Proofs.Tryz.prog [.tmp 2] Q) ⟨prm 0 ds, os, nx⟩) : va Go.Proofs.Tryz.prog 112 ds os nx Q :=
  ya hT.toS (fn := Go.Proofs.Tryz.f112) yb1 (by kernel_rfl) rfl rfl (by kernel_rfl) rfl hl rfl h
abbrev qbU : Nat → Option (List Nat) := lvL [(0, [0]), (1, [0, 4]), (2, [2]), (3, [2])]
theorem xcB {T : Tab} (hT : za Go.Proofs.Tryz.prog T) {ds : List D} {os : List (Nat × Ob)} {nx : Nat} {Q : D → List (Nat × Ob) → Nat → Prop} (hl : ds.length ≤ 8) (h : awp Go.Proofs.Tryz.prog T 8 nx qbU (Go.Proofs.Tryz.f113.body.getD .skip) (fin Go.Proofs.Tryz.prog [.tmp 2] Q) ⟨prm 0 ds, os, nx⟩) : va Go.Proofs.Tryz.prog 113 ds os nx Q :=
  ya hT.toS (fn := Go.Proofs.Tryz.f113) qbU (by kernel_rfl) rfl rfl (by kernel_rfl) rfl hl rfl h
abbrev gbM : Nat → Option (List Nat) := lvL [(0, [1]), (1, [1, 4, 6]), (2, [1, 4, 6, 26]), (3, [2, 3]), (4, [1, 4, 6, 7]), (5, [1, 4, 6, 7, 37]), (6, [2, 3]), (7, [2, 3])]
theorem ycJ {T : Tab} (hT : za Go.Proofs.Tryz.prog T) {ds : List D} {os : List (Nat × Ob)} {nx : Nat} {Q : D → List (Nat × Ob) → Nat → Prop} (hl : ds.length ≤ 45) (h : awp Go.Proofs.Tryz.prog T 45 nx gbM (Go.Proofs.Tryz.f114.body.getD .skip) (fin Go.Proofs.Tryz.prog [.tmp 2, .tmp 3] Q) ⟨prm 0 ds, os, nx⟩) : va Go.Proofs.Tryz.prog 114 ds os nx Q :=
  ya hT.toS (fn := Go.Proofs.Tryz.f114) gbM (by kernel_rfl) rfl rfl (by kernel_rfl) rfl hl rfl h
abbrev zb0 : Nat → Option (List Nat) := lvL [(0, [1, 2, 3]), (1, [1, 2, 3, 8, 9]), (2, [1, 2, 3, 8, 9, 19]), (3, [6, 7]), (4, [1, 2, 8, 9, 10]), (5, [1, 2, 8, 9, 10, 27]), (6, [6, 7]), (7, [1, 10, 11]), (8, [1, 12]), (9, [6, 7])]
theorem bcw {T : Tab} (hT : za Go.Proofs.Tryz.prog T) {ds : List D} {os : List (Nat × Ob)} {nx : Nat} {Q : D → List (Nat × Ob) → Nat → Prop} (hl : ds.length ≤ 40) (h : awp Go.Proofs.Tryz.prog T 40 nx zb0 (Go.Proofs.Tryz.f115.body.getD .skip) (fin Go.Proofs.Tryz.prog [.tmp 6, .tmp 7] Q) ⟨prm 0 ds, os, nx⟩) : va Go.Proofs.Tryz.prog 115 ds os nx Q :=
  ya hT.toS (fn := Go.Proofs.Tryz.f115) zb0 (by kernel_rfl) rfl rfl (by kernel_rfl) rfl hl rfl h
abbrev kb2 : Nat → Option (List Nat) := lvL [(0, [0, 3]), (1, [0, 5]), (2, [0, 5, 10]), (3, [4]), (4, [4])]
theorem wcx {T : Tab} (hT : za Go.Proofs.Tryz.prog T) {ds : List D} {os : List (Nat × Ob)} {nx : Nat} {Q : D → List (Nat × Ob) → Nat → Prop} (hl : ds.length ≤ 16) (h : awp Go.Proofs.Tryz.prog T 16 nx kb2 (Go.Proofs.Tryz.f116.body.getD .skip) (fin Go.Proofs.Tryz.prog [.tmp 4] Q) ⟨prm 0 ds, os, nx⟩) : va Go.Proofs.Tryz.prog 116 ds os nx Q :=
  ya hT.toS (fn := Go.Proofs.Tryz.f116) kb2 (by kernel_rfl) rfl rfl (by kernel_rfl) rfl hl rfl h
abbrev vbX : Nat → Option (List Nat) := lvL [(0, [0]), (1, [2])]
theorem vcv {T : Tab} (hT : za Go.Proofs.Tryz.prog T) {ds : List D} {os : List (Nat × Ob)} {nx : Nat} {Q : D → List (Nat × Ob) → Nat → Prop} (hl : ds.length ≤ 6) (h : awp Go.Proofs.Tryz.prog T 6 nx vbX (Go.Proofs.Tryz.f117.body.getD .skip) (fin Go.Proofs.Tryz.prog [.tmp 2] Q) ⟨prm 0 ds, os, nx⟩) : va Go.Proofs.Tryz.prog 117 ds os nx Q :=
  ya hT.toS (fn := Go.Proofs.Tryz.f117) vbX (by kernel_rfl) rfl rfl (by kernel_rfl) rfl hl rfl h
abbrev qbK : Nat → Option (List Nat) := lvL [(0, []), (1, [0])]
theorem vcr {T : Tab} (hT : za Go.Proofs.Tryz.prog T) {ds : List D} {os : List (Nat × Ob)} {nx : Nat} {Q : D → List (Nat × Ob) → Nat → Prop} (hl : ds.length ≤ 2) (h : awp Go.Proofs.Tryz.prog T 2 nx qbK (Go.Proofs.Tryz.f118.body.getD .skip) (fin Go.Proofs.Tryz.prog [.tmp 0] Q) ⟨prm 0 ds, os, nx⟩) : va Go.Proofs.Tryz.prog 118 ds os nx Q :=
  ya hT.toS (fn := Go.Proofs.Tryz.f118) qbK (by kernel_rfl) rfl rfl (by kernel_rfl) rfl hl rfl h
abbrev vb3 : Nat → Option (List Nat) := lvL [(0, [2, 3]), (1, [4])]
@[go_sem] def kbp : List Nat := [0, 1, 0, 4, 15, 0, 32, 0, 128, 511, 1023, 2047, 4095]
theorem jcJ {T : Tab} (hT : za Go.Proofs.Tryz.prog T) {ds : List D} {os : List (Nat × Ob)} {nx : Nat} {Q : D → List (Nat × Ob) → Nat → Prop} (hl : ds.length ≤ 17) (h : awp Go.Proofs.Tryz.prog T 17 nx vb3 (Go.Proofs.Tryz.f120.body.getD .skip) (fin Go.Proofs.Tryz.prog [.tmp 4] Q) ⟨prm 0 ds, os, nx⟩) : va Go.Proofs.Tryz.prog 120 ds os nx Q :=
  ya hT.toS (fn := Go.Proofs.Tryz.f120) vb3 (by kernel_rfl) rfl rfl (by kernel_rfl) rfl hl rfl h
abbrev ubt : Nat → Option (List Nat) := lvL [(0, [0]), (1, [0, 3]), (2, [3, 6, 7, 8]), (3, [3, 6, 7, 8, 9]), (4, [3, 5, 6, 7, 8]), (5, [3, 5, 6, 7, 8, 14]), (6, [2]), (7, [3, 6, 7, 8]), (8, [2])]
theorem ycP {T : Tab} (hT : za Go.Proofs.Tryz.prog T) {ds : List D} {os : List (Nat × Ob)} {nx : Nat} {Q : D → List (Nat × Ob) → Nat → Prop} (hl : ds.length ≤ 18) (h : awp Go.Proofs.Tryz.prog T 18 nx ubt (Go.Proofs.Tryz.f121.body.getD .skip) (fin Go.Proofs.Tryz.prog [.tmp 2] Q) ⟨prm 0 ds, os, nx⟩) : va Go.Proofs.Tryz.prog 121 ds os nx Q :=
  ya hT.toS (fn := Go.Proofs.Tryz.f121) ubt (by kernel_rfl) rfl rfl (by kernel_rfl) rfl hl rfl h
abbrev kbP : Nat → Option (List Nat) := lvL [(0, [0, 1]), (1, [0, 1, 5]), (2, [0, 1, 5, 6]), (3, [0, 1, 6, 11]), (4, [12]), (5, [4]), (6, [4]), (7, [0, 1, 13]), (8, [4]), (9, [0, 1, 16]), (10, [4]), (11, [19]), (12, [4]), (13, [4])]
theorem xcu {T : Tab} (hT : za Go.Proofs.Tryz.prog T) {ds : List D} {os : List (Nat × Ob)} {nx : Nat} {Q : D → List (Nat × Ob) → Nat → Prop} (hl : ds.length ≤ 20) (h : awp Go.Proofs.Tryz.prog T 20 nx kbP (Go.Proofs.Tryz.f122.body.getD .skip) (fin Go.Proofs.Tryz.prog [.tmp 4] Q) ⟨prm 0 ds, os, nx⟩) : va Go.Proofs.Tryz.prog 122 ds os nx Q :=
  ya hT.toS (fn := Go.Proofs.Tryz.f122) kbP (by kernel_rfl) rfl rfl (by kernel_rfl) rfl hl rfl h
abbrev wbu : Nat → Option (List Nat) := lvL [(0, [0, 1, 2]), (1, [0, 1, 2, 8]), (2, [0, 1, 2, 8, 9, 10]), (3, [0, 1, 2, 8, 9, 10, 17]), (4, [0, 1, 2, 8, 9, 10, 11]), (5, [0, 1, 2, 8, 9, 10, 11, 31]), (6, [0, 1, 2, 8, 9, 10]), (7, [0, 1, 2, 8, 9, 10]), (8, [6, 7])]
theorem kcN {T : Tab} (hT : za Go.Proofs.Tryz.prog T) {ds : List D} {os : List (Nat × Ob)} {nx : Nat} {Q : D → List (Nat × Ob) → Nat → Prop} (hl : ds.length ≤ 49) (h : awp Go.Proofs.Tryz.prog T 49 nx wbu (Go.Proofs.Tryz.f123.body.getD .skip) (fin Go.Proofs.Tryz.prog [.tmp 6, .tmp 7] Q) ⟨prm 0 ds, os, nx⟩) : va Go.Proofs.Tryz.prog 123 ds os nx Q :=
  ya hT.toS (fn := Go.Proofs.Tryz.f123) wbu (by kernel_rfl) rfl rfl (by kernel_rfl) rfl hl rfl h
abbrev jaR : Nat → Option (List Nat) := lvL [(0, [0, 1, 2]), (1, [0, 1, 2, 8]), (2, [0, 1, 2, 8, 9, 10]), (3, [0, 1, 2, 8, 9, 10, 17]), (4, [0, 1, 2, 8, 9, 10, 11]), (5, [0, 1, 2, 8, 9, 10, 11, 31]), (6, [0, 1, 2, 8, 9, 10]), (7, [0, 1, 2, 8, 9, 10]), (8, [6, 7])]
theorem xbn {T : Tab} (hT : za Go.Proofs.Tryz.prog T) {ds : List D} {os : List (Nat × Ob)} {nx : Nat} {Q : D → List (Nat × Ob) → Nat → Prop} (hl : ds.length ≤ 49) (h : awp Go.Proofs.Tryz.prog T 49 nx jaR (Go.Proofs.Tryz.f126.body.getD .skip) (fin Go.Proofs.Tryz.prog [.tmp 6, .tmp 7] Q) ⟨prm 0 ds, os, nx⟩) : va Go.Proofs.Tryz.prog 126 ds os nx Q :=
  ya hT.toS (fn := Go.Proofs.Tryz.f126) jaR (by kernel_rfl) rfl rfl (by kernel_rfl) rfl hl rfl h
abbrev ybW : Nat → Option (List Nat) := lvL [(0, [0, 1, 2]), (1, [0, 1, 2]), (2, [0, 1, 2, 7]), (3, [0, 1, 2, 7, 16]), (4, [6]), (5, [0, 1, 2, 7, 8]), (6, [0, 1, 2, 7, 8, 22]), (7, [6]), (8, [0, 1, 2, 7, 8, 31]), (9, [0, 1, 2, 7, 9]), (10, [0, 1, 7, 9]), (11, [9]), (12, [6]), (13, [0, 1, 2, 7, 8]), (14, [0, 1, 2, 7, 8, 68]), (15, [0, 1, 2]), (16, [0]), (17, [6]), (18, [0, 1, 7]), (19, [0]), (20, [6])]
@[go_sem] def bba : List Nat := [0, 0, 0, 6, 15, 0, 0, 96, 255]
@[go_sem] def ba6 : List Nat := [0, 0, 0, 6, 15, 0, 0, 96, 255]
theorem gbT {T : Tab} (hT : za Go.Proofs.Tryz.prog T) {ds : List D} {os : List (Nat × Ob)} {nx : Nat} {Q : D → List (Nat × Ob) → Nat → Prop} (hl : ds.length ≤ 95) (h : awp Go.Proofs.Tryz.prog T 95 nx ybW (Go.Proofs.Tryz.f127.body.getD .skip) (fin Go.Proofs.Tryz.prog [.tmp 6] Q) ⟨prm 0 ds, os, nx⟩) : va Go.Proofs.Tryz.prog 127 ds os nx Q :=
  ya hT.toS (fn := Go.Proofs.Tryz.f127) ybW (by kernel_rfl) rfl rfl (by kernel_rfl) rfl hl rfl h
abbrev xbP : Nat → Option (List Nat) := lvL [(0, [1, 2, 3, 6]), (1, [1, 2, 3, 6, 9]), (2, [1, 2, 3, 6, 9, 16]), (3, [6, 7, 8]), (4, [2, 3, 6, 10, 11]), (5, [2, 3, 6, 10, 27]), (6, [6, 7, 8]), (7, [2, 3, 6, 10, 12]), (8, [2, 3, 6, 12]), (9, [3, 6, 12]), (10, [6, 7, 8])]
theorem vbS {T : Tab} (hT : za Go.Proofs.Tryz.prog T) {ds : List D} {os : List (Nat × Ob)} {nx : Nat} {Q : D → List (Nat × Ob) → Nat → Prop} (hl : ds.length ≤ 52) (h : awp Go.Proofs.Tryz.prog T 52 nx xbP (Go.Proofs.Tryz.f128.body.getD .skip) (fin Go.Proofs.Tryz.prog [.cell 6 37, .tmp 7, .tmp 8] Q) ⟨prm 0 ds, os, nx⟩) : va Go.Proofs.Tryz.prog 128 ds os nx Q :=
  ya hT.toS (fn := Go.Proofs.Tryz.f128) xbP (by kernel_rfl) rfl rfl (by kernel_rfl) rfl hl rfl h
abbrev vbT : Nat → Option (List Nat) := lvL [(0, [0]), (1, [2])]
theorem gcM {T : Tab} (hT : za Go.Proofs.Tryz.prog T) {ds : List D} {os : List (Nat × Ob)} {nx : Nat} {Q : D → List (Nat × Ob) → Nat → Prop} (hl : ds.length ≤ 6) (h : awp Go.Proofs.Tryz.prog T 6 nx vbT (Go.Proofs.Tryz.f129.body.getD .skip) (fin Go.Proofs.Tryz.prog [.tmp 2] Q) ⟨prm 0 ds, os, nx⟩) : va Go.Proofs.Tryz.prog 129 ds os nx Q :=
  ya hT.toS (fn := Go.Proofs.Tryz.f129) vbT (by kernel_rfl) rfl rfl (by kernel_rfl) rfl hl rfl h
abbrev gb2 : Nat → Option (List Nat) := lvL [(0, [0]), (1, [2])]
theorem ycA {T : Tab} (hT : za Go.Proofs.Tryz.prog T) {ds : List D} {os : List (Nat × Ob)} {nx : Nat} {Q : D → List (Nat × Ob) → Nat → Prop} (hl : ds.length ≤ 6) (h : awp Go.Proofs.Tryz.prog T 6 nx gb2 (Go.Proofs.Tryz.f130.body.getD .skip) (fin Go.Proofs.Tryz.prog [.tmp 2] Q) ⟨prm 0 ds, os, nx⟩) : va Go.Proofs.Tryz.prog 130 ds os nx Q :=
  ya hT.toS (fn := Go.Proofs.Tryz.f130) gb2 (by kernel_rfl) rfl rfl (by kernel_rfl) rfl hl rfl h
abbrev gbw : Nat → Option (List Nat) := lvL [(0, [0, 1, 2]), (1, [0, 1, 2, 8]), (2, [0, 1, 2, 8, 9, 10]), (3, [0, 1, 2, 8, 9, 10, 17]), (4, [0, 1, 2, 8, 9, 10, 11]), (5, [0, 1, 2, 8, 9, 10, 11, 31]), (6, [0, 1, 2, 8, 9, 10]), (7, [0, 1, 2, 8, 9, 10]), (8, [6, 7])]
theorem gcy {T : Tab} (hT : za Go.Proofs.Tryz.prog T) {ds : List D} {os : List (Nat × Ob)} {nx : Nat} {Q : D → List (Nat × Ob) → Nat → Prop} (hl : ds.length ≤ 49) (h : awp Go.Proofs.Tryz.prog T 49 nx gbw (Go.Proofs.Tryz.f131.body.getD .skip) (fin Go.Proofs.Tryz.prog [.tmp 6, .tmp 7] Q) ⟨prm 0 ds, os, nx⟩) : va Go.Proofs.Tryz.prog 131 ds os nx Q :=
  ya hT.toS (fn := Go.Proofs.Tryz.f131) gbw (by kernel_rfl) rfl rfl (by kernel_rfl) rfl hl rfl h
abbrev xb2 : Nat → Option (List Nat) := lvL [(0, [0, 1]), (1, [0, 1, 6, 7]), (2, [6, 7, 14]), (3, [4, 5]), (4, [6, 20]), (5, [4, 5]), (6, [4, 5])]
theorem wcC {T : Tab} (hT : za Go.Proofs.Tryz.prog T) {ds : List D} {os : List (Nat × Ob)} {nx : Nat} {Q : D → List (Nat × Ob) → Nat → Prop} (hl : ds.length ≤ 24) (h : awp Go.Proofs.Tryz.prog T 24 nx xb2 (Go.Proofs.Tryz.f134.body.getD .skip) (fin Go.Proofs.Tryz.prog [.tmp 4, .tmp 5] Q) ⟨prm 0 ds, os, nx⟩) : va Go.Proofs.Tryz.prog 134 ds os nx Q :=
  ya hT.toS (fn := Go.Proofs.Tryz.f134) xb2 (by kernel_rfl) rfl rfl (by kernel_rfl) rfl hl rfl h
abbrev gbm : Nat → Option (List Nat) := lvL [(0, [0, 1]), (1, [0, 1, 7, 8]), (2, [0, 1, 7, 8, 9]), (3, [0, 1, 5, 7, 8]), (4, [0, 1, 5, 7, 8, 16]), (5, [4]), (6, [0, 1, 7, 8]), (7, [4])]
theorem zcF {T : Tab} (hT : za Go.Proofs.Tryz.prog T) {ds : List D} {os : List (Nat × Ob)} {nx : Nat} {Q : D → List (Nat × Ob) → Nat → Prop} (hl : ds.length ≤ 19) (h : awp Go.Proofs.Tryz.prog T 19 nx gbm (Go.Proofs.Tryz.f135.body.getD .skip) (fin Go.Proofs.Tryz.prog [.tmp 4] Q) ⟨prm 0 ds, os, nx⟩) : va Go.Proofs.Tryz.prog 135 ds os nx Q :=
  ya hT.toS (fn := Go.Proofs.Tryz.f135) gbm (by kernel_rfl) rfl rfl (by kernel_rfl) rfl hl rfl h
abbrev jbQ : Nat → Option (List Nat) := lvL [(0, [0]), (1, [2])]
theorem vcu {T : Tab} (hT : za Go.Proofs.Tryz.prog T) {ds : List D} {os : List (Nat × Ob)} {nx : Nat} {Q : D → List (Nat × Ob) → Nat → Prop} (hl : ds.length ≤ 6) (h : awp Go.Proofs.Tryz.prog T 6 nx jbQ (Go.Proofs.Tryz.f136.body.getD .skip) (fin Go.Proofs.Tryz.prog [.tmp 2] Q) ⟨prm 0 ds, os, nx⟩) : va Go.Proofs.Tryz.prog 136 ds os nx Q :=
  ya hT.toS (fn := Go.Proofs.Tryz.f136) jbQ (by kernel_rfl) rfl rfl (by kernel_rfl) rfl hl rfl h
abbrev qbA : Nat → Option (List Nat) := lvL [(0, [0, 1]), (1, [0, 1, 7, 8]), (2, [0, 1, 7, 8, 9]), (3, [0, 1, 5, 7, 8]), (4, [0, 1, 5, 7, 8, 16]), (5, [4]), (6, [0, 1, 7, 8]), (7, [4])]
theorem ucD {T : Tab} (hT : za Go.Proofs.Tryz.prog T) {ds : List D} {os : List (Nat × Ob)} {nx : Nat} {Q : D → List (Nat × Ob) → Nat → Prop} (hl : ds.length ≤ 19) (h : awp Go.Proofs.Tryz.prog T 19 nx qbA (Go.Proofs.Tryz.f138.body.getD .skip) (fin Go.Proofs.Tryz.prog [.tmp 4] Q) ⟨prm 0 ds, os, nx⟩) : va Go.Proofs.Tryz.prog 138 ds os nx Q :=
  ya hT.toS (fn := Go.Proofs.Tryz.f138) qbA (by kernel_rfl) rfl rfl (by kernel_rfl) rfl hl rfl h
abbrev wbN : Nat → Option (List Nat) := lvL [(0, [1, 2]), (1, [3])]
theorem ycs {T : Tab} (hT : za Go.Proofs.Tryz.prog T) {ds : List D} {os : List (Nat × Ob)} {nx : Nat} {Q : D → List (Nat × Ob) → Nat → Prop} (hl : ds.length ≤ 8) (h : awp Go.Proofs.Tryz.prog T 8 nx wbN (Go.Proofs.Tryz.f139.body.getD .skip) (fin Go.Proofs.Tryz.prog [.tmp 3] Q) ⟨prm 0 ds, os, nx⟩) : va Go.Proofs.Tryz.prog 139 ds os nx Q :=
  ya hT.toS (fn := Go.Proofs.Tryz.f139) wbN (by kernel_rfl) rfl rfl (by kernel_rfl) rfl hl rfl h
abbrev bb1 : Nat → Option (List Nat) := lvL [(0, [0]), (1, [2])]
theorem kcD {T : Tab} (hT : za Go.Proofs.Tryz.prog T) {ds : List D} {os : List (Nat × Ob)} {nx : Nat} {Q : D → List (Nat × Ob) → Nat → Prop} (hl : ds.length ≤ 6) (h : awp Go.Proofs.Tryz.prog T 6 nx bb1 (Go.Proofs.Tryz.f143.body.getD .skip) (fin Go.Proofs.Tryz.prog [.tmp 2] Q) ⟨prm 0 ds, os, nx⟩) : va Go.Proofs.Tryz.prog 143 ds os nx Q :=
  ya hT.toS (fn := Go.Proofs.Tryz.f143) bb1 (by kernel_rfl) rfl rfl (by kernel_rfl) rfl hl rfl h
abbrev jbN : Nat → Option (List Nat) := lvL [(0, [0, 1, 2]), (1, [0, 1, 2]), (2, [0, 1, 2, 16]), (3, [6]), (4, [0, 1, 2, 7]), (5, [0, 7]), (6, [0]), (7, [6])]
@[go_sem] def vaU : List Nat := [0, 0, 3, 0, 0, 24, 63, 127]
theorem wbP {T : Tab} (hT : za Go.Proofs.Tryz.prog T) {ds : List D} {os : List (Nat × Ob)} {nx : Nat} {Q : D → List (Nat × Ob) → Nat → Prop} (hl : ds.length ≤ 33) (h : awp Go.Proofs.Tryz.prog T 33 nx jbN (Go.Proofs.Tryz.f147.body.getD .skip) (fin Go.Proofs.Tryz.prog [.tmp 6] Q) ⟨prm 0 ds, os, nx⟩) : va Go.Proofs.Tryz.prog 147 ds os nx Q :=
  ya hT.toS (fn := Go.Proofs.Tryz.f147) jbN (by kernel_rfl) rfl rfl (by kernel_rfl) rfl hl rfl h
end Dm
namespace Dm
open Go
section
variable {P : Program} {g g' : G} {w w' : World}
def Grown (z : Nat) (e : TypeId) (els : List (List C)) (d : D) (os : List (Nat × Ob)) : Prop := ∃ k, d = .vec k els.length ∧ lk k os = some (.vec true z e els)
theorem va.grow {f : FuncId} {i j nx m n : Nat} {os : List (Nat × Ob)} {z e : Nat} {h1 h2 : Bool} {A B E : List (List C)} {mid : List D} {Q : D → List (Nat × Ob) → Nat → Prop}
    (h : va P f (.vec 0 n :: mid ++ [.vec 1 m]) [(1, .vec h2 z e B), (0, .vec h1 z e A)] 2 fun d os' _ => Grown z e E d os')
    (hi : lk i os = some (.vec h1 z e A)) (hj : lk j os = some (.vec h2 z e B)) (hne : i ≠ j) (hn : A.length < E.length) (hmid : ∀ d ∈ mid, ∀ g g' w v, ga g w v d → ga g' w v d)
    (hQ : Q (.vec i E.length) ((i, .vec true z e E) :: rmv os [i, j]) nx) : va P f (.vec i n :: mid ++ [.vec j m]) os nx Q := by
  refine ⟨h.1, fun g w vs ho hsz hv => ?_⟩
  have hib := ho.lt hi
  have hjb := ho.lt hj
  let g0 : G := ⟨fun _ => none, fun k => if k = 0 then g.κ i else if k = 1 then g.κ j else none, g.I⟩
  have hoi := ho.ok i _ hi
  have hoj := ho.ok j _ hj
  have hk0 : g0.κ 0 = g.κ i := rfl
  have hk1 : g0.κ 1 = g.κ j := rfl
  have hlk0 : ∀ id o, lk id [(1, Ob.vec h2 z e B), (0, Ob.vec h1 z e A)] = some o → (id = 0 ∧ o = .vec h1 z e A) ∨ (id = 1 ∧ o = .vec h2 z e B) := fun id o h => by
    simp only [vb] at h
    split at h
    · rename_i hid; cases h; exact .inr ⟨hid, rfl⟩
    · split at h
      · rename_i hid; cases h; exact .inl ⟨hid, rfl⟩
      · cases h
  have hb0 : ∀ o : Ob, (∃ hd z e els, o = .vec hd z e els) → g0.blk 0 o = g.blk i o := fun o ⟨hd, z, e, els, ho⟩ => by subst ho; rfl
  have hb1 : ∀ o : Ob, (∃ hd z e els, o = .vec hd z e els) → g0.blk 1 o = g.blk j o := fun o ⟨hd, z, e, els, ho⟩ => by subst ho; rfl
  have hown0 : ∀ b, Own g0 ⟨[], [(1, .vec h2 z e B), (0, .vec h1 z e A)], 2⟩ b → g.blk i (.vec h1 z e A) = some b ∨ g.blk j (.vec h2 z e B) = some b := fun b ⟨id, o, h3, h4⟩ => by
    rcases hlk0 id o h3 with ⟨rfl, rfl⟩ | ⟨rfl, rfl⟩
    · exact .inl h4
    · exact .inr h4
  have hownG : ∀ b, Own g0 ⟨[], [(1, .vec h2 z e B), (0, .vec h1 z e A)], 2⟩ b → Own g ⟨[], os, nx⟩ b := fun b h => (hown0 b h).elim (fun h => ⟨i, _, hi, h⟩) fun h => ⟨j, _, hj, h⟩
  have ho0 : uj g0 ⟨[], [(1, .vec h2 z e B), (0, .vec h1 z e A)], 2⟩ w := by
    refine ⟨fun id o h => ?_, fun id o id' o' b h3 h4 h5 h6 => ?_, fun id hid => ?_, fun b hb => ⟨(ho.imm b hb).1, fun h => (ho.imm b hb).2 (hownG b h)⟩, ho.cel⟩
    · rcases hlk0 id o h with ⟨rfl, rfl⟩ | ⟨rfl, rfl⟩
      · exact hoi
      · exact hoj
    · rcases hlk0 id o h3 with ⟨rfl, rfl⟩ | ⟨rfl, rfl⟩ <;> rcases hlk0 id' o' h4 with ⟨rfl, rfl⟩ | ⟨rfl, rfl⟩
      · rfl
      · exact absurd (ho.apart i _ j _ b hi hj h5 h6) hne
      · exact absurd (ho.apart i _ j _ b hi hj h6 h5) hne
      · rfl
    · have hid' : 2 ≤ id := hid
      refine ⟨rfl, ?_⟩
      show (if id = 0 then g.κ i else if id = 1 then g.κ j else none) = none
      rw [if_neg (by omega), if_neg (by omega)]
  have hvec : ∀ {k k' m : Nat} {v : Value}, g0.κ k' = g.κ k → ga g w v (.vec k m) → ga g0 w v (.vec k' m) := fun {k k' m v} hk hv => by
    cases hv with
    | vec a' cap' _ _ a0 len cap hkk hle hm ha hvq => exact .vec _ _ _ _ a0 len cap (by rw [hk]; exact hkk) hle hm ha hvq
  have hv0 : ∀ (k : Nat) (v : Value) (d : D), vs[k]? = some v → (D.vec 0 n :: mid ++ [.vec 1 m])[k]? = some d → ga g0 w v d := fun k v d hk hd => by
    have hlen : (D.vec i n :: mid ++ [D.vec j m]).length = mid.length + 2 := by simp
    rcases k with _ | k
    · simp at hd; subst hd
      exact hvec hk0 (hv 0 v _ hk (by simp))
    · simp only [List.cons_append, List.getElem?_cons_succ] at hd
      rw [List.getElem?_append] at hd
      split at hd
      · rename_i hlt
        have := hv (k + 1) v d hk (by simp only [List.cons_append, List.getElem?_cons_succ]; rw [List.getElem?_append_left hlt]; exact hd)
        exact hmid d (List.mem_of_getElem? hd) _ _ _ _ this
      · rename_i hlt
        have hk' : k = mid.length := by
          have := (List.getElem?_eq_some_iff.1 hd).1
          simp at this; omega
        subst hk'
        simp at hd; subst hd
        exact hvec hk1 (hv (mid.length + 1) v _ hk (by simp))
  refine (h.2 g0 w vs ho0 (by simpa using hsz) hv0).mono ?_
  rintro ex w' ⟨v, d, g', os', nx', rfl, ⟨k, rfl, hk⟩, hro, hvr, hst⟩
  have hok := hro.ok k _ hk
  obtain ⟨a2, cap2, h6, h7, h8, h9, h10⟩ := hok
  let g2 : G := ⟨g.ρ, fun id => if id = i then some (a2, E.length, cap2) else g.κ id, g'.I⟩
  have h2i : g2.κ i = g'.κ k := by show (if i = i then _ else _) = _; rw [if_pos rfl, h6]
  have h2o : ∀ id, id ≠ i → g2.κ id = g.κ id := fun id hid => if_neg hid
  obtain ⟨a1, cap1, hi1, hi2⟩ := hoi
  have hle : g.Le g2 := by
    refine ⟨fun _ _ h => h, fun id x l c hid => ?_, fun b hb => hst.le.I b hb⟩
    by_cases hii : id = i
    · subst hii
      rw [hi1] at hid
      cases hid
      exact ⟨a2, E.length, cap2, by rw [h2i, h6], by omega, fun e => by omega⟩
    · exact ⟨x, l, c, by rw [h2o id hii]; exact hid, Nat.le_refl _, fun _ => ⟨rfl, rfl⟩⟩
  have hin : ∀ id o, lk id ((i, Ob.vec true z e E) :: rmv os [i, j]) = some o → (id = i ∧ o = .vec true z e E) ∨ (id ≠ i ∧ id ≠ j ∧ lk id os = some o) := fun id o h => by
    simp only [vb, jaj] at h
    split at h
    · rename_i hid; cases h; exact .inl ⟨hid, rfl⟩
    · rename_i hid
      split at h
      · cases h
      · rename_i hid2
        simp at hid2
        exact .inr ⟨hid, hid2.2, h⟩
  have hblko : ∀ id o, id ≠ i → g2.blk id o = g.blk id o := fun id o hid => by
    cases o with
    | box cs => rfl
    | map _ _ => rfl
    | it _ _ => rfl
    | vec _ _ _ _ => simp only [G.blk, h2o id hid]
  have hblki : ∀ b, g2.blk i (.vec true z e E) = some b → g'.blk k (.vec true z e E) = some b := fun b hb => by
    simp only [G.blk, h2i] at hb ⊢
    exact hb
  -- a block of one of the others is not one of these two
  have hrest : ∀ id o b, id ≠ i → id ≠ j → lk id os = some o → g.blk id o = some b → b < w.heap.size ∧ ¬ Own g0 ⟨[], [(1, .vec h2 z e B), (0, .vec h1 z e A)], 2⟩ b := fun id o b h11 h12 h13 h14 => by
    refine ⟨(ho.ok id o h13).lt.1 b h14, fun h15 => ?_⟩
    rcases hown0 b h15 with h16 | h16
    · exact h11 (ho.apart id o i _ b h13 hi h14 h16)
    · exact h12 (ho.apart id o j _ b h13 hj h14 h16)
  have hnew : ∀ b, g'.blk k (.vec true z e E) = some b → Own g' ⟨[], os', nx'⟩ b := fun b hb => ⟨k, _, hk, hb⟩
  have hownN : ∀ b, Own g2 ⟨[], (i, .vec true z e E) :: rmv os [i, j], nx⟩ b → Own g' ⟨[], os', nx'⟩ b ∨ Own g ⟨[], os, nx⟩ b ∧ b < w.heap.size ∧ ¬ Own g0 ⟨[], [(1, .vec h2 z e B), (0, .vec h1 z e A)], 2⟩ b := fun b ⟨id, o, h11, h12⟩ => by
    rcases hin id o h11 with ⟨rfl, rfl⟩ | ⟨h13, h14, h15⟩
    · exact .inl (hnew b (hblki b h12))
    · rw [hblko id o h13] at h12
      exact .inr ⟨⟨id, o, h15, h12⟩, hrest id o b h13 h14 h15 h12⟩
  have hkeep : vo g.I w w' := fun b hb => hst.same b (ho.imm b hb).1 fun h => (ho.imm b hb).2 (hownG b h)
  have himm : ∀ b, b < w.heap.size → ¬ Own g ⟨[], os, nx⟩ b → g'.I b → g.I b := fun b hb hno hi' => hst.imm b hb (fun h => hno (hownG b h)) hi'
  refine ⟨v, _, g2, _, nx, rfl, hQ, ⟨fun id o h => ?_, fun id o id' o' b h11 h12 h13 h14 => ?_, fun id hid => ?_, fun b hb => ⟨(hro.imm b hb).1, fun h => ?_⟩, hro.cel⟩, ?_, ⟨hle, hst.size, fun b hb hno => hst.same b hb fun h => hno (hownG b h), fun b hb hno h => ?_, himm, hst.env⟩⟩
  · rcases hin id o h with ⟨rfl, rfl⟩ | ⟨h11, h12, h13⟩
    · exact ⟨a2, cap2, by rw [h2i, h6], h7, h8, h9, h10⟩
    · exact (ho.ok id o h13).mono hkeep hle (fun b hb => hst.same b (hrest id o b h11 h12 h13 hb).1 (hrest id o b h11 h12 h13 hb).2) (h2o id h11)
  · have key : ∀ id o b, id ≠ i → id ≠ j → lk id os = some o → g.blk id o = some b → g'.blk k (.vec true z e E) = some b → False := fun id o b h15 h16 h17 h18 h19 => by
      have := hrest id o b h15 h16 h17 h18
      exact hst.own b this.1 this.2 (hnew b h19)
    rcases hin id o h11 with ⟨rfl, rfl⟩ | ⟨h15, h16, h17⟩ <;> rcases hin id' o' h12 with ⟨rfl, rfl⟩ | ⟨h18, h19, h20⟩
    · rfl
    · rw [hblko id' o' h18] at h14
      exact (key id' o' b h18 h19 h20 h14 (hblki b h13)).elim
    · rw [hblko id o h15] at h13
      exact (key id o b h15 h16 h17 h13 (hblki b h14)).elim
    · rw [hblko id o h15] at h13
      rw [hblko id' o' h18] at h14
      exact ho.apart id o id' o' b h17 h20 h13 h14
  · have := ho.fresh id hid
    have h20 : nx ≤ id := hid
    have h21 : i < nx := hib
    have hne' : id ≠ i := by omega
    exact ⟨this.1, by rw [h2o id hne']; exact this.2⟩
  · rcases hownN b h with h11 | ⟨h11, h12, h13⟩
    · exact (hro.imm b hb).2 h11
    · exact (ho.imm b (hst.imm b h12 h13 hb)).2 h11
  · cases hvr with
    | vec a' cap' _ _ a0 len cap hkk hle' hm ha hvq => exact .vec _ _ _ _ a0 len cap (by rw [h2i]; exact hkk) hle' hm ha hvq
  · rcases hownN b h with h11 | ⟨h11, _⟩
    · exact hst.own b hb (fun h => hno (hownG b h)) h11
    · exact hno h11
end
end Dm
namespace Dm
open Go
section
variable {κ : Type} [DecidableEq κ]
def alk (a : κ) : List (κ × Int) → Option Int
  | [] => none
  | (x, y) :: l => if x = a then some y else alk a l
def gbD (a : κ) (b : Int) : List (κ × Int) → List (κ × Int)
  | [] => [(a, b)]
  | (x, y) :: l => if x = a then (x, b) :: l else (x, y) :: gbD a b l
theorem uaz {a k : κ} {b : Int} : ∀ {l : List (κ × Int)}, alk k (gbD a b l) = if k = a then some b else alk k l
  | [] => by
    simp only [gbD, alk]
    by_cases h : a = k
    · rw [if_pos h, if_pos h.symm]
    · rw [if_neg h, if_neg (fun e => h e.symm)]
  | (x, y) :: l => by
    rw [gbD]
    by_cases hx : x = a
    · subst hx
      rw [if_pos rfl, alk, alk]
      by_cases h : x = k
      · rw [if_pos h, if_pos h.symm]
      · rw [if_neg h, if_neg (fun e => h e.symm), if_neg h]
    · rw [if_neg hx, alk, alk, uaz]
      by_cases h : x = k
      · rw [if_pos h, if_pos h]
        subst h
        rw [if_neg hx]
      · rw [if_neg h, if_neg h]
end
abbrev K3 := Nat × Nat × Nat
def kv3 (l : List (K3 × Int)) : List (List C × D) := l.map fun x => ([.int .u64 x.1.1, .int .u64 x.1.2.1, .int .u64 x.1.2.2], .int .i64 x.2)
theorem uaO {a b c : Nat} : ∀ {l : List (K3 × Int)}, mlk [.int .u64 (a : Int), .int .u64 (b : Int), .int .u64 (c : Int)] (kv3 l) = (alk (a, b, c) l).map fun b => .int .i64 b
  | [] => rfl
  | ((x, y, z), v) :: l => by
    show mlk _ (([.int .u64 (x : Int), .int .u64 (y : Int), .int .u64 (z : Int)], _) :: kv3 l) = _
    rw [mlk, alk]
    by_cases h : (x, y, z) = (a, b, c)
    · rw [if_pos h]; cases h; rw [if_pos rfl]; rfl
    · rw [if_neg h, if_neg, uaO]
      intro e
      simp only [List.cons.injEq, C.int.injEq, true_and, and_true, Int.natCast_inj] at e
      exact h (by rw [e.1, e.2.1, e.2.2])
attribute [go_sem] uaO
theorem gaB {a b c : Nat} {v : Int} : ∀ {l : List (K3 × Int)}, j5 [.int .u64 (a : Int), .int .u64 (b : Int), .int .u64 (c : Int)] (.int .i64 v) (kv3 l) = kv3 (gbD (a, b, c) v l)
  | [] => rfl
  | ((x, y, z), u) :: l => by
    show j5 _ _ (([.int .u64 (x : Int), .int .u64 (y : Int), .int .u64 (z : Int)], _) :: kv3 l) = _
    rw [j5, gbD]
    by_cases h : (x, y, z) = (a, b, c)
    · rw [if_pos h]; cases h; rw [if_pos rfl]; rfl
    · rw [if_neg h, if_neg, gaB]
      · rfl
      · intro e
        simp only [List.cons.injEq, C.int.injEq, true_and, and_true, Int.natCast_inj] at e
        exact h (by rw [e.1, e.2.1, e.2.2])
attribute [go_sem] gaB
@[go_sem] theorem vcB {N : Nat} {l : List (K3 × Int)} : zbH N (kv3 l) = true := by
  simp [zbH, kv3, D.gbg, D.waZ, D.ba7]
@[go_sem] theorem jch : ∀ {l : List (K3 × Int)}, (kv3 l).map (·.2) = l.map fun x => D.int .i64 x.2 := by
  intro l; simp [kv3]
@[go_sem] theorem kaS {α : Type} {k : IntKind} {f : α → Int} : ∀ {l : List α}, vk (l.map fun x => D.int k (f x)) = []
  | [] => rfl
  | x :: l => by
    rw [List.map_cons, vk, kaS]; rfl
@[go_sem] theorem bau {key : List C} {k : IntKind} {n : Int} : ∀ {kv : List (List C × D)}, vk ((yq key (.int k n) kv).map (·.2)) = vk (kv.map (·.2))
  | [] => rfl
  | (k', d) :: l => by
    rw [yq]
    split
    · rfl
    · rw [List.map_cons, List.map_cons, vk, vk, bau]
attribute [go_sem] yap
@[go_sem] theorem ycF {k : List C} {kv : List (List C × D)} : (0 ≤ ((mpos k kv : Nat) : Int)) = True := eq_true (by omega)
@[go_sem] theorem zcH {k : List C} {z : D} {kv : List (List C × D)} : (((mpos k kv : Nat) : Int) < (((yq k z kv).length : Nat) : Int)) = True := eq_true (by have := xaT (k := k) (z := z) (kv := kv); omega)
@[go_sem] theorem ycr {o : Option Int} : (o.map fun b => D.int .i64 b).getD (.int .i64 0) = .int .i64 (o.getD 0) := by cases o <;> rfl
@[go_sem] theorem wcn {P : Program} {s : St} : rdD P s [] = some (.tup []) := rfl
@[go_sem] theorem ydj {P : Program} {s : St} {r r' r'' r3 : ResultVar} : rdD P s [r, r', r'', r3] = match rd1 P s r, rd1 P s r', rd1 P s r'', rd1 P s r3 with | some x, some y, some z, some u => some (.tup [x, y, z, u]) | _, _, _, _ => none := by
  unfold rdD rds rds rds rds rds
  cases rd1 P s r <;> cases rd1 P s r' <;> cases rd1 P s r'' <;> cases rd1 P s r3 <;> rfl
theorem za2 {o : Option Int} {d : Option Nat} {s : St} {K : St → Prop} : okL (some (o.map fun b => D.int .i64 b, D.int .i64 0)) false d s K = K (s.put d (.int .i64 (o.getD 0))) := by
  cases o <;> rfl
end Dm
namespace Dm
open Go
def mrk (D : Nat) : Deferred := { target := .collected D, args := #[] }
section
variable {δ : List Deferred} {P : Program} {T : Tab} {g g' g'' : G} {s s' s'' : St} {a : Act} {w w' w'' : World} {n N : Nat}

def SWm (P : Program) (n N : Nat) (c : Code) (Q : Exit → St → Prop) (s : St) : Prop :=
  ∀ (δ : List Deferred) (g : G) (a : Act) (w : World), Rel δ g s a w → a.tmps.size = n →
    c.wp P (fun e a' w' => ∃ (Ds : List Nat) (g' : G) (s' : St), Q e s' ∧ Rel (Ds.map mrk ++ δ) g' s' a' w' ∧ (∀ D ∈ Ds, w.heap.size ≤ D ∧ w'.heap[D]? = some (.deferred (some []))) ∧ Ds.Nodup ∧ a'.tmps.size = n ∧ vh N g s w g' s' w') a w

theorem SWm.of {c : Code} {Q : Exit → St → Prop} (h : SWp P n N c Q s) : SWm P n N c Q s := fun δ g a w hr hn =>
  wp_mono (h δ g a w hr hn) fun e a' w' ⟨g', s', h1, h2, h3, h4⟩ => ⟨[], g', s', h1, h2, fun D hD => (by cases hD), List.nodup_nil, h3, h4⟩

theorem vh.other (h : vh N g s w g' s' w') (ho : uj g s w) {D : Nat} {o : Obj} (hD : w.heap[D]? = some o) (hc : kD o = false) : w'.heap[D]? = some o := by
  rw [h.same D (Array.getElem?_eq_some_iff.1 hD).1 fun hown => ?_, hD]
  obtain ⟨o', h1, h2⟩ := Own.cel ho hown
  rw [h1] at hD
  cases hD
  rw [hc] at h2
  cases h2

theorem SWm.seq {x y : Code} {Q : Exit → St → Prop} (h : SWm P n N x (sq (SWm P n N y Q) Q) s) : SWm P n N (.seq x y) Q s := fun δ g a w hr hn => by
  refine wp_seq (wp_mono (h δ g a w hr hn) fun e a' w' ⟨Ds, g', s', h1, h2, h3, h4, h5, h6⟩ => ?_)
  cases e with
  | normal =>
    refine wp_mono (h1 _ g' a' w' h2 h5) fun e a'' w'' ⟨Ds', g'', s'', h7, h8, h9, h10, h11, h12⟩ => ?_
    refine ⟨Ds' ++ Ds, g'', s'', h7, by simpa using h8, fun D hD => ?_, ?_, h11, h6.trans h12⟩
    · rcases List.mem_append.1 hD with hD | hD
      · exact ⟨Nat.le_trans h6.size (h9 D hD).1, (h9 D hD).2⟩
      · exact ⟨(h3 D hD).1, h12.other h2.o (h3 D hD).2 rfl⟩
    · refine List.nodup_append.2 ⟨h10, h4, fun D hD D' hD' e => ?_⟩
      subst e
      have := (h9 D hD).1
      have := (Array.getElem?_eq_some_iff.1 (h3 D hD').2).1
      omega
  | _ => exact ⟨Ds, g', s', h1, h2, h3, h4, h5, h6⟩

theorem SWm.block {id : Nat} {c : Code} {Q : Exit → St → Prop} (h : SWm P n N c (bl id Q) s) : SWm P n N (.block id c) Q s := fun δ g a w hr hn => by
  refine wp_block (wp_mono (h δ g a w hr hn) fun e a' w' ⟨Ds, g', s', h1, h2, h3, h4, h5, h6⟩ => ?_)
  cases e with
  | exit i =>
    simp only [bl] at h1
    simp only [Exit.inBlock]
    split
    · rename_i hi
      rw [if_pos hi] at h1
      exact ⟨Ds, g', s', h1, h2, h3, h4, h5, h6⟩
    · rename_i hi
      rw [if_neg hi] at h1
      exact ⟨Ds, g', s', h1, h2, h3, h4, h5, h6⟩
  | _ => exact ⟨Ds, g', s', h1, h2, h3, h4, h5, h6⟩

theorem SWm.mono {c : Code} {Q Q' : Exit → St → Prop} (h : SWm P n N c Q s) (hq : ∀ e s', Q e s' → Q' e s') : SWm P n N c Q' s :=
  fun δ g a w hr hn => wp_mono (h δ g a w hr hn) fun e a' w' ⟨Ds, g', s', h1, h2⟩ => ⟨Ds, g', s', hq e s' h1, h2⟩

theorem Ext.grown (h : Ext w w') : w.grownBy w' none := ⟨h.2.2.os, h.2.2.tape, h.2.2.out, h.1, fun k hk _ => h.2.1 k hk⟩

theorem uj.grown {row : Option Nat} (ho : uj g s w) (hg : w.grownBy w' row) (hrow : ∀ r, row = some r → ∃ o : Obj, w.heap[r]? = some o ∧ kD o = false) : uj g s w' := by
  have hcel : ∀ b, Cel w b → w'.heap[b]? = w.heap[b]? := fun b hb => hg.block b hb.lt fun e => by
    obtain ⟨o, h1, h2⟩ := hrow b e.symm
    obtain ⟨o', h3, h4⟩ := hb
    rw [h3] at h1
    cases h1
    rw [h4] at h2
    cases h2
  have hk : vo g.I w w' := fun b hb => hcel b (ho.cel b hb)
  exact ⟨fun id o h => (ho.ok id o h).mono hk (.refl g) (fun b hb => hcel b (Own.cel ho ⟨id, o, h, hb⟩)) rfl, ho.apart, ho.fresh, fun b hb => ⟨Nat.lt_of_lt_of_le (ho.imm b hb).1 hg.size, (ho.imm b hb).2⟩, fun b hb => (ho.cel b hb).keep (hcel b (ho.cel b hb))⟩
theorem Rel.grown {row : Option Nat} (hr : Rel δ g s a w) (hg : w.grownBy w' row) (hrow : ∀ r, row = some r → ∃ o : Obj, w.heap[r]? = some o ∧ kD o = false) : Rel δ g s a w' := by
  have hk : vo g.I w w' := fun b hb => hg.block b (hr.o.cel b hb).lt fun e => by
    obtain ⟨o, h1, h2⟩ := hrow b e.symm
    obtain ⟨o', h3, h4⟩ := hr.o.cel b hb
    rw [h3] at h1
    cases h1
    rw [h4] at h2
    cases h2
  exact ⟨fun t d ht => let ⟨v, h1, h2⟩ := hr.tm t d ht; ⟨v, h1, h2.mono hk (.refl g)⟩, hr.defers, hr.o.grown hg hrow⟩
theorem vh.grown {row : Option Nat} (h : vh N g s w g' s' w') (hg : w'.grownBy w'' row) (hd : w'.drawn ≤ w''.drawn) (hrow : ∀ r, row = some r → w.heap.size ≤ r) : vh N g s w g' s' w'' :=
  ⟨h.ρ, h.κ, h.I, Nat.le_trans h.size hg.size, fun b hb ho => (hg.block b (Nat.lt_of_lt_of_le hb h.size) fun e => by have := hrow b e.symm; omega).trans (h.same b hb ho), h.own, h.imm, h.env.trans ⟨hg.os, hg.output, hg.tape, hd⟩⟩

theorem vh.less {M : Nat} (hNM : N ≤ M) (h : vh M g s w g' s' w') : vh N g s w g' s' w' :=
  ⟨fun id b hi => h.ρ id b (by omega), fun id a l c hi => h.κ id a l c (by omega), h.I, h.size, h.same, h.own, h.imm, h.env⟩
def bdf (P : Program) (gf : FuncId) (lb : Array Value) (I : Nat → Prop) {m : Nat} (ys : Fin m → List D) (order : List (Fin m)) (w : World) : Prop :=
  ∀ (l : Nat) (J Jx : List (Fin m) → World → Prop) (W : World), RowKit.Below w.heap.size w W → (∀ pre A B, J pre A → Ext A B → J pre B) → (∀ pre A B, Jx pre A → Ext A B → Jx pre B) →
    (∀ pre x (vs : Array Value) W1, J pre W1 → pre.length < m → vs.size = (ys x).length → (∀ (j : Nat) (v : Value) (d : D), vs[j]? = some v → (ys x)[j]? = some d → ga (G0 I) W1 v d) → YieldAt Fence.wide 3 P l vs W1 fun e W' =>
      (e = .returned (.bool true) ∧ J (pre ++ [x]) W' ∧ ∀ b, I b → Cel W1 b → W'.heap[b]? = W1.heap[b]?) ∨ (e = .returned (.bool false) ∧ Jx (pre ++ [x]) W')) →
    J [] W → CallsIn Fence.wide 4 P gf (#[.func (.yield l) #[] #[]] ++ lb) W fun e W' => (∃ v, e = .returned v) ∧ ((∃ xs, xs = order ∧ J xs W') ∨ (∃ pre, pre <+: order ∧ Jx pre W'))
def yah (P : Program) (gf : FuncId) (caps : List D) {m : Nat} (ys : Fin m → List D) (order : List (Fin m)) : Prop :=
  (∀ (args : Array Value) (w : World), (callFunc gf args).run P w = .ok (.enter gf args) w) ∧ ∀ (I : Nat → Prop) (w : World) (lb : Array Value), (∀ b, I b → Cel w b) → lb.size = caps.length → (∀ (i : Nat) (v : Value) (d : D), lb[i]? = some v → caps[i]? = some d → ga (G0 I) w v d) →
    bdf P gf lb I ys order w

def bat : List Nat → List D → List (Nat × D) → List (Nat × D)
  | p :: l, d :: ds, tm => bat l ds ((p, d) :: tm)
  | _, _, tm => tm
def asg (A : St → Prop) : Exit → St → Prop
  | .normal, s => A s
  | _, _ => False
def rfp (Q : Exit → St → Prop) (s : St) (A : St → Prop) (pfx : Prop) : Exit → St → Prop
  | .normal, s' => A s'
  | .ret, s' => pfx → Q .ret ⟨s.tm, s'.os, s'.nx⟩
  | .exit i, s' => pfx → Q (.exit i) ⟨s.tm, s'.os, s'.nx⟩
  | _, _ => False

theorem jal {δ' : List Deferred} {w : World} : ∀ (ps : List Nat) (ds : List D) (vs : List Value) {tm : List (Nat × D)} {os : List (Nat × Ob)} {nx : Nat} {a : Act}, Rel δ' g ⟨tm, os, nx⟩ a w → vs.length = ds.length → (∀ p ∈ ps, p < a.tmps.size) →
    (∀ (j : Nat) (v : Value) (d : D), vs[j]? = some v → ds[j]? = some d → ga g w v d) →
    Rel δ' g ⟨bat ps ds tm, os, nx⟩ { tmps := (ps.zip vs).foldl (fun t (p, v) => t.setIfInBounds p v) a.tmps, defers := a.defers } w ∧ ((ps.zip vs).foldl (fun t (p, v) => t.setIfInBounds p v) a.tmps).size = a.tmps.size
  | [], ds, vs, tm, os, nx, a, hr, _, _, _ => ⟨by simpa [bat] using hr, rfl⟩
  | p :: ps, [], [], tm, os, nx, a, hr, _, _, _ => ⟨by simpa [bat] using hr, rfl⟩
  | p :: ps, d :: ds, v :: vs, tm, os, nx, a, hr, hl, hp, hv => by
    have h1 : Rel δ' g ⟨(p, d) :: tm, os, nx⟩ (a.put (some p) v) w := hr.put (some p) (hv 0 v d rfl rfl) (fun x hx => by cases hx; exact hp p (by simp))
    have h2 := jal ps ds vs (a := a.put (some p) v) h1 (by simpa using hl) (fun q hq => by rw [qe]; exact hp q (by simp [hq])) (fun j u e hu he => hv (j + 1) u e (by simpa using hu) (by simpa using he))
    refine ⟨?_, ?_⟩
    · have := h2.1
      simpa [bat, Act.put] using this
    · have := h2.2
      rw [qe] at this
      simpa [Act.put] using this

def kcd : Code → Option Exit
  | .ret => some .ret
  | .exit i => some (.exit i)
  | _ => none

def D.xY : D → Bool
  | .c _ => true
  | .rp _ => true
  | _ => false
theorem ga.qdd {v : Value} {d : D} (hd : d.xY = true) (h : ga g w v d) : ga (G0 g.I) w v d := by
  cases d <;> simp only [D.xY, Bool.false_eq_true] at hd
  case c x => cases h with | c _ _ h => exact .c _ _ h
  case rp cs => cases h with | rp b off _ vs hI hc => exact .rp b off cs vs hI hc

theorem SWm.rangeFunc (hT : zaK P T) (lv : Nat → Option (List Nat)) {gop : Operand} {ps : Array Tmp} {assign body : Code} {Q : Exit → St → Prop} {gf : FuncId} {caps : List D} (hev : s.ev gop = .fn (.func gf) [] caps) (hcaps : ∀ d ∈ caps, d.xY = true)
    {m : Nat} {ys : Fin m → List D} {order : List (Fin m)} (hit : yah P gf caps ys order) (O : List (Fin m) → List (Nat × Ob)) (ok : List (Fin m) → Prop)
    (hps : ∀ x, (ys x).length = ps.size) (hpn : ∀ p ∈ ps.toList, p < n) (hN : N ≤ s.nx)
    (ha1 : uH assign = true) (ha2 : qB n assign = true) (hb1 : uH body = true) (hb2 : qB n body = true)
    (h0 : ok [] ∧ Sub s.nx s ⟨s.tm, O [], s.nx⟩)
    (hround : ∀ pre x, ok pre → pre.length < m → awp P T n s.nx lv assign (asg fun s1 =>
      awp P T n s.nx lv body (rfp Q s (fun s' => ok (pre ++ [x]) ∧ Sub s.nx ⟨s.tm, s'.os, s'.nx⟩ ⟨s.tm, O (pre ++ [x]), s.nx⟩) (pre ++ [x] <+: order)) s1) ⟨bat ps.toList (ys x) s.tm, O pre, s.nx⟩)
    (hdone : ok order → Q .normal ⟨s.tm, O order, s.nx⟩) : SWm P n N (.rangeFunc gop ps assign body) Q s := by
  intro δ g a w hr hn
  have hg := hr.ev gop
  rw [hev] at hg
  generalize hgv : a.eval gop = gv at hg
  cases hg with
  | fn _ fiv lb _ _ h1 h2 h3 h4 =>
  have hfi : fiv = #[] := by
    apply Array.eq_empty_of_size_eq_zero
    simpa using h1
  subst hfi
  obtain ⟨hent, hit⟩ := hit
  have hseq := hit g.I w lb hr.o.cel h2 fun i v d hv hd => (h4 i v d hv hd).qdd (hcaps d (List.mem_of_getElem? hd))
  have hst0 : ∃ g1, Rel δ g1 ⟨s.tm, O [], s.nx⟩ a w ∧ vh s.nx g s w g1 ⟨s.tm, O [], s.nx⟩ w := ⟨_, hr.sub h0.2⟩
  refine wpIn_wide (n := 5).1 (wpIn_rangeFunc fun fn _ => ?_)
  obtain ⟨rec, hrec⟩ : ∃ rec : LoopState → Option Code → Loop, rec = fun st pe => { state := st, pending := pe, fn, tmps := a.tmps, params := ps, assign, body, defers := w.heap.size } := ⟨_, rfl⟩
  obtain ⟨W1, hW1⟩ : ∃ W1, (w.alloc (.deferred (some []))).alloc (.loop (rec .ready none)) = W1 := ⟨_, rfl⟩
  have hL1 : W1.heap[w.heap.size + 1]? = some (.loop (rec .ready none)) := by
    rw [← hW1]; have := World.alloc_heap_new (w.alloc (.deferred (some []))) (.loop (rec .ready none)); rwa [World.size_alloc] at this
  have hD1 : W1.heap[w.heap.size]? = some (.deferred (some [])) := by
    rw [← hW1]; exact (RowKit.Below.heap_alloc _ _ _ (by simp)).trans (World.alloc_heap_new w _)
  have hb1' : RowKit.Below w.heap.size w W1 := by
    rw [← hW1]; exact ((RowKit.Below.refl _ w).alloc (Nat.le_refl _) _).alloc (by simp) _
  -- what holds between two rounds
  obtain ⟨J, hJ⟩ : ∃ J : List (Fin m) → World → Prop, J = fun pre W => ok pre ∧ ∃ g1, Rel δ g1 ⟨s.tm, O pre, s.nx⟩ a W ∧ vh s.nx g s w g1 ⟨s.tm, O pre, s.nx⟩ W := ⟨_, rfl⟩
  obtain ⟨Jx, hJx⟩ : ∃ Jx : Code → List (Fin m) → World → Prop, Jx = fun c pre W => ∃ (e : Exit) (s' : St) (g1 : G), kcd c = some e ∧ (pre <+: order → Q e ⟨s.tm, s'.os, s'.nx⟩) ∧ Rel δ g1 ⟨s.tm, s'.os, s'.nx⟩ a W ∧ vh s.nx g s w g1 ⟨s.tm, s'.os, s'.nx⟩ W := ⟨_, rfl⟩
  have hJe : ∀ pre W W', J pre W → Ext W W' → J pre W' := by
    intro pre W W' h he
    rw [hJ] at h ⊢
    obtain ⟨h5, g1, h6, h7⟩ := h
    exact ⟨h5, g1, h6.grown he.grown fun r e => (by cases e), h7.grown he.grown he.2.2.drw fun r e => by cases e⟩
  have hJxe : ∀ c pre W W', Jx c pre W → Ext W W' → Jx c pre W' := by
    intro c pre W W' h he
    rw [hJx] at h ⊢
    obtain ⟨e, s', g1, h5, h8, h6, h7⟩ := h
    exact ⟨e, s', g1, h5, h8, h6.grown he.grown fun r e => (by cases e), h7.grown he.grown he.2.2.drw fun r e => by cases e⟩
  have hJg : ∀ pre W W' row, J pre W → W.grownBy W' row → W.drawn ≤ W'.drawn → (∀ r, row = some r → w.heap.size ≤ r ∧ ∃ o : Obj, W.heap[r]? = some o ∧ kD o = false) → J pre W' := by
    intro pre W W' row h hgr hdr hrow
    rw [hJ] at h ⊢
    obtain ⟨h5, g1, h6, h7⟩ := h
    exact ⟨h5, g1, h6.grown hgr fun r e => (hrow r e).2, h7.grown hgr hdr fun r e => (hrow r e).1⟩
  have hJxg : ∀ c pre W W' row, Jx c pre W → W.grownBy W' row → W.drawn ≤ W'.drawn → (∀ r, row = some r → w.heap.size ≤ r ∧ ∃ o : Obj, W.heap[r]? = some o ∧ kD o = false) → Jx c pre W' := by
    intro c pre W W' row h hgr hdr hrow
    rw [hJx] at h ⊢
    obtain ⟨e, s', g1, h5, h8, h6, h7⟩ := h
    exact ⟨e, s', g1, h5, h8, h6.grown hgr fun r e => (hrow r e).2, h7.grown hgr hdr fun r e => (hrow r e).1⟩
  have hput : ∀ (W : World) (o : Obj), W.heap[w.heap.size + 1]? = some o → kD o = false → ∀ r, some (w.heap.size + 1) = some r → w.heap.size ≤ r ∧ ∃ o : Obj, W.heap[r]? = some o ∧ kD o = false := fun W o h h' r e => by cases e; exact ⟨by omega, o, h, h'⟩
  have hW1g : ∀ pre, J pre w → J pre W1 := fun pre h => by
    rw [← hW1]
    exact hJg _ _ _ none (hJg _ _ _ none h (World.grownBy_alloc w _ none) (Nat.le_refl _) (fun r e => by cases e)) (World.grownBy_alloc _ _ none) (Nat.le_refl _) fun r e => by cases e
  refine ⟨w.heap.size + 1, [{ target := .collected w.heap.size, args := #[] }], W1, { target := .fn (.func gf) lb, args := #[.func (.yield (w.heap.size + 1)) #[] #[]] }, W1, gf,
    #[.func (.yield (w.heap.size + 1)) #[] #[]] ++ lb, W1, ?_, ?_, ?_, ?_, fun _ => by omega, ?_⟩
  · rw [← hW1, hrec]; exact run_enterLoop_outer _ _ _ _ _
  · simp only [resolve, hgv]
    simp [go_sem]
  · intro f' _; trivial
  · simp [invoke, go_sem, hent]
  · refine (hseq (w.heap.size + 1)
      (fun pre W => J pre W ∧ W.heap[w.heap.size + 1]? = some (.loop (rec .ready none)) ∧ W.heap[w.heap.size]? = some (.deferred (some [])))
      (fun pre W => ∃ c, Jx c pre W ∧ W.heap[w.heap.size + 1]? = some (.loop (rec .done (some c))) ∧ W.heap[w.heap.size]? = some (.deferred (some [])))
      W1 hb1'
      (fun pre A B hs he => ⟨hJe pre A B hs.1 he, (he.2.1 _ (Array.getElem?_eq_some_iff.1 hs.2.1).1).trans hs.2.1, (he.2.1 _ (Array.getElem?_eq_some_iff.1 hs.2.2).1).trans hs.2.2⟩)
      (fun pre A B hs he => by
        obtain ⟨c, hc, hl, hk⟩ := hs
        exact ⟨c, hJxe c pre A B hc he, (he.2.1 _ (Array.getElem?_eq_some_iff.1 hl).1).trans hl, (he.2.1 _ (Array.getElem?_eq_some_iff.1 hk).1).trans hk⟩)
      ?_ ⟨hW1g _ (by rw [hJ]; exact ⟨h0.1, hst0⟩), hL1, hD1⟩).mono ?_
    · -- one round
      rintro pre x vs W ⟨hj, hl, hk⟩ hlen hvs1 hvs2
      rw [hJ] at hj
      obtain ⟨hok, g1, hr1, hs1⟩ := hj
      have hy := run_yield (P := P) (args := vs) hl (by rw [hrec]; exact hvs1.trans (hps x))
      rw [hrec] at hy
      have henc : ∀ (j : Nat) (v : Value) (d : D), vs[j]? = some v → (ys x)[j]? = some d → ga g1 W v d := fun j v d hv hd =>
        (hvs2 j v d hv hd).of0 (g := g1) fun b hb => hs1.I b hb
      have hset := jal (δ' := []) ps.toList (ys x) vs.toList (a := { tmps := a.tmps, defers := [] }) (g := g1) (w := W) (tm := s.tm) (os := O pre) (nx := s.nx) ⟨hr1.tm, rfl, hr1.o⟩ (by simpa using hvs1) (fun p hp => by show p < a.tmps.size; rw [hn]; exact hpn p hp) (fun j v d hv hd => henc j v d (by simpa using hv) hd)
      have hzip : ((ps.zip vs).foldl (fun t (p, v) => t.setIfInBounds p v) a.tmps) = ((ps.toList.zip vs.toList).foldl (fun t (p, v) => t.setIfInBounds p v) a.tmps) := by
        rw [← Array.foldl_toList, Array.toList_zip]
      refine ⟨fn, _, assign, body, hy, roundIn_of_wpIn trivial ?_⟩
      rw [hzip]
      refine wpIn_mono (bS hT lv assign _ _ ha1 ha2 (hround pre x hok hlen) g1 _ W hset.1 (by show _ = n; rw [hset.2]; exact hn)) ?_
      rintro e a2 W2 ⟨g2, s2, h5, h6, h7, h8⟩
      cases e with
      | normal =>
        have h5 : awp P T n s.nx lv body _ s2 := h5
        have hl2 := h8.other hset.1.o hl rfl
        have hk2 := h8.other hset.1.o hk rfl
        refine ⟨_, run_beginRound hl2 (by rw [hrec]), ?_⟩
        obtain ⟨W3, hW3⟩ : ∃ W3, W2.putObj (w.heap.size + 1) (.loop { rec .ready none with state := .busy }) = W3 := ⟨_, rfl⟩
        rw [hW3]
        have hg3 : W2.grownBy W3 (some (w.heap.size + 1)) := by rw [← hW3]; exact grownBy_putObj' _ _ _
        have hlt2 : w.heap.size + 1 < W2.heap.size := (Array.getElem?_eq_some_iff.1 hl2).1
        have hl3 : W3.heap[w.heap.size + 1]? = some (.loop { rec .ready none with state := .busy }) := by rw [← hW3]; exact World.putObj_heap_same hlt2
        have hk3 : W3.heap[w.heap.size]? = some (.deferred (some [])) := by rw [← hW3]; exact (World.putObj_heap_other (by omega)).trans hk2
        have hr3 := h6.grown hg3 fun r e => (hput W2 _ hl2 rfl r e).2
        have hs3 : vh s.nx g s w g2 ⟨s.tm, s2.os, s2.nx⟩ W3 := ((hs1.tm (tm := s.tm) (tm' := s.tm)).trans (h8.tm (tm := s.tm) (tm' := s.tm))).grown hg3 (by rw [← hW3]; exact Nat.le_refl _) fun r e => (hput W2 _ hl2 rfl r e).1
        refine wpIn_mono (bS hT lv body _ _ hb1 hb2 h5 g2 a2 W3 hr3 h7) ?_
        rintro e a4 W4 ⟨g4, s4, h9, h10, h11, h12⟩
        have hl4 := h12.other hr3.o hl3 rfl
        have hk4 := h12.other hr3.o hk3 rfl
        have hs4 : vh s.nx g s w g4 ⟨s.tm, s4.os, s4.nx⟩ W4 := hs3.trans (h12.tm (tm := s.tm) (tm' := s.tm))
        have hst : Step g s w g4 ⟨s.tm, s4.os, s4.nx⟩ W4 := hs4.step hr.o (Nat.le_refl _)
        have hr4 : Rel δ g4 ⟨s.tm, s4.os, s4.nx⟩ a W4 := ⟨fun t d ht => let ⟨v, h13, h14⟩ := hr.tm t d ht; ⟨v, h13, hst.ybe hr.o h14⟩, hr.defers, h10.o.tm⟩
        have fin : ∀ (jump : Option Code), ∃ W5, (Instr.endRound (w.heap.size + 1) jump).run P W4 = .ok (.bool jump.isNone) W5 ∧ (W4.grownBy W5 (some (w.heap.size + 1)) ∧ W4.drawn ≤ W5.drawn) ∧ W5.heap[w.heap.size + 1]? = some (.loop (rec (if jump.isNone then .ready else .done) jump)) ∧ W5.heap[w.heap.size]? = some (.deferred (some [])) := fun jump => by
          have := run_endRound (P := P) jump hl4
          rw [hrec] at this ⊢
          exact ⟨_, this, ⟨grownBy_putObj' _ _ _, Nat.le_refl _⟩, World.putObj_heap_same (Array.getElem?_eq_some_iff.1 hl4).1, (World.putObj_heap_other (by omega)).trans hk4⟩
        have hkp : ∀ W5, W4.grownBy W5 (some (w.heap.size + 1)) → ∀ b, g.I b → Cel W b → W5.heap[b]? = W.heap[b]? := fun W5 hg5 b hb _ => by
          have h13 : W.heap[b]? = w.heap[b]? := hs1.same b (hr.o.imm b hb).1 (hr.o.imm b hb).2
          have h14 : W4.heap[b]? = w.heap[b]? := hst.same b (hr.o.imm b hb).1 (hr.o.imm b hb).2
          have hlt := (hr.o.imm b hb).1
          rw [h13, ← h14]
          exact hg5.block b (Nat.lt_of_lt_of_le hlt hst.size) fun e => by cases e; omega
        have leave : ∀ (c : Code) (e : Exit), kcd c = some e → (pre ++ [x] <+: order → Q e ⟨s.tm, s4.os, s4.nx⟩) → Jx c (pre ++ [x]) W4 := fun c e h13 h14 => by
          rw [hJx]
          exact ⟨e, s4, g4, h13, h14, hr4, hs4⟩
        cases e with
        | normal =>
          obtain ⟨h13, h14⟩ : ok (pre ++ [x]) ∧ Sub s.nx ⟨s.tm, s4.os, s4.nx⟩ ⟨s.tm, O (pre ++ [x]), s.nx⟩ := h9
          obtain ⟨h15, h16⟩ := hr4.sub h14
          obtain ⟨W5, h17, h18, h19, h20⟩ := fin none
          refine ⟨_, W5, h17, .inl ⟨rfl, ⟨hJg _ W4 W5 _ (by rw [hJ]; exact ⟨h13, _, h15, hs4.trans h16⟩) h18.1 h18.2 (hput W4 _ hl4 rfl), h19, h20⟩, hkp W5 h18.1⟩⟩
        | ret =>
          obtain ⟨W5, h17, h18, h19, h20⟩ := fin (some .ret)
          exact ⟨_, W5, h17, .inr ⟨rfl, .ret, hJxg _ _ W4 W5 _ (leave .ret .ret rfl h9) h18.1 h18.2 (hput W4 _ hl4 rfl), h19, h20⟩⟩
        | exit i =>
          obtain ⟨W5, h17, h18, h19, h20⟩ := fin (some (.exit i))
          exact ⟨_, W5, h17, .inr ⟨rfl, .exit i, hJxg _ _ W4 W5 _ (leave (.exit i) (.exit i) rfl h9) h18.1 h18.2 (hput W4 _ hl4 rfl), h19, h20⟩⟩
        | _ => exact h9.elim
      | _ => exact h5.elim
    · -- behind the iterator
      rintro e W2 ⟨⟨v, rfl⟩, (⟨xs, rfl, hi, hl, hk⟩ | ⟨pre, hSp, c, hi, hl, hk⟩)⟩
      · refine ⟨none, _, by have := run_endLoop (P := P) hl (by rw [hrec]; simp); rw [hrec] at this; exact this, ?_⟩
        have hg3 := grownBy_putObj' W2 (w.heap.size + 1) (.loop { rec .ready none with state := .exhausted })
        have hi3 := hJg _ W2 _ _ hi hg3 (Nat.le_refl _) (hput W2 _ hl rfl)
        have hk3 := (World.putObj_heap_other (w := W2) (r := w.heap.size + 1) (o := .loop { rec .ready none with state := .exhausted }) (k := w.heap.size) (by omega)).trans hk
        rw [hrec] at hi3 hk3
        rw [hJ] at hi3
        obtain ⟨h5, g1, h6, h7⟩ := hi3
        exact ⟨[w.heap.size], g1, _, hdone h5, ⟨h6.tm, by show _ :: a.defers = _; rw [hr.defers]; rfl, h6.o⟩, fun D hD => by simp at hD; subst hD; exact ⟨Nat.le_refl _, hk3⟩, by simp, hn, vh.less hN h7⟩
      · refine ⟨some c, _, by have := run_endLoop (P := P) hl (by rw [hrec]; simp); rw [hrec] at this; exact this, ?_⟩
        have hg3 := grownBy_putObj' W2 (w.heap.size + 1) (.loop { rec .done (some c) with state := .exhausted })
        have hi3 := hJxg c _ W2 _ _ hi hg3 (Nat.le_refl _) (hput W2 _ hl rfl)
        have hk3 := (World.putObj_heap_other (w := W2) (r := w.heap.size + 1) (o := .loop { rec .done (some c) with state := .exhausted }) (k := w.heap.size) (by omega)).trans hk
        rw [hrec] at hi3 hk3
        rw [hJx] at hi3
        have hfin : ∀ Wf, (∃ (e : Exit) (s' : St) (g1 : G), kcd c = some e ∧ (pre <+: order → Q e ⟨s.tm, s'.os, s'.nx⟩) ∧ Rel δ g1 ⟨s.tm, s'.os, s'.nx⟩ a Wf ∧ vh s.nx g s w g1 ⟨s.tm, s'.os, s'.nx⟩ Wf) → Wf.heap[w.heap.size]? = some (.deferred (some [])) →
            c.wpIn Fence.wide 5 P (fun e a' w' => ∃ (Ds : List Nat) (g' : G) (s' : St), Q e s' ∧ Rel (Ds.map mrk ++ δ) g' s' a' w' ∧ (∀ D ∈ Ds, w.heap.size ≤ D ∧ w'.heap[D]? = some (.deferred (some []))) ∧ Ds.Nodup ∧ a'.tmps.size = n ∧ vh N g s w g' s' w') { a with defers := [{ target := .collected w.heap.size, args := #[] }] ++ a.defers } Wf := by
          rintro Wf ⟨e, s', g1, h5, h8, h6, h7⟩ hkf
          have key : ∃ (Ds : List Nat) (g' : G) (s' : St), Q e s' ∧ Rel (Ds.map mrk ++ δ) g' s' { a with defers := [{ target := .collected w.heap.size, args := #[] }] ++ a.defers } Wf ∧ (∀ D ∈ Ds, w.heap.size ≤ D ∧ Wf.heap[D]? = some (.deferred (some []))) ∧ Ds.Nodup ∧ a.tmps.size = n ∧ vh N g s w g' s' Wf :=
            ⟨[w.heap.size], g1, _, h8 hSp, ⟨h6.tm, by show _ :: a.defers = _; rw [hr.defers]; rfl, h6.o⟩, fun D hD => by simp at hD; subst hD; exact ⟨Nat.le_refl _, hkf⟩, by simp, hn, vh.less hN h7⟩
          cases c <;> simp only [kcd, reduceCtorEq, Option.some.injEq] at h5
          · subst h5; exact wpIn_exit key
          · subst h5; exact wpIn_ret key
        exact hfin _ hi3 hk3
end
end Dm
namespace Dm
open Go
section
variable {δ : List Deferred} {P : Program} {T : Tab} {g g' g'' : G} {s s' s'' : St} {a : Act} {w w' w'' : World} {n N : Nat}

theorem kP {m : Nat} {fn : Func} {tmps : Array Value} {R : Ending → World → Prop} (K : World → Prop) : ∀ (Ds : List Nat) (w : World), Ds.Nodup → (∀ D ∈ Ds, w.heap[D]? = some (.deferred (some []))) → K w →
    (∀ W D, D ∈ Ds → K W → W.heap[D]? = some (.deferred (some [])) → K (W.putObj D (.deferred none))) → (∀ W, K W → ∃ v, (results fn tmps).run P W = .ok v W ∧ R (.returned v) W) →
    LeavesInM Fence.wide m P fn tmps R (Ds.map mrk) .returning w
  | [], w, _, _, hK, _, h => h w hK
  | D :: Ds, w, hn, hD, hK, hs, h => by
    obtain ⟨hn1, hn2⟩ := List.nodup_cons.1 hn
    refine ⟨by simp, .inl ⟨D, _, rfl, run_takeDeferred (hD D (by simp)), ?_⟩⟩
    refine kP K Ds _ hn2 (fun D' hD' => ?_) (hs w D (by simp) hK (hD D (by simp))) (fun W D' hD' => hs W D' (by simp [hD'])) h
    have hne : D' ≠ D := fun e => hn1 (by rw [← e]; exact hD')
    exact (World.putObj_heap_other hne).trans (hD D' (by simp [hD']))

theorem gO {f : FuncId} {fn : Func} {c : Code} {ds : List D} {os : List (Nat × Ob)} {nx : Nat} {Q : D → List (Nat × Ob) → Nat → Prop}
    (hf : P.funcs[f]? = some fn) (hname : (fn.name == "runtime.NumGoroutine") = false) (hb : fn.body = some c) (hn : fn.ntmps = n) (hl : ds.length ≤ n) {rs : List ResultVar} (hrs : fn.results.toList = rs)
    (h : SWm P n nx c (fin P rs Q) ⟨prm 0 ds, os, nx⟩) : va P f ds os nx Q := by
  refine ⟨⟨fn, hf, hname, by rw [hb]; rfl⟩, fun g w vs ho hsz hv => ?_⟩
  refine callsIn_wide (n := 5).1 (callsIn_of_wp_marks hf hb trivial (wpIn_wide.2 ?_))
  subst hn
  have hr : Rel [] g ⟨prm 0 ds, os, nx⟩ { tmps := vs ++ Array.replicate (fn.ntmps - vs.size) undef, defers := [] } w := by
    refine ⟨fun t d ht => ?_, rfl, ho.tm⟩
    obtain ⟨_, h2⟩ := vaw ds 0 t d ht
    rw [Nat.sub_zero] at h2
    have ht : t < vs.size := by
      rw [hsz]
      rcases Nat.lt_or_ge t ds.length with h | h
      · exact h
      · rw [List.getElem?_eq_none h] at h2; cases h2
    refine ⟨vs[t], ?_, hv t _ d (Array.getElem?_eq_getElem ht) h2⟩
    rw [Array.getElem?_append_left ht, Array.getElem?_eq_getElem ht]
  refine wp_mono (h [] g _ w hr (by simp; omega)) fun e a' w' ⟨Ds, g', s', h1, h2, h3, h4, h5, h6⟩ => ?_
  rw [List.append_nil] at h2
  have fin : ∀ (hq : rto (rdD P s' rs) s' Q), LeavesInM Fence.wide 5 P fn a'.tmps (fun e w' => ∃ v d g' os' nx', e = .returned v ∧ Q d os' nx' ∧ uj g' ⟨[], os', nx'⟩ w' ∧ ga g' w' v d ∧ Step g ⟨[], os, nx⟩ w g' ⟨[], os', nx'⟩ w') a'.defers .returning w' := by
    intro hq
    rw [h2.defers]
    refine kP (fun W => Rel (Ds.map mrk) g' s' a' W ∧ vh nx g ⟨prm 0 ds, os, nx⟩ w g' s' W) Ds w' h4 (fun D hD => (h3 D hD).2) ⟨h2, h6⟩ (fun W D hD hK hd => ?_) (fun W hK => ?_)
    · have hg := grownBy_putObj' W D (.deferred none)
      exact ⟨hK.1.grown hg fun r e => by cases e; exact ⟨_, hd, rfl⟩, hK.2.grown hg (Nat.le_refl _) fun r e => by cases e; exact (h3 D hD).1⟩
    · unfold rto at hq
      split at hq
      · rename_i d hrd
        obtain ⟨v, h7, h8⟩ := bL hK.1 fn hrs hrd
        exact ⟨v, h7, v, d, g', s'.os, s'.nx, rfl, hq, hK.1.o.tm, h8, (hK.2.tm (tm := []) (tm' := [])).step ho (Nat.le_refl _)⟩
      · cases hq
  cases e with
  | normal => exact fin h1
  | ret => exact fin h1
  | _ => cases h1

theorem SWm.awp (hT : zaK P T) (lv : Nat → Option (List Nat)) {c : Code} {Q : Exit → St → Prop} (hd : qB n c = true) (h : awp P T n N lv c Q s) : SWm P n N c Q s := SWm.of (qb hT lv c Q s hd h)
end
end Dm
namespace Dm
open Go
abbrev Sg (m : Nat) := List (Fin m) × Bool
section
variable {P : Program} {T : Tab} {g : G} {s s' : St} {a : Act} {w w' : World} {n l m : Nat}

structure YOk (P : Program) (l : Nat) (I : Nat → Prop) {m : Nat} (ys : Fin m → List D) (J Jx : List (Fin m) → World → Prop) : Prop where
  round : ∀ pre x (vs : Array Value) W1, J pre W1 → pre.length < m → vs.size = (ys x).length → (∀ (j : Nat) (v : Value) (d : D), vs[j]? = some v → (ys x)[j]? = some d → ga (G0 I) W1 v d) → YieldAt Fence.wide 3 P l vs W1 fun e W' =>
      (e = .returned (.bool true) ∧ J (pre ++ [x]) W' ∧ ∀ b, I b → Cel W1 b → W'.heap[b]? = W1.heap[b]?) ∨ (e = .returned (.bool false) ∧ Jx (pre ++ [x]) W')
  grow : ∀ pre W W', J pre W → Ext W W' → J pre W'
  growx : ∀ pre W W', Jx pre W → Ext W W' → Jx pre W'

def vI (I : Nat → Prop) {m : Nat} (J Jx : List (Fin m) → World → Prop) (s : St) (σ : Sg m) (a : Act) (w : World) : Prop :=
  s.os = [] ∧ s.nx = 0 ∧ match σ.2 with
    | true => Rel [] (G0 I) s a w ∧ J σ.1 w
    | false => Rel [] (G0 fun _ => False) s a w ∧ Jx σ.1 w

def SY (P : Program) (n : Nat) (I : Nat → Prop) {m : Nat} (J Jx : List (Fin m) → World → Prop) (c : Code) (Q : Exit → St → Sg m → Prop) (s : St) (σ : Sg m) : Prop :=
  ∀ a w, vI I J Jx s σ a w → a.tmps.size = n → c.wpIn Fence.wide 4 P (fun e a' w' => ∃ s' σ', Q e s' σ' ∧ vI I J Jx s' σ' a' w' ∧ a'.tmps.size = n) a w

def yav (o : Oper) (s : St) (l : Nat) : Option (List D) := match o.op with
  | .call c => match c.callee with
    | .value f => match s.ev f with
      | .fn (.yield l') [] [] => if l' = l then some (c.args.toList.map s.ev) else none
      | _ => none
    | _ => none
  | _ => none
def xaa : List Nat → List (Nat × D) → List (Nat × D)
  | _, [] => []
  | seen, (t, d) :: l => if seen.contains t = true then xaa seen l else if d.zaq = true then (t, d) :: xaa (t :: seen) l else xaa (t :: seen) l
def St.xaK (s : St) : St := ⟨xaa [] s.tm, [], 0⟩
def xaf (P : Program) (T : Tab) (l : Nat) {m : Nat} (ys : Fin m → List D) (K : St → Sg m → Prop) : List Oper → St → Sg m → Prop
  | [], s, σ => K s σ
  | o :: rest, s, σ => o.guard = none ∧ match yav o s l with
    | some ds => σ.2 = true ∧ σ.1.length < m ∧ ∃ x, ds = ys x ∧ xaf P T l ys K rest (s.put o.dst (.bool true)) (σ.1 ++ [x], true) ∧ xaf P T l ys K rest (s.xaK.put o.dst (.bool false)) (σ.1 ++ [x], false)
    | none => gA P T o s fun s' => xaf P T l ys K rest s' σ

variable {I : Nat → Prop} {ys : Fin m → List D} {J Jx : List (Fin m) → World → Prop}

theorem Rel.gcP {I : Nat → Prop} (hr : Rel [] (G0 I) s a w) (hext : Ext w w') : Rel [] (G0 I) s a w' := by
  obtain ⟨h1, h2⟩ := hr.o.grow hext (I := I) (fun b hb => hb) (fun b _ hb => hb) (fun b hb => (hr.o.cel b hb).keep (hext.2.1 b (hr.o.imm b hb).1))
  exact ⟨fun t d ht => let ⟨v, h3, h4⟩ := hr.tm t d ht; ⟨v, h3, h2.ybe hr.o h4⟩, hr.defers, h1⟩

theorem vI.put {σ : Sg m} (h : vI I J Jx s σ a w) (t : Option Tmp) {v : Value} {d : D} (hv : ∀ g, (σ.2 = true → g = G0 I) → (σ.2 = false → g = G0 fun _ => False) → ga g w v d) (ht : ∀ x, t = some x → x < a.tmps.size) : vI I J Jx (s.put t d) σ (a.put t v) w := by
  obtain ⟨h1, h2, h3⟩ := h
  refine ⟨by cases t <;> exact h1, by cases t <;> exact h2, ?_⟩
  obtain ⟨pre, b⟩ := σ
  cases b
  · exact ⟨h3.1.put t (hv _ (fun h => by cases h) fun _ => rfl) ht, h3.2⟩
  · exact ⟨h3.1.put t (hv _ (fun _ => rfl) fun h => by cases h) ht, h3.2⟩

theorem vI.ext {σ : Sg m} (hY : YOk P l I ys J Jx) (h : vI I J Jx s σ a w) (hext : Ext w w') : vI I J Jx s σ a w' := by
  obtain ⟨h1, h2, h3⟩ := h
  refine ⟨h1, h2, ?_⟩
  obtain ⟨pre, b⟩ := σ
  cases b
  · exact ⟨h3.1.gcP hext, hY.growx _ _ _ h3.2 hext⟩
  · exact ⟨h3.1.gcP hext, hY.grow _ _ _ h3.2 hext⟩

theorem opY (hT : za P T) (hY : YOk P l I ys J Jx) {σ : Sg m} {o : Oper} {K : St → Prop} (h : gA P T o s K) (hr : vI I J Jx s σ a w) (hn : a.tmps.size = n) (hd : ∀ x, o.dst = some x → x < n) {KK : Act → World → Prop} {Q : Exit → Act → World → Prop}
    (hK : ∀ s' a' w', K s' → vI I J Jx s' σ a' w' → a'.tmps.size = n → KK a' w') : o.wpIn Fence.wide 4 P a w KK Q := by
  have main : ∃ (v : Value) (d : D), wbQ P o a w v ∧ K (s.put o.dst d) ∧ ∀ w', Ext w w' → vI I J Jx (s.put o.dst d) σ (a.put o.dst v) w' := by
    obtain ⟨h1, h2, h3⟩ := hr
    obtain ⟨pre, b⟩ := σ
    cases b
    · obtain ⟨v, d, h4, h5, h6⟩ := v7 hT o h h3.1
      refine ⟨v, d, h4, h6, fun w' hext => vI.ext hY (σ := (pre, false)) (vI.put (σ := (pre, false)) ⟨h1, h2, h3⟩ o.dst (fun g _ hg => by rw [hg rfl]; exact h5) (fun x hx => by rw [hn]; exact hd x hx)) hext⟩
    · obtain ⟨v, d, h4, h5, h6⟩ := v7 hT o h h3.1
      refine ⟨v, d, h4, h6, fun w' hext => vI.ext hY (σ := (pre, true)) (vI.put (σ := (pre, true)) ⟨h1, h2, h3⟩ o.dst (fun g hg _ => by rw [hg rfl]; exact h5) (fun x hx => by rw [hn]; exact hd x hx)) hext⟩
  obtain ⟨v, d, h4, h5, h6⟩ := main
  refine ⟨fun f _ => trivial, ?_⟩
  have hq := h4 w (.refl w)
  unfold Oper.quietAt at hq
  have hsem : Oper.semAt Fence.wide.round a.eval o = execOp a.eval o := rfl
  rw [hsem]
  generalize (execOp a.eval o).run P w = r at hq ⊢
  have fin : ∀ w', Ext w w' → KK (a.put o.dst v) w' := fun w' hext => hK _ _ _ h5 (h6 w' hext) (by rw [qe, hn])
  cases r with
  | ok nx w1 =>
    cases nx with
    | value u => obtain ⟨rfl, rfl⟩ := hq; exact fin _ (.refl _)
    | skip => obtain ⟨rfl, rfl⟩ := hq; exact fin _ (.refl _)
    | enter f args =>
      obtain ⟨rfl, hc⟩ := hq
      refine ⟨fun hh => (by cases hh), callsIn_wide.2 (hc.mono ?_)⟩
      rintro e w2 ⟨rfl, hext⟩
      exact fin w2 hext
    | _ => exact hq.elim
  | halt x w1 => exact hq.elim

theorem zaf {t : Nat} {d : D} : ∀ (tm : List (Nat × D)) (seen : List Nat), lk t (xaa seen tm) = some d → seen.contains t = false ∧ lk t tm = some d ∧ d.zaq = true
  | [], seen, h => by cases h
  | (u, e) :: l, seen, h => by
    simp only [xaa] at h
    split at h
    · rename_i hc
      obtain ⟨h1, h2, h3⟩ := zaf l seen h
      refine ⟨h1, ?_, h3⟩
      rw [vb, if_neg (fun e => by subst e; rw [h1] at hc; cases hc)]
      exact h2
    · rename_i hc
      split at h
      · rename_i hs
        rw [vb] at h
        split at h
        · rename_i e'
          cases h
          subst e'
          exact ⟨by simpa using hc, by rw [vb, if_pos rfl], hs⟩
        · rename_i hne
          obtain ⟨h1, h2, h3⟩ := zaf l _ h
          exact ⟨by simp at h1 ⊢; exact h1.2, by rw [vb, if_neg hne]; exact h2, h3⟩
      · obtain ⟨h1, h2, h3⟩ := zaf l _ h
        have hne : ¬ t = u := by simp at h1; exact h1.1
        exact ⟨by simp at h1 ⊢; exact h1.2, by rw [vb, if_neg hne]; exact h2, h3⟩

theorem jb3 (hY : YOk P l I ys J Jx) {pre : List (Fin m)} {o : Oper} {ds : List D} (hy : yav o s l = some ds) (hlen : pre.length < m) {x : Fin m} (hx : ds = ys x) (hr : vI I J Jx s (pre, true) a w) (hn : a.tmps.size = n) (hd : ∀ t, o.dst = some t → t < n)
    {KK : Act → World → Prop} {Q : Exit → Act → World → Prop}
    (hK : ∀ w', vI I J Jx (s.put o.dst (.bool true)) (pre ++ [x], true) (a.put o.dst (.bool true)) w' → KK (a.put o.dst (.bool true)) w')
    (hK' : ∀ w', vI I J Jx (s.xaK.put o.dst (.bool false)) (pre ++ [x], false) (a.put o.dst (.bool false)) w' → KK (a.put o.dst (.bool false)) w') : o.wpIn Fence.wide 4 P a w KK Q := by
  obtain ⟨h1, h2, h3, h4⟩ := hr
  unfold yav at hy
  split at hy <;> try cases hy
  rename_i c ho
  split at hy <;> try cases hy
  rename_i f hc
  split at hy <;> try cases hy
  rename_i l' hf
  split at hy <;> cases hy
  rename_i hl
  subst hl
  have hff := h3.ev f
  rw [hf] at hff
  generalize hfv : a.eval f = fv at hff
  cases hff with
  | fn _ fiv cav _ _ h5 h6 h7 h8 =>
  have e1 : fiv = #[] := Array.eq_empty_of_size_eq_zero (by simpa using h5)
  have e2 : cav = #[] := Array.eq_empty_of_size_eq_zero (by simpa using h6)
  subst e1; subst e2
  obtain ⟨h9, h10⟩ := uq h3 c.args
  have hvs : ∀ (j : Nat) (v : Value) (d : D), (c.args.map a.eval)[j]? = some v → (ys x)[j]? = some d → ga (G0 I) w v d := fun j v d hv hd => h10 j v d hv (by rw [hx]; exact hd)
  obtain ⟨fn, tmps, assign, body, hrun, hround⟩ := hY.round pre x (c.args.map a.eval) w h4 hlen (by rw [h9, hx]) hvs
  refine ⟨fun f _ => trivial, ?_⟩
  have hsem : Oper.semAt Fence.wide.round a.eval o = execOp a.eval o := rfl
  rw [hsem]
  have hex : (execOp a.eval o).run P w = .ok (.round l' fn tmps assign body) w := by
    unfold execOp
    simp [ho, resolve, hc, hfv, Deferred.ofValue, invoke, hrun]
  rw [hex]
  refine ⟨fun hh => (by cases hh), hround.mono ?_⟩
  rintro e w' (⟨rfl, hj, hkp⟩ | ⟨rfl, hj⟩)
  · refine hK w' (vI.put (σ := (pre ++ [x], true)) ⟨h1, h2, ?_, hj⟩ o.dst (fun g _ _ => .c _ _ (.bool _)) fun t ht => by rw [hn]; exact hd t ht)
    have hk : vo I w w' := fun b hb => hkp b hb (h3.o.cel b hb)
    refine ⟨fun t d ht => let ⟨v, h11, h12⟩ := h3.tm t d ht; ⟨v, h11, h12.mono hk (.refl _)⟩, h3.defers, ⟨fun id o h => ?_, fun id o id' o' b h => ?_, fun id _ => ⟨rfl, rfl⟩, fun b hb => ⟨((h3.o.cel b hb).keep (hk b hb)).lt, (h3.o.imm b hb).2⟩, fun b hb => (h3.o.cel b hb).keep (hk b hb)⟩⟩
    · rw [h1] at h; cases h
    · rw [h1] at h; cases h
  · refine hK' w' (vI.put (σ := (pre ++ [x], false)) ⟨rfl, rfl, ⟨fun t d ht => ?_, h3.defers, ⟨fun id o h => (by cases h), fun id o id' o' b h => (by cases h), fun id _ => ⟨rfl, rfl⟩, fun b hb => hb.elim, fun b hb => hb.elim⟩⟩, hj⟩ o.dst (fun g _ _ => .c _ _ (.bool _)) fun t ht => by rw [hn]; exact hd t ht)
    obtain ⟨_, h11, h12⟩ := zaf _ _ ht
    obtain ⟨v, h13, h14⟩ := h3.tm t d h11
    exact ⟨v, h13, h14.any h12⟩

theorem jA (hT : za P T) (hY : YOk P l I ys J Jx) (all : Array Oper) {K : St → Sg m → Prop} {Q : Exit → Act → World → Prop} : ∀ (ops : List Oper) {s : St} {σ : Sg m} {a : Act} {w : World}, (∀ o ∈ ops, wm n o = true) → xaf P T l ys K ops s σ → vI I J Jx s σ a w → a.tmps.size = n →
    (∀ s' σ' a' w', K s' σ' → vI I J Jx s' σ' a' w' → a'.tmps.size = n → Q .normal a' w') → wpListIn Fence.wide 4 P all Q ops a w
  | [], s, σ, a, w, _, h, hr, hn, hQ => hQ _ _ _ _ h hr hn
  | o :: rest, s, σ, a, w, hd, h, hr, hn, hQ => by
    have hdo : ∀ x, o.dst = some x → x < n := fun x hx => by
      have := hd o (by simp)
      unfold wm at this
      rw [hx] at this
      simpa using this
    have hrest : ∀ o ∈ rest, wm n o = true := fun o ho => hd o (by simp [ho])
    obtain ⟨hg, h⟩ := h
    have hw : Region.wanted o (yielded all a.tmps) = true := by simp [Region.wanted, hg]
    simp only [wpListIn, hw, if_true]
    split at h
    · rename_i ds hds
      obtain ⟨hlive, hlen, x, hx, h1, h2⟩ := h
      obtain ⟨pre, b⟩ := σ
      have hb : b = true := hlive
      subst hb
      exact jb3 hY hds hlen hx hr hn hdo (fun w' hr' => jA hT hY all rest hrest h1 hr' (by rw [qe, hn]) hQ) (fun w' hr' => jA hT hY all rest hrest h2 hr' (by rw [qe, hn]) hQ)
    · exact opY hT hY h hr hn hdo fun s' a' w' hK hr' hn' => jA hT hY all rest hrest hK hr' hn' hQ

theorem vI.sub {σ : Sg m} (h : vI I J Jx s σ a w) (hs : s'.os = [] ∧ s'.nx = 0 ∧ jbE s.tm s'.tm) : vI I J Jx s' σ a w := by
  obtain ⟨h1, h2, h3⟩ := h
  have key : ∀ {I : Nat → Prop}, Rel [] (G0 I) s a w → Rel [] (G0 I) s' a w := fun hr => ⟨fun t d ht => by
    obtain ⟨d', h4, h5⟩ := vae hs.2.2 ht
    obtain ⟨v, h6, h7⟩ := hr.tm t d' h4
    exact ⟨v, h6, h7.le h5⟩, hr.defers, ⟨fun id o h => (by rw [hs.1] at h; cases h), fun id o id' o' b h => (by rw [hs.1] at h; cases h), fun id _ => ⟨rfl, rfl⟩, fun b hb => ⟨(hr.o.imm b hb).1, fun ⟨id, o, h, _⟩ => by rw [hs.1] at h; cases h⟩, hr.o.cel⟩⟩
  refine ⟨hs.1, hs.2.1, ?_⟩
  obtain ⟨pre, b⟩ := σ
  cases b
  · exact ⟨key h3.1, h3.2⟩
  · exact ⟨key h3.1, h3.2⟩

theorem SY.region (hT : za P T) (hY : YOk P l I ys J Jx) {i : Nat} {ops : Array Oper} {Q : Exit → St → Sg m → Prop} {σ : Sg m} (hd : ops.toList.all (wm n) = true) (h : xaf P T l ys (Q .normal) ops.toList s σ) : SY P n I J Jx (.region i ops false) Q s σ := fun a w hr hn =>
  wpIn_region_list (jA hT hY ops ops.toList (fun o ho => List.all_eq_true.1 hd o ho) h hr hn fun s' σ' a' w' h1 h2 h3 => ⟨s', σ', h1, h2, h3⟩)
theorem SY.seq {x y : Code} {Q : Exit → St → Sg m → Prop} {σ : Sg m} (h : SY P n I J Jx x (fun e s σ => match e with | .normal => SY P n I J Jx y Q s σ | e => Q e s σ) s σ) : SY P n I J Jx (.seq x y) Q s σ := fun a w hr hn => by
  refine wpIn_seq (wpIn_mono (h a w hr hn) fun e a' w' ⟨s', σ', h1, h2, h3⟩ => ?_)
  cases e with
  | normal => exact h1 a' w' h2 h3
  | _ => exact ⟨s', σ', h1, h2, h3⟩
theorem vI.ev {σ : Sg m} (h : vI I J Jx s σ a w) {c : Operand} {b : Bool} (hc : s.ev c = .bool b) : a.eval c = .bool b := by
  obtain ⟨h1, h2, h3⟩ := h
  obtain ⟨pre, b'⟩ := σ
  cases b'
  · have := h3.1.ev c; rw [hc] at this; exact this.zm
  · have := h3.1.ev c; rw [hc] at this; exact this.zm
theorem SY.cond {c : Operand} {x y : Code} {b : Bool} {Q : Exit → St → Sg m → Prop} {σ : Sg m} (hc : s.ev c = .bool b) (h1 : b = true → SY P n I J Jx x Q s σ) (h2 : b = false → SY P n I J Jx y Q s σ) : SY P n I J Jx (.cond c x y) Q s σ := fun a w hr hn => by
  refine wpIn_cond (hr.ev hc) ?_
  cases b with
  | true => exact h1 rfl a w hr hn
  | false => exact h2 rfl a w hr hn
theorem SY.skip {Q : Exit → St → Sg m → Prop} {σ : Sg m} (h : Q .normal s σ) : SY P n I J Jx .skip Q s σ := fun a w hr hn => wpIn_skip ⟨s, σ, h, hr, hn⟩
theorem SY.ret {Q : Exit → St → Sg m → Prop} {σ : Sg m} (h : Q .ret s σ) : SY P n I J Jx .ret Q s σ := fun a w hr hn => wpIn_ret ⟨s, σ, h, hr, hn⟩
theorem SY.exit {i : Nat} {Q : Exit → St → Sg m → Prop} {σ : Sg m} (h : Q (.exit i) s σ) : SY P n I J Jx (.exit i) Q s σ := fun a w hr hn => wpIn_exit ⟨s, σ, h, hr, hn⟩
theorem SY.block {i : Nat} {c : Code} {Q : Exit → St → Sg m → Prop} {σ : Sg m} (h : SY P n I J Jx c (fun e s σ => match e with | .exit j => if j = i then Q .normal s σ else Q (.exit j) s σ | e => Q e s σ) s σ) : SY P n I J Jx (.block i c) Q s σ := fun a w hr hn => by
  refine wpIn_block (wpIn_mono (h a w hr hn) fun e a' w' ⟨s', σ', h1, h2, h3⟩ => ?_)
  cases e with
  | exit j =>
    simp only [Exit.inBlock]
    dsimp only at h1
    split
    · rename_i hj; rw [if_pos hj] at h1; exact ⟨s', σ', h1, h2, h3⟩
    · rename_i hj; rw [if_neg hj] at h1; exact ⟨s', σ', h1, h2, h3⟩
  | _ => exact ⟨s', σ', h1, h2, h3⟩
theorem SY.loop {c : Code} {Q : Exit → St → Sg m → Prop} {σ : Sg m} (k : Nat) (S : Nat → St) (G' : Nat → Sg m) (i0 : Nat) (h0 : ∀ a w, vI I J Jx s σ a w → vI I J Jx (S i0) (G' i0) a w) (hi0 : i0 ≤ k)
    (hround : ∀ i, i ≤ k → SY P n I J Jx c (fun e s' σ' => match e with | .normal => i < k ∧ σ' = G' (i + 1) ∧ (S (i + 1)).os = [] ∧ (S (i + 1)).nx = 0 ∧ jbE s'.tm (S (i + 1)).tm | e => Q e s' σ') (S i) (G' i)) : SY P n I J Jx (.loop c) Q s σ := by
  have key : ∀ (j i : Nat) (a : Act) (w : World), i ≤ k → k - i = j → vI I J Jx (S i) (G' i) a w → a.tmps.size = n →
      Code.roundsIn Fence.wide 4 P c (fun e a' w' => ∃ s' σ', Q e s' σ' ∧ vI I J Jx s' σ' a' w' ∧ a'.tmps.size = n) (j + 1) a w := by
    intro j
    induction j with
    | zero =>
      intro i a w hi hj hr hn
      refine wpIn_mono (hround i hi a w hr hn) fun e a' w' ⟨s', σ', h1, h2, h3⟩ => ?_
      cases e with
      | normal => have := h1.1; omega
      | _ => exact ⟨s', σ', h1, h2, h3⟩
    | succ j ih =>
      intro i a w hi hj hr hn
      refine wpIn_mono (hround i hi a w hr hn) fun e a' w' ⟨s', σ', h1, h2, h3⟩ => ?_
      cases e with
      | normal =>
        obtain ⟨h4, rfl, h5, h6, h7⟩ := h1
        exact ih (i + 1) a' w' h4 (by omega) (h2.sub ⟨h5, h6, h7⟩) h3
      | _ => exact ⟨s', σ', h1, h2, h3⟩
  exact fun a w hr hn => wpIn_loop_rounds (k - i0 + 1) (key (k - i0) i0 a w hi0 rfl (h0 a w hr) hn)
end
end Dm
namespace Dm
open Go
section
variable {P : Program} {T : Tab} {g : G} {s s' : St} {a : Act} {w w' : World} {n l m : Nat}

theorem yah.of {gf : FuncId} {fn : Func} {c : Code} {caps : List D} {ys : Fin m → List D} {order : List (Fin m)}
    (hf : P.funcs[gf]? = some fn) (hname : (fn.name == "runtime.NumGoroutine") = false) (hb : fn.body = some c) (hn : fn.ntmps = n) (hl : caps.length + 1 ≤ n) (hrs : fn.results.toList = [])
    (h : ∀ (l : Nat) (I : Nat → Prop) (J Jx : List (Fin m) → World → Prop), YOk P l I ys J Jx →
      SY P n I J Jx c (fun e _ σ => (e = .normal ∨ e = .ret) ∧ ((σ.2 = true ∧ σ.1 = order) ∨ (σ.2 = false ∧ σ.1 <+: order))) ⟨prm 0 (.fn (.yield l) [] [] :: caps), [], 0⟩ ([], true)) : yah P gf caps ys order := by
  refine ⟨Go.Proofs.enters_of hf hname hb, fun I w lb hI hsz hv => ?_⟩
  · intro l J Jx W hbel hJ hJx hround h0
    refine callsIn_of_wp hf hb trivial ?_
    subst hn
    have hY : YOk P l I ys J Jx :=
      ⟨hround, hJ, hJx⟩
    have hcel : ∀ b, I b → Cel W b := fun b hb => (hI b hb).keep (hbel.block b (hI b hb).lt)
    have hk : vo I w W := fun b hb => hbel.block b (hI b hb).lt
    have hr : Rel [] (G0 I) ⟨prm 0 (.fn (.yield l) [] [] :: caps), [], 0⟩ { tmps := (#[Value.func (.yield l) #[] #[]] ++ lb) ++ Array.replicate (fn.ntmps - (#[Value.func (.yield l) #[] #[]] ++ lb).size) undef, defers := [] } W := by
      refine ⟨fun t d ht => ?_, rfl, (uj.none I W hcel).tm⟩
      obtain ⟨_, h2⟩ := vaw _ 0 t d ht
      rw [Nat.sub_zero] at h2
      have hs : (#[Value.func (.yield l) #[] #[]] ++ lb).size = caps.length + 1 := by simp [hsz]; omega
      have ht : t < (#[Value.func (.yield l) #[] #[]] ++ lb).size := by
        rw [hs]
        have := (List.getElem?_eq_some_iff.1 h2).1
        simpa using this
      refine ⟨(#[Value.func (.yield l) #[] #[]] ++ lb)[t], by rw [Array.getElem?_append_left ht, Array.getElem?_eq_getElem ht], ?_⟩
      cases t with
      | zero =>
        simp at h2
        subst h2
        simp
        exact .fn _ _ _ _ _ rfl rfl (fun i v d h => by simp at h) (fun i v d h => by simp at h)
      | succ t =>
        have h3 : caps[t]? = some d := by simpa using h2
        have h4 : lb[t]? = some (#[Value.func (.yield l) #[] #[]] ++ lb)[t + 1] := by
          rw [Array.getElem_append_right (by simp)]
          simp
        exact (hv t _ d h4 h3).mono hk (.refl _)
    refine wpIn_mono (h l I J Jx hY _ W ⟨rfl, rfl, hr, h0⟩ (by simp [hsz]; omega)) ?_
    rintro e a' w' ⟨s', σ', ⟨h1, h2⟩, h3, h4⟩
    have fin : a'.defers = [] ∧ ∃ v, (results fn a'.tmps).run P w' = .ok v w' ∧ ((∃ u, Ending.returned v = .returned u) ∧ ((∃ xs, xs = order ∧ J xs w') ∨ (∃ pre, pre <+: order ∧ Jx pre w'))) := by
      obtain ⟨h5, h6, h7⟩ := h3
      obtain ⟨pre, b⟩ := σ'
      cases b
      · obtain ⟨h8, h9⟩ := h7
        obtain ⟨v, h10, _⟩ := bL h8 fn hrs (d := .tup []) rfl
        refine ⟨h8.defers, v, h10, ⟨v, rfl⟩, .inr ⟨pre, ?_, h9⟩⟩
        rcases h2 with ⟨h, _⟩ | ⟨_, h⟩
        · cases h
        · exact h
      · obtain ⟨h8, h9⟩ := h7
        obtain ⟨v, h10, _⟩ := bL h8 fn hrs (d := .tup []) rfl
        refine ⟨h8.defers, v, h10, ⟨v, rfl⟩, .inl ⟨pre, ?_, h9⟩⟩
        rcases h2 with ⟨_, h⟩ | ⟨h, _⟩
        · exact h
        · cases h
    rcases h1 with rfl | rfl
    · exact fin
    · exact fin
end
end Dm
namespace Dm
open Go Go.Proofs Go.Shelf Go.RowKit Go.Lib Go.Sort
section
variable {P : Program} {ρ : Ren} {w w' : World}
theorem ja2 (h : Ext w w') : ∃ q os', w' = Sort.grow (w.drewN q) os' := by
  refine ⟨w'.drawn - w.drawn, w'.heap.extract w.heap.size w'.heap.size, ?_⟩
  obtain ⟨h1, h2, h3⟩ := h
  have e1 : w'.heap = w.heap ++ w'.heap.extract w.heap.size w'.heap.size := by
    apply Array.ext_getElem?
    intro i
    rw [Array.getElem?_append]
    split
    · rename_i hi; exact h2 i hi
    · rename_i hi
      rw [Array.getElem?_extract]
      by_cases hi2 : i < w'.heap.size
      · rw [if_pos (by omega), show w.heap.size + (i - w.heap.size) = i by omega]
      · rw [if_neg (by omega), Array.getElem?_eq_none (by omega)]
  have e2 : w'.drawn = w.drawn + (w'.drawn - w.drawn) := by have := h3.drw; omega
  obtain ⟨a1, a2, a3, a4, a5⟩ := w'
  obtain ⟨b1, b2, b3, b4, b5⟩ := w
  have h31 := h3.os
  have h32 := h3.out
  have h33 := h3.tape
  simp only at e1 e2 h31 h32 h33
  subst h31; subst h32; subst h33
  simp only [Sort.grow, World.drewN, World.mk.injEq, and_self, and_true, true_and]
  exact ⟨e1, e2⟩
theorem qP {off : Nat} {F cells : Array Value} {t : Nat} (ht : t < cells.size) : (putCells id off F cells)[t]? = if off ≤ t ∧ t < off + F.size then some F[t - off]! else cells[t]? := by
  unfold putCells
  rw [Array.getElem?_mapIdx, Array.getElem?_eq_getElem ht]
  simp only [Option.map_some, id]
  split <;> rfl
theorem yaw {enc : Nat → List Value} {k blk off m : Nat} {dk : Array Nat} {os : Array Obj} {cells : Array Value} {e : TypeId} {fz : Nat × Nat} (hb : w.heap[blk]? = some (.cells cells e fz)) {j : Nat} (hj : j < w.heap.size) :
    (sortWorldK enc k w blk off m dk os).heap[j]? = if j = blk then some (.cells (putCells id off (flatK enc k dk) cells) e fz) else w.heap[j]? := by
  unfold sortWorldK putRowK putRow mapBlock Sort.grow Sort.ahead
  have hs : (w.heap.modify blk (onCells (putCells id off (flatK enc k dk)))).size = w.heap.size := by simp
  simp only
  rw [Array.getElem?_append_left (by rw [hs]; exact hj), Array.getElem?_modify]
  by_cases h : j = blk
  · subst h
    rw [if_pos rfl, if_pos rfl, hb]; rfl
  · rw [if_neg (fun e => h e.symm), if_neg h]
theorem qbu {enc : Nat → List Value} {k blk off m : Nat} {dk : Array Nat} {os : Array Obj} : w.heap.size ≤ (sortWorldK enc k w blk off m dk os).heap.size := by
  unfold sortWorldK putRowK putRow mapBlock Sort.grow Sort.ahead
  simp
theorem ubU {enc : Nat → List Value} {k blk off m : Nat} {dk : Array Nat} {os : Array Obj} : Env w (sortWorldK enc k w blk off m dk os) := ⟨rfl, rfl, rfl, Nat.le_add_right _ _⟩
theorem va.sort (L : SlLaysF0.n6 P ρ) {k : Nat} (hk0 : 0 < k) (aE : ∀ w, (isAgg (ρ.t 24)).run P w = .ok true w) (zE : ∀ w, (Go.sizeOf (ρ.t 24)).run P w = .ok k w)
    {f g : FuncId} (hf : ρ.f 6 = f) {cf : List C → List C → Int} {id e nx n : Nat} {h0 : Bool} {els : List (List C)} {os : List (Nat × Ob)} {Q : D → List (Nat × Ob) → Nat → Prop}
    (hi : lk id os = some (.vec h0 k e els)) (hn : n = els.length) (hsz : n < 4611686018427387904)
    (hcmp : ∀ x ∈ els, ∀ y ∈ els, yb P g [.agg (x.map .c), .agg (y.map .c)] (.int .i64 (cf x y)))

    (h1 : ∀ x ∈ els, ¬ cf x x < 0) (h2 : ∀ x ∈ els, ∀ y ∈ els, ∀ z ∈ els, cf x y < 0 → cf y z < 0 → cf x z < 0) (h3 : ∀ x ∈ els, ∀ y ∈ els, ∀ z ∈ els, ¬ cf x y < 0 → ¬ cf y z < 0 → ¬ cf x z < 0)
    (hQ : ∀ els' : List (List C), List.Perm els' els → els'.Pairwise (fun x y => ¬ cf y x < 0) → Q (.tup []) (upd id (.vec h0 k e els') os) nx) : va P f [.vec id n, .fn (.func g) [] []] os nx Q := by
  subst hf
  refine ⟨?_, fun g0 w vs ho hsv hv => ?_⟩
  · obtain ⟨nm, hnm, hfn⟩ := L.f6
    exact ⟨_, hfn, hnm, rfl⟩
  have hlen : vs.size = 2 := hsv
  have hv0 := hv 0 vs[0] _ (Array.getElem?_eq_getElem (by omega)) rfl
  have hv1 := hv 1 vs[1] _ (Array.getElem?_eq_getElem (by omega)) rfl
  have hvs : vs = #[vs[0], vs[1]] := by
    apply Array.ext
    · simpa using hlen
    · intro i hi1 hi2
      have : i = 0 ∨ i = 1 := by omega
      rcases this with rfl | rfl <;> rfl
  have hfn : vs[1] = .func (.func g) #[] #[] := by
    generalize vs[1] = u at hv1
    cases hv1 with
    | fn _ fi ca _ _ hs1 hs2 =>
      have e1 : fi = #[] := Array.eq_empty_of_size_eq_zero (by simpa using hs1)
      have e2 : ca = #[] := Array.eq_empty_of_size_eq_zero (by simpa using hs2)
      rw [e1, e2]
  rw [hfn] at hvs
  obtain ⟨a, cap, hκ, hle, hcm, hw, hob⟩ := ho.ok id _ hi
  obtain ⟨a', cap', hva, hcase⟩ : ∃ a' cap', vs[0] = .slice a' n cap' ∧ (a' = a ∧ cap' = cap) := by
    generalize vs[0] = u at hv0
    cases hv0 with
    | vec a' cap' _ _ a0 len cap0 hk hle' hm ha hvq =>
      rw [hκ] at hk
      cases hk
      exact ⟨a', cap', rfl, hvq hn⟩
  obtain ⟨rfl, rfl⟩ := hcase
  rw [hva] at hvs
  clear hv0 hv1 hv hva hfn
  subst hvs
  have hrt : ∀ g' w', ga g' w' (.tuple #[]) (.tup []) := fun g' w' => .tup #[] [] rfl (fun i v d hv => by simp at hv)
  by_cases hn0 : n = 0
  · have hels : els = [] := List.eq_nil_of_length_eq_zero (by omega)
    have hcon := AnyF.slices_SortFunc_none L a' cap' (.func (.func g) #[] #[]) w
    subst hn0
    refine hcon.mono ?_
    rintro ex w' ⟨rfl, rfl⟩
    subst hels
    have hq := hQ [] (.refl _) .nil
    obtain ⟨hr1, hr2⟩ := ho.replace hi (.vec h0 k e []) [] (.refl g0) (fun _ h => h) (fun _ _ => rfl) (fun _ _ => rfl) (Nat.le_refl _) (fun _ _ _ => rfl) (ho.ok id _ hi) (fun b hb => .inl hb)
    exact ⟨_, _, g0, _, nx, rfl, hq, hr1, hrt _ _, hr2⟩
  rcases hob with ⟨_, hc0⟩ | ⟨b, off, cells, vals, rfl, hblk, hsz2, ⟨hhd, hone⟩, hcell⟩
  · omega
  have hlt : b < w.heap.size := (Array.getElem?_eq_some_iff.1 hblk).1
  let ix : Nat → Nat := fun i => if i < n then i else 0
  have hix : ∀ i, ix i < n := fun i => by show (if i < n then i else 0) < n; split <;> omega
  let E : Nat → List C := fun i => els.getD (ix i) []
  have hE : ∀ i, E i ∈ els := fun i => by
    have h4 : ix i < els.length := by rw [← hn]; exact hix i
    show els.getD (ix i) [] ∈ els
    rw [List.getD_eq_getElem?_getD, List.getElem?_eq_getElem h4]
    exact List.getElem_mem h4
  have hE2 : ∀ i, els[ix i]? = some (E i) := fun i => by
    have h4 : ix i < els.length := by rw [← hn]; exact hix i
    show els[ix i]? = some (els.getD (ix i) [])
    rw [List.getD_eq_getElem?_getD, List.getElem?_eq_getElem h4]; rfl
  let enc : Nat → List Value := fun i => (List.range k).map (vals (ix i))
  have henc : ∀ x, (enc x).length = k := fun x => by simp [enc]
  have hcl : ∀ i j, j < k → ∃ y, (E i)[j]? = some y ∧ cells[off + ix i * k + j]? = some (vals (ix i) j) ∧ vm g0.I w (vals (ix i) j) y := fun i j hj => by
    have hwd : (E i).length = k := hw _ (hE i)
    have h4 : (E i)[j]? = some ((E i)[j]'(by omega)) := List.getElem?_eq_getElem (by omega)
    exact ⟨_, h4, hcell (ix i) j _ _ (hE2 i) h4⟩
  have hO : SWO (ltOf fun i j => cf (E i) (E j)) := by
    refine ⟨fun x => ?_, fun x y z hx hy => ?_, fun x y z hx hy => ?_⟩
    · unfold ltOf; exact decide_eq_false (h1 _ (hE x))
    · unfold ltOf at *
      exact decide_eq_true (h2 _ (hE x) _ (hE y) _ (hE z) (of_decide_eq_true hx) (of_decide_eq_true hy))
    · unfold ltOf at *
      exact decide_eq_false (h3 _ (hE x) _ (hE y) _ (hE z) (of_decide_eq_false hx) (of_decide_eq_false hy))
  have hmem0 : E 0 ∈ els := hE 0
  have eg : ∀ args w, (callFunc g args).run P w = .ok (.enter g args) w := by
    obtain ⟨⟨fn, h4, h5, h6⟩, _⟩ := hcmp _ hmem0 _ hmem0
    cases hb : fn.body with
    | none => rw [hb] at h6; cases h6
    | some c => exact enters_of h4 h5 hb
  have hIb : ∀ b', g0.I b' → b' < w.heap.size ∧ b' ≠ b := fun b' hb' => ⟨(ho.imm b' hb').1, fun e => (ho.imm b' hb').2 ⟨id, _, hi, by rw [e]; simp [G.blk, hκ]⟩⟩
  have hkeep : ∀ (m : Nat) (dk : Array Nat) (os' : Array Obj), vo g0.I w (sortWorldK enc k w b off m dk os') := fun m dk os' b' hb' => by
    rw [yaw hblk (hIb b' hb').1, if_neg (hIb b' hb').2]
  have hcl2 : CmpLays P g #[] enc k (fun i j => cf (E i) (E j)) b off n w := by
    intro m os' dk hdk x y
    have harg : ∀ (i : Nat) (v : Value) (d : D), (#[Value.agg (enc x).toArray, .agg (enc y).toArray] : Array Value)[i]? = some v → [D.agg ((E x).map .c), .agg ((E y).map .c)][i]? = some d → ga (G0 g0.I) (sortWorldK enc k w b off m dk os') v d := by
      have one : ∀ x, ga (G0 g0.I) (sortWorldK enc k w b off m dk os') (.agg (enc x).toArray) (.agg ((E x).map .c)) := fun x => by
        have hwd : (E x).length = k := hw _ (hE x)
        refine .agg _ _ (by simp [henc, hwd]) fun i v d hv hd => ?_
        simp only [List.getElem?_toArray, enc, List.getElem?_map] at hv
        have hik : i < k := by
          rcases Nat.lt_or_ge i k with h | h
          · exact h
          · rw [List.getElem?_eq_none (by simpa using h)] at hv; cases hv
        rw [List.getElem?_range hik] at hv
        simp only [Option.map_some, Option.some.injEq] at hv
        obtain ⟨z, h4, h5, h6⟩ := hcl x i hik
        rw [List.getElem?_map, h4] at hd
        simp only [Option.map_some, Option.some.injEq] at hd
        subst hv; subst hd
        exact .c _ _ (h6.mono (hkeep m dk os') fun b hb => hb)
      intro i v d hv hd
      have : i = 0 ∨ i = 1 ∨ 2 ≤ i := by omega
      rcases this with rfl | rfl | h
      · simp at hv hd; subst hv; subst hd; exact one x
      · simp at hv hd; subst hv; subst hd; exact one y
      · rw [List.getElem?_eq_none (by simpa using h)] at hd; cases hd
    have hc := (hcmp _ (hE x) _ (hE y)).2 g0.I (sortWorldK enc k w b off m dk os') #[.agg (enc x).toArray, .agg (enc y).toArray] (fun b' hb' => (ho.cel b' hb').keep (hkeep m dk os' b' hb')) rfl harg
    refine hc.mono ?_
    rintro ex w' ⟨v, I', rfl, hvr, hext, _⟩
    have := hvr.gi
    subst this
    exact ⟨rfl, ja2 hext⟩
  have hflat : ∀ (d : Array Nat) (t : Nat), t < d.size * k → (flatK enc k d)[t]! = vals (ix d[t / k]!) (t % k) := fun d t ht => by
    rw [get_flatK _ _ _ _ ht]
    have : t % k < k := Nat.mod_lt _ hk0
    simp [enc, this]
  have hH : HoldsK enc k w b off (Array.range n) := by
    intro t ht
    simp only [size_flatK, Array.size_range] at ht
    have h4 : t / k < n := (Nat.div_lt_iff_lt_mul hk0).2 ht
    rw [hflat _ _ (by simpa using ht)]
    have h5 : (Array.range n)[t / k]! = t / k := by simp [h4]
    rw [h5]
    have h6 : ix (t / k) = t / k := by show (if t / k < n then t / k else 0) = t / k; rw [if_pos h4]
    obtain ⟨y, h7, h8, h9⟩ := hcl (t / k) (t % k) (Nat.mod_lt _ hk0)
    rw [h6, show off + t / k * k + t % k = off + t by rw [Nat.add_assoc, Nat.div_add_mod']] at h8
    rw [h6]
    refine ⟨by simp only [World.cell?, hblk]; simpa using h8, by simp [World.frozen?, hblk]⟩
  have hcon := AnyQ.slices_SortFunc L k aE zE enc henc (fun x v hv => by
    simp only [enc, List.mem_map, List.mem_range] at hv
    obtain ⟨j, hj, rfl⟩ := hv
    obtain ⟨y, h7, h8, h9⟩ := hcl x j hj
    exact hone _ (Array.mem_toList_iff.2 (Array.mem_of_getElem? h8))) (fun i j => cf (E i) (E j)) hO g #[] b off cap' (Array.range n) w eg (by simpa using hcl2) hH hlt (by simpa using hsz)
  rw [Array.size_range] at hcon
  refine hcon.mono ?_
  rintro ex w' ⟨rfl, d', m, os', ⟨hp1, _, hp2⟩, hso, rfl⟩
  rw [Array.size_range] at hp1
  have hperm : d'.toList.Perm (List.range n) := by
    have e1 : d'.extract 0 n = d' := by rw [← hp1, Array.extract_size]
    have e2 : (Array.range n).extract 0 n = Array.range n := by
      have : (Array.range n).size = n := Array.size_range
      conv => lhs; arg 3; rw [← this]
      exact Array.extract_size
    rw [e1, e2, Array.toList_range] at hp2
    exact hp2
  have hEr : (List.range n).map E = els := by
    apply List.ext_getElem?
    intro i
    rw [List.getElem?_map]
    by_cases hin : i < n
    · rw [List.getElem?_range hin, Option.map_some, ← hE2 i]
      show els[ix i]? = _
      have : ix i = i := by show (if i < n then i else 0) = i; rw [if_pos hin]
      rw [this]
    · rw [List.getElem?_eq_none (by simpa using hin), List.getElem?_eq_none (by omega)]; rfl
  have hpe : (d'.toList.map E).Perm els := by
    have := hperm.map E
    rwa [hEr] at this
  have hlen' : (d'.toList.map E).length = n := by rw [hpe.length_eq]; exact hn.symm
  have hpw : (d'.toList.map E).Pairwise (fun x y => ¬ cf y x < 0) := by
    rw [List.pairwise_map, List.pairwise_iff_getElem]
    intro i j hi hj hij
    have hi' : i < d'.size := by simpa using hi
    have hj' : j < d'.size := by simpa using hj
    have := hso i j (Nat.zero_le _) hij (by omega)
    rw [getElem!_pos d' i hi', getElem!_pos d' j hj'] at this
    have := of_decide_eq_false this
    simpa using this
  have hq := hQ _ hpe hpw
  have hdn : ∀ i, i < n → d'[i]! < n := fun i hi => by
    have hi' : i < d'.size := by omega
    rw [getElem!_pos d' i hi']
    exact List.mem_range.1 (hperm.mem_iff.1 (by simp))
  have hok : OK g0 (sortWorldK enc k w b off m d' os') id (.vec h0 k e (d'.toList.map E)) := by
    refine ⟨some ⟨b, off, none⟩, cap', by rw [hlen', hn]; exact hκ, by omega, hcm, fun x hx => hw x (hpe.mem_iff.1 hx), .inr ⟨b, off, putCells _root_.id off (flatK enc k d') cells, fun i j => vals (ix d'[i]!) j, rfl, by rw [yaw hblk hlt, if_pos rfl], ?_, ⟨?_, ?_⟩, ?_⟩⟩
    · simpa [putCells] using hsz2
    · intro h
      have := hhd h
      simpa [putCells] using this
    · intro v hv
      rw [Array.mem_toList_iff] at hv
      obtain ⟨t, ht, htv⟩ := Array.mem_iff_getElem.1 hv
      have ht' : t < cells.size := by simpa [putCells] using ht
      have h4 := qP (off := off) (F := flatK enc k d') ht'
      rw [Array.getElem?_eq_getElem ht, htv] at h4
      split at h4
      · rename_i h5
        simp only [Option.some.injEq] at h4
        rw [size_flatK] at h5
        rw [h4, hflat _ _ (by omega)]
        obtain ⟨y, h7, h8, h9⟩ := hcl (d'[(t - off) / k]!) ((t - off) % k) (Nat.mod_lt _ hk0)
        exact hone _ (Array.mem_toList_iff.2 (Array.mem_of_getElem? h8))
      · exact hone _ (Array.mem_toList_iff.2 (Array.mem_of_getElem? h4.symm))
    · intro i j x y hx hy
      rw [List.getElem?_map] at hx
      have hin : i < n := by
        rcases Nat.lt_or_ge i n with h | h
        · exact h
        · rw [List.getElem?_eq_none (by simp; omega)] at hx; cases hx
      have hi' : i < d'.size := by omega
      have h4 : d'.toList[i]? = some d'[i]! := by rw [getElem!_pos d' i hi', Array.getElem?_toList, Array.getElem?_eq_getElem hi']
      rw [h4] at hx
      simp only [Option.map_some, Option.some.injEq] at hx
      subst hx
      have hjk : j < k := by
        have hwd := hw _ (hE d'[i]!)
        have := (List.getElem?_eq_some_iff.1 hy).1
        omega
      obtain ⟨z, h7, h8, h9⟩ := hcl d'[i]! j hjk
      rw [h7] at hy
      cases hy
      have hb1 : i * k + j < n * k := by
        have := Nat.mul_le_mul_right k (show i + 1 ≤ n from hin)
        rw [Nat.add_mul, Nat.one_mul] at this; omega
      have hb2 : n * k ≤ cap' * k := Nat.mul_le_mul_right k (by omega)
      have h10 : off + i * k + j < cells.size := by omega
      rw [qP h10, if_pos ⟨by omega, by rw [size_flatK, hp1]; omega⟩, show off + i * k + j - off = i * k + j by omega, hflat _ _ (by rw [hp1]; exact hb1)]
      have e1 : (i * k + j) / k = i := by rw [Nat.add_comm, Nat.add_mul_div_right _ _ hk0, Nat.div_eq_of_lt hjk, Nat.zero_add]
      have e2 : (i * k + j) % k = j := by rw [Nat.add_comm, Nat.add_mul_mod_self_right, Nat.mod_eq_of_lt hjk]
      rw [e1, e2]
      exact ⟨rfl, h9.mono (hkeep m d' os') fun b hb => hb⟩
  obtain ⟨hr1, hr2⟩ := ho.replace hi (.vec h0 k e (d'.toList.map E)) [] (.refl g0) (fun _ h => h) (fun _ _ => rfl) (fun _ _ => rfl) qbu (fun b' hb' hne => by
    rw [yaw hblk hb', if_neg fun e => hne (by rw [e]; simp [G.blk, hκ])]) hok (fun b' hb' => .inl (by simpa [G.blk, hκ] using hb')) ubU
  exact ⟨_, _, g0, _, nx, rfl, hq, hr1, hrt _ _, hr2⟩
end
end Dm
