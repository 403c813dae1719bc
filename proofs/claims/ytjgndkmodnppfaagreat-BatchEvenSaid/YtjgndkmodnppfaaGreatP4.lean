import Derived.Test.YtjgndkmodnppfaaGreatP3
import Derived.Shelf.Abstract
set_option linter.unusedSimpArgs false
set_option linter.unusedVariables false
set_option linter.unusedSectionVars false
namespace Dm
set_option maxRecDepth 20000
def lvL (l : List (Nat × List Nat)) (i : Nat) : Option (List Nat) := lk i l
@[go_sem] theorem lvL_eq (l : List (Nat × List Nat)) (i : Nat) : lvL l i = lk i l := rfl
abbrev lv7 : Nat → Option (List Nat) := lvL [(0, [0, 1]), (1, [0, 1, 14]), (2, [4]), (3, [0, 1, 5, 6]), (4, [0, 1, 5, 22]), (5, [4]), (6, [0, 1, 5, 56]), (7, [4]), (8, [0, 1, 5, 7, 8]), (9, [0, 1, 5, 7, 8, 9]), (10, [0, 1, 5, 7, 8, 9, 10]), (11, [0, 1, 7, 8, 9, 10, 70, 71, 72]), (12, [0, 1, 7, 8, 9, 10, 70, 71, 72, 73]), (13, [0, 1, 7, 8, 9, 10, 11, 12, 70, 71, 72]), (14, [0, 1, 7, 8, 9, 10, 11, 12, 70, 71, 72]), (15, [0, 1, 7, 8, 9, 10, 11, 12, 70, 71, 72]), (16, [0, 1, 7, 8, 9, 10, 70, 71, 72, 91]), (17, [4]), (18, [0, 1, 7, 8, 9, 10, 70, 71, 72]), (19, [4])]
@[go_sem] def us7_16 : List Nat := [0, 1, 0, 0, 12, 28, 63]
theorem ac7 {T : Tab} (hT : TabOk Go.Proofs.Tryz.prog T) {ds : List D} {os : List (Nat × Ob)} {nx : Nat} {Q : D → List (Nat × Ob) → Nat → Prop} (hl : ds.length ≤ 106) (h : awp Go.Proofs.Tryz.prog T 106 nx lv7 (Go.Proofs.Tryz.f7.body.getD .skip) (fin Go.Proofs.Tryz.prog [.tmp 4] Q) ⟨prm 0 ds, os, nx⟩) : ACall Go.Proofs.Tryz.prog 7 ds os nx Q :=
  acall_intro hT.toS (fn := Go.Proofs.Tryz.f7) lv7 (by kernel_rfl) rfl rfl (by kernel_rfl) rfl hl rfl h
abbrev lv8 : Nat → Option (List Nat) := lvL [(0, []), (1, [1, 2]), (2, [2, 5, 6]), (3, [0])]
theorem ac8 {T : Tab} (hT : TabOk Go.Proofs.Tryz.prog T) {ds : List D} {os : List (Nat × Ob)} {nx : Nat} {Q : D → List (Nat × Ob) → Nat → Prop} (hl : ds.length ≤ 33) (h : awp Go.Proofs.Tryz.prog T 33 nx lv8 (Go.Proofs.Tryz.f8.body.getD .skip) (fin Go.Proofs.Tryz.prog [.tmp 0] Q) ⟨prm 0 ds, os, nx⟩) : ACall Go.Proofs.Tryz.prog 8 ds os nx Q :=
  acall_intro hT.toS (fn := Go.Proofs.Tryz.f8) lv8 (by kernel_rfl) rfl rfl (by kernel_rfl) rfl hl rfl h
abbrev lv10 : Nat → Option (List Nat) := lvL [(0, [1, 2, 4]), (1, [1, 2, 4, 9]), (2, [1, 2, 4, 9, 22]), (3, [4, 5, 6, 7]), (4, [1, 2, 4, 10]), (5, [2, 4, 10, 28, 29, 30]), (6, [2, 4, 10, 28, 29, 30, 31]), (7, [2, 4, 10, 11, 12, 28, 29, 30]), (8, [2, 4, 10, 11, 13, 14, 15, 28, 29, 30]), (9, [2, 4, 10, 11, 13, 14, 15, 28, 29, 30, 46]), (10, [4, 5, 6, 7]), (11, [2, 4, 10, 28, 29, 30]), (12, [2, 4, 10, 28, 29, 30]), (13, [4, 5, 6, 7])]
theorem ac10 {T : Tab} (hT : TabOk Go.Proofs.Tryz.prog T) {ds : List D} {os : List (Nat × Ob)} {nx : Nat} {Q : D → List (Nat × Ob) → Nat → Prop} (hl : ds.length ≤ 58) (h : awp Go.Proofs.Tryz.prog T 58 nx lv10 (Go.Proofs.Tryz.f10.body.getD .skip) (fin Go.Proofs.Tryz.prog [.cell 4 31, .tmp 5, .tmp 6, .tmp 7] Q) ⟨prm 0 ds, os, nx⟩) : ACall Go.Proofs.Tryz.prog 10 ds os nx Q :=
  acall_intro hT.toS (fn := Go.Proofs.Tryz.f10) lv10 (by kernel_rfl) rfl rfl (by kernel_rfl) rfl hl rfl h
abbrev lv11 : Nat → Option (List Nat) := lvL [(0, [0, 2]), (1, [0, 2, 4]), (2, [0, 2, 19]), (3, [2, 3]), (4, [2, 20, 21, 22]), (5, [2, 20, 21, 22, 23]), (6, [2, 6, 20, 21, 22]), (7, [2, 3, 20, 21, 22]), (8, [2, 3, 20, 21, 22, 35]), (9, [2, 3]), (10, [2, 20, 21, 22]), (11, [2, 3])]
theorem ac11 {T : Tab} (hT : TabOk Go.Proofs.Tryz.prog T) {ds : List D} {os : List (Nat × Ob)} {nx : Nat} {Q : D → List (Nat × Ob) → Nat → Prop} (hl : ds.length ≤ 39) (h : awp Go.Proofs.Tryz.prog T 39 nx lv11 (Go.Proofs.Tryz.f11.body.getD .skip) (fin Go.Proofs.Tryz.prog [.tmp 2, .tmp 3] Q) ⟨prm 0 ds, os, nx⟩) : ACall Go.Proofs.Tryz.prog 11 ds os nx Q :=
  acall_intro hT.toS (fn := Go.Proofs.Tryz.f11) lv11 (by kernel_rfl) rfl rfl (by kernel_rfl) rfl hl rfl h
abbrev lv12 : Nat → Option (List Nat) := lvL [(0, [3, 4, 5, 6]), (1, [3, 4, 5, 6, 9]), (2, [3, 4, 5, 6, 9]), (3, [3, 4, 5, 6, 9, 10, 11]), (4, [3, 4, 5, 6, 9, 10]), (5, [3, 4, 5, 6, 9, 10]), (6, [3, 5, 6, 9, 10]), (7, [3, 5, 6, 9]), (8, [3, 6, 9]), (9, [3, 6, 9]), (10, [3, 6, 11, 12]), (11, [3, 6, 11, 12, 77]), (12, [6, 7, 8]), (13, [6, 7, 8])]
@[go_sem] def us12_13 : List Nat := [0, 0, 2, 1, 15, 31]
theorem ac12 {T : Tab} (hT : TabOk Go.Proofs.Tryz.prog T) {ds : List D} {os : List (Nat × Ob)} {nx : Nat} {Q : D → List (Nat × Ob) → Nat → Prop} (hl : ds.length ≤ 83) (h : awp Go.Proofs.Tryz.prog T 83 nx lv12 (Go.Proofs.Tryz.f12.body.getD .skip) (fin Go.Proofs.Tryz.prog [.cell 6 31, .tmp 7, .tmp 8] Q) ⟨prm 0 ds, os, nx⟩) : ACall Go.Proofs.Tryz.prog 12 ds os nx Q :=
  acall_intro hT.toS (fn := Go.Proofs.Tryz.f12) lv12 (by kernel_rfl) rfl rfl (by kernel_rfl) rfl hl rfl h
abbrev lv14 : Nat → Option (List Nat) := lvL [(0, [1]), (1, [1, 37]), (2, [2]), (3, [1, 3]), (4, [1, 54]), (5, [2]), (6, [4, 5]), (7, [68]), (8, [2]), (9, [2])]
@[go_sem] def us14_4 : List Nat := [0, 1, 3, 7, 15, 7, 39, 127, 255, 511, 7, 1031, 4095, 8191]
theorem ac14 {T : Tab} (hT : TabOk Go.Proofs.Tryz.prog T) {ds : List D} {os : List (Nat × Ob)} {nx : Nat} {Q : D → List (Nat × Ob) → Nat → Prop} (hl : ds.length ≤ 69) (h : awp Go.Proofs.Tryz.prog T 69 nx lv14 (Go.Proofs.Tryz.f14.body.getD .skip) (fin Go.Proofs.Tryz.prog [.tmp 2] Q) ⟨prm 0 ds, os, nx⟩) : ACall Go.Proofs.Tryz.prog 14 ds os nx Q :=
  acall_intro hT.toS (fn := Go.Proofs.Tryz.f14) lv14 (by kernel_rfl) rfl rfl (by kernel_rfl) rfl hl rfl h
abbrev lv21 : Nat → Option (List Nat) := lvL [(0, [0, 1]), (1, [0, 1, 13]), (2, [4, 5]), (3, [1, 6, 7]), (4, [1, 6, 28]), (5, [4, 5]), (6, [1, 6, 8]), (7, [6, 8, 32, 33, 34]), (8, [6, 8, 32, 33, 34, 35]), (9, [6, 8, 9, 10, 32, 33, 34]), (10, [6, 8, 32, 33, 34]), (11, [6, 8, 32, 33, 34]), (12, [4, 5])]
theorem ac21 {T : Tab} (hT : TabOk Go.Proofs.Tryz.prog T) {ds : List D} {os : List (Nat × Ob)} {nx : Nat} {Q : D → List (Nat × Ob) → Nat → Prop} (hl : ds.length ≤ 50) (h : awp Go.Proofs.Tryz.prog T 50 nx lv21 (Go.Proofs.Tryz.f21.body.getD .skip) (fin Go.Proofs.Tryz.prog [.tmp 4, .tmp 5] Q) ⟨prm 0 ds, os, nx⟩) : ACall Go.Proofs.Tryz.prog 21 ds os nx Q :=
  acall_intro hT.toS (fn := Go.Proofs.Tryz.f21) lv21 (by kernel_rfl) rfl rfl (by kernel_rfl) rfl hl rfl h
abbrev lv25 : Nat → Option (List Nat) := lvL [(0, [2, 3, 4]), (1, [3, 4, 6]), (2, [3, 4, 6]), (3, [4, 6]), (4, [4, 5])]
theorem ac25 {T : Tab} (hT : TabOk Go.Proofs.Tryz.prog T) {ds : List D} {os : List (Nat × Ob)} {nx : Nat} {Q : D → List (Nat × Ob) → Nat → Prop} (hl : ds.length ≤ 26) (h : awp Go.Proofs.Tryz.prog T 26 nx lv25 (Go.Proofs.Tryz.f25.body.getD .skip) (fin Go.Proofs.Tryz.prog [.cell 4 31, .tmp 5] Q) ⟨prm 0 ds, os, nx⟩) : ACall Go.Proofs.Tryz.prog 25 ds os nx Q :=
  acall_intro hT.toS (fn := Go.Proofs.Tryz.f25) lv25 (by kernel_rfl) rfl rfl (by kernel_rfl) rfl hl rfl h
abbrev lv26 : Nat → Option (List Nat) := lvL [(0, [0]), (1, [0])]
theorem ac26 {T : Tab} (hT : TabOk Go.Proofs.Tryz.prog T) {ds : List D} {os : List (Nat × Ob)} {nx : Nat} {Q : D → List (Nat × Ob) → Nat → Prop} (hl : ds.length ≤ 3) (h : awp Go.Proofs.Tryz.prog T 3 nx lv26 (Go.Proofs.Tryz.f26.body.getD .skip) (fin Go.Proofs.Tryz.prog [.cell 0 31] Q) ⟨prm 0 ds, os, nx⟩) : ACall Go.Proofs.Tryz.prog 26 ds os nx Q :=
  acall_intro hT.toS (fn := Go.Proofs.Tryz.f26) lv26 (by kernel_rfl) rfl rfl (by kernel_rfl) rfl hl rfl h
abbrev lv28 : Nat → Option (List Nat) := lvL [(0, [1]), (1, [2])]
theorem ac28 {T : Tab} (hT : TabOk Go.Proofs.Tryz.prog T) {ds : List D} {os : List (Nat × Ob)} {nx : Nat} {Q : D → List (Nat × Ob) → Nat → Prop} (hl : ds.length ≤ 13) (h : awp Go.Proofs.Tryz.prog T 13 nx lv28 (Go.Proofs.Tryz.f28.body.getD .skip) (fin Go.Proofs.Tryz.prog [.tmp 2] Q) ⟨prm 0 ds, os, nx⟩) : ACall Go.Proofs.Tryz.prog 28 ds os nx Q :=
  acall_intro hT.toS (fn := Go.Proofs.Tryz.f28) lv28 (by kernel_rfl) rfl rfl (by kernel_rfl) rfl hl rfl h
abbrev lv29 : Nat → Option (List Nat) := lvL [(0, [0]), (1, [10]), (2, [2]), (3, [2])]
theorem ac29 {T : Tab} (hT : TabOk Go.Proofs.Tryz.prog T) {ds : List D} {os : List (Nat × Ob)} {nx : Nat} {Q : D → List (Nat × Ob) → Nat → Prop} (hl : ds.length ≤ 11) (h : awp Go.Proofs.Tryz.prog T 11 nx lv29 (Go.Proofs.Tryz.f29.body.getD .skip) (fin Go.Proofs.Tryz.prog [.tmp 2] Q) ⟨prm 0 ds, os, nx⟩) : ACall Go.Proofs.Tryz.prog 29 ds os nx Q :=
  acall_intro hT.toS (fn := Go.Proofs.Tryz.f29) lv29 (by kernel_rfl) rfl rfl (by kernel_rfl) rfl hl rfl h
abbrev lv30 : Nat → Option (List Nat) := lvL [(0, [0, 1]), (1, [4])]
theorem ac30 {T : Tab} (hT : TabOk Go.Proofs.Tryz.prog T) {ds : List D} {os : List (Nat × Ob)} {nx : Nat} {Q : D → List (Nat × Ob) → Nat → Prop} (hl : ds.length ≤ 9) (h : awp Go.Proofs.Tryz.prog T 9 nx lv30 (Go.Proofs.Tryz.f30.body.getD .skip) (fin Go.Proofs.Tryz.prog [.tmp 4] Q) ⟨prm 0 ds, os, nx⟩) : ACall Go.Proofs.Tryz.prog 30 ds os nx Q :=
  acall_intro hT.toS (fn := Go.Proofs.Tryz.f30) lv30 (by kernel_rfl) rfl rfl (by kernel_rfl) rfl hl rfl h
abbrev lv31 : Nat → Option (List Nat) := lvL [(0, [0, 2]), (1, [0, 2, 3]), (2, [0, 2, 3, 9]), (3, [2, 3]), (4, [2, 11, 12, 13]), (5, [2, 11, 12, 13, 14]), (6, [2, 5, 11, 12, 13]), (7, [2, 11, 12, 13]), (8, [2, 11, 12, 13, 21]), (9, [2, 3]), (10, [2, 11, 12, 13]), (11, [2, 3])]
theorem ac31 {T : Tab} (hT : TabOk Go.Proofs.Tryz.prog T) {ds : List D} {os : List (Nat × Ob)} {nx : Nat} {Q : D → List (Nat × Ob) → Nat → Prop} (hl : ds.length ≤ 24) (h : awp Go.Proofs.Tryz.prog T 24 nx lv31 (Go.Proofs.Tryz.f31.body.getD .skip) (fin Go.Proofs.Tryz.prog [.tmp 2, .tmp 3] Q) ⟨prm 0 ds, os, nx⟩) : ACall Go.Proofs.Tryz.prog 31 ds os nx Q :=
  acall_intro hT.toS (fn := Go.Proofs.Tryz.f31) lv31 (by kernel_rfl) rfl rfl (by kernel_rfl) rfl hl rfl h
abbrev lv32 : Nat → Option (List Nat) := lvL [(0, [1]), (1, [2])]
@[go_sem] def us32_1 : List Nat := [0, 0, 2, 7, 15, 31]
theorem ac32 {T : Tab} (hT : TabOk Go.Proofs.Tryz.prog T) {ds : List D} {os : List (Nat × Ob)} {nx : Nat} {Q : D → List (Nat × Ob) → Nat → Prop} (hl : ds.length ≤ 8) (h : awp Go.Proofs.Tryz.prog T 8 nx lv32 (Go.Proofs.Tryz.f32.body.getD .skip) (fin Go.Proofs.Tryz.prog [.tmp 2] Q) ⟨prm 0 ds, os, nx⟩) : ACall Go.Proofs.Tryz.prog 32 ds os nx Q :=
  acall_intro hT.toS (fn := Go.Proofs.Tryz.f32) lv32 (by kernel_rfl) rfl rfl (by kernel_rfl) rfl hl rfl h
abbrev lv33 : Nat → Option (List Nat) := lvL [(0, [0, 2, 14]), (1, [])]
theorem ac33 {T : Tab} (hT : TabOk Go.Proofs.Tryz.prog T) {ds : List D} {os : List (Nat × Ob)} {nx : Nat} {Q : D → List (Nat × Ob) → Nat → Prop} (hl : ds.length ≤ 19) (h : awp Go.Proofs.Tryz.prog T 19 nx lv33 (Go.Proofs.Tryz.f33.body.getD .skip) (fin Go.Proofs.Tryz.prog [] Q) ⟨prm 0 ds, os, nx⟩) : ACall Go.Proofs.Tryz.prog 33 ds os nx Q :=
  acall_intro hT.toS (fn := Go.Proofs.Tryz.f33) lv33 (by kernel_rfl) rfl rfl (by kernel_rfl) rfl hl rfl h
abbrev lv34 : Nat → Option (List Nat) := lvL [(0, [0, 1, 2]), (1, [8, 9]), (2, [8, 9, 17]), (3, [6, 7]), (4, [8, 21]), (5, [6, 7]), (6, [6, 7])]
theorem ac34 {T : Tab} (hT : TabOk Go.Proofs.Tryz.prog T) {ds : List D} {os : List (Nat × Ob)} {nx : Nat} {Q : D → List (Nat × Ob) → Nat → Prop} (hl : ds.length ≤ 28) (h : awp Go.Proofs.Tryz.prog T 28 nx lv34 (Go.Proofs.Tryz.f34.body.getD .skip) (fin Go.Proofs.Tryz.prog [.tmp 6, .tmp 7] Q) ⟨prm 0 ds, os, nx⟩) : ACall Go.Proofs.Tryz.prog 34 ds os nx Q :=
  acall_intro hT.toS (fn := Go.Proofs.Tryz.f34) lv34 (by kernel_rfl) rfl rfl (by kernel_rfl) rfl hl rfl h
abbrev lv35 : Nat → Option (List Nat) := lvL [(0, [0, 1, 2, 12]), (1, [0, 1, 6, 7]), (2, [0, 1, 6, 7, 22]), (3, []), (4, [])]
theorem ac35 {T : Tab} (hT : TabOk Go.Proofs.Tryz.prog T) {ds : List D} {os : List (Nat × Ob)} {nx : Nat} {Q : D → List (Nat × Ob) → Nat → Prop} (hl : ds.length ≤ 30) (h : awp Go.Proofs.Tryz.prog T 30 nx lv35 (Go.Proofs.Tryz.f35.body.getD .skip) (fin Go.Proofs.Tryz.prog [] Q) ⟨prm 0 ds, os, nx⟩) : ACall Go.Proofs.Tryz.prog 35 ds os nx Q :=
  acall_intro hT.toS (fn := Go.Proofs.Tryz.f35) lv35 (by kernel_rfl) rfl rfl (by kernel_rfl) rfl hl rfl h
abbrev lv36 : Nat → Option (List Nat) := lvL [(0, [0, 1, 2, 3, 4]), (1, [6, 7])]
theorem ac36 {T : Tab} (hT : TabOk Go.Proofs.Tryz.prog T) {ds : List D} {os : List (Nat × Ob)} {nx : Nat} {Q : D → List (Nat × Ob) → Nat → Prop} (hl : ds.length ≤ 18) (h : awp Go.Proofs.Tryz.prog T 18 nx lv36 (Go.Proofs.Tryz.f36.body.getD .skip) (fin Go.Proofs.Tryz.prog [.tmp 6, .tmp 7] Q) ⟨prm 0 ds, os, nx⟩) : ACall Go.Proofs.Tryz.prog 36 ds os nx Q :=
  acall_intro hT.toS (fn := Go.Proofs.Tryz.f36) lv36 (by kernel_rfl) rfl rfl (by kernel_rfl) rfl hl rfl h
abbrev lv37 : Nat → Option (List Nat) := lvL [(0, [0, 3]), (1, [0, 3, 6, 7]), (2, [0, 3, 6, 7, 16]), (3, [4, 5]), (4, [0, 3, 6, 29]), (5, [4, 5]), (6, [0, 3, 6]), (7, [0, 3, 6, 36]), (8, [0, 3, 6, 8]), (9, [0, 3, 6, 8, 40]), (10, [4, 5]), (11, [0, 3, 6, 8]), (12, [0, 3, 6, 48]), (13, [0, 3, 6]), (14, [4, 5])]
theorem ac37 {T : Tab} (hT : TabOk Go.Proofs.Tryz.prog T) {ds : List D} {os : List (Nat × Ob)} {nx : Nat} {Q : D → List (Nat × Ob) → Nat → Prop} (hl : ds.length ≤ 56) (h : awp Go.Proofs.Tryz.prog T 56 nx lv37 (Go.Proofs.Tryz.f37.body.getD .skip) (fin Go.Proofs.Tryz.prog [.tmp 4, .tmp 5] Q) ⟨prm 0 ds, os, nx⟩) : ACall Go.Proofs.Tryz.prog 37 ds os nx Q :=
  acall_intro hT.toS (fn := Go.Proofs.Tryz.f37) lv37 (by kernel_rfl) rfl rfl (by kernel_rfl) rfl hl rfl h
abbrev lv38 : Nat → Option (List Nat) := lvL [(0, [0, 1, 2, 12]), (1, [0, 1, 6, 7]), (2, [0, 1, 6, 7, 22]), (3, []), (4, [])]
theorem ac38 {T : Tab} (hT : TabOk Go.Proofs.Tryz.prog T) {ds : List D} {os : List (Nat × Ob)} {nx : Nat} {Q : D → List (Nat × Ob) → Nat → Prop} (hl : ds.length ≤ 30) (h : awp Go.Proofs.Tryz.prog T 30 nx lv38 (Go.Proofs.Tryz.f38.body.getD .skip) (fin Go.Proofs.Tryz.prog [] Q) ⟨prm 0 ds, os, nx⟩) : ACall Go.Proofs.Tryz.prog 38 ds os nx Q :=
  acall_intro hT.toS (fn := Go.Proofs.Tryz.f38) lv38 (by kernel_rfl) rfl rfl (by kernel_rfl) rfl hl rfl h
abbrev lv39 : Nat → Option (List Nat) := lvL [(0, [0, 1, 2, 3]), (1, [5, 6])]
theorem ac39 {T : Tab} (hT : TabOk Go.Proofs.Tryz.prog T) {ds : List D} {os : List (Nat × Ob)} {nx : Nat} {Q : D → List (Nat × Ob) → Nat → Prop} (hl : ds.length ≤ 15) (h : awp Go.Proofs.Tryz.prog T 15 nx lv39 (Go.Proofs.Tryz.f39.body.getD .skip) (fin Go.Proofs.Tryz.prog [.tmp 5, .tmp 6] Q) ⟨prm 0 ds, os, nx⟩) : ACall Go.Proofs.Tryz.prog 39 ds os nx Q :=
  acall_intro hT.toS (fn := Go.Proofs.Tryz.f39) lv39 (by kernel_rfl) rfl rfl (by kernel_rfl) rfl hl rfl h
abbrev lv40 : Nat → Option (List Nat) := lvL [(0, [1, 4, 6, 7]), (1, [8, 9])]
theorem ac40 {T : Tab} (hT : TabOk Go.Proofs.Tryz.prog T) {ds : List D} {os : List (Nat × Ob)} {nx : Nat} {Q : D → List (Nat × Ob) → Nat → Prop} (hl : ds.length ≤ 16) (h : awp Go.Proofs.Tryz.prog T 16 nx lv40 (Go.Proofs.Tryz.f40.body.getD .skip) (fin Go.Proofs.Tryz.prog [.tmp 8, .tmp 9] Q) ⟨prm 0 ds, os, nx⟩) : ACall Go.Proofs.Tryz.prog 40 ds os nx Q :=
  acall_intro hT.toS (fn := Go.Proofs.Tryz.f40) lv40 (by kernel_rfl) rfl rfl (by kernel_rfl) rfl hl rfl h
abbrev lv41 : Nat → Option (List Nat) := lvL [(0, [0, 5, 6, 7]), (1, [])]
theorem ac41 {T : Tab} (hT : TabOk Go.Proofs.Tryz.prog T) {ds : List D} {os : List (Nat × Ob)} {nx : Nat} {Q : D → List (Nat × Ob) → Nat → Prop} (hl : ds.length ≤ 15) (h : awp Go.Proofs.Tryz.prog T 15 nx lv41 (Go.Proofs.Tryz.f41.body.getD .skip) (fin Go.Proofs.Tryz.prog [] Q) ⟨prm 0 ds, os, nx⟩) : ACall Go.Proofs.Tryz.prog 41 ds os nx Q :=
  acall_intro hT.toS (fn := Go.Proofs.Tryz.f41) lv41 (by kernel_rfl) rfl rfl (by kernel_rfl) rfl hl rfl h
abbrev lv42 : Nat → Option (List Nat) := lvL [(0, [0, 2]), (1, [0, 2, 8]), (2, [2, 3]), (3, [2, 3])]
@[go_sem] def us42_2 : List Nat := [0, 0, 2, 6, 14, 1, 63]
theorem ac42 {T : Tab} (hT : TabOk Go.Proofs.Tryz.prog T) {ds : List D} {os : List (Nat × Ob)} {nx : Nat} {Q : D → List (Nat × Ob) → Nat → Prop} (hl : ds.length ≤ 19) (h : awp Go.Proofs.Tryz.prog T 19 nx lv42 (Go.Proofs.Tryz.f42.body.getD .skip) (fin Go.Proofs.Tryz.prog [.cell 2 31, .tmp 3] Q) ⟨prm 0 ds, os, nx⟩) : ACall Go.Proofs.Tryz.prog 42 ds os nx Q :=
  acall_intro hT.toS (fn := Go.Proofs.Tryz.f42) lv42 (by kernel_rfl) rfl rfl (by kernel_rfl) rfl hl rfl h
abbrev lv43 : Nat → Option (List Nat) := lvL [(0, [0]), (1, [4]), (2, [2])]
theorem ac43 {T : Tab} (hT : TabOk Go.Proofs.Tryz.prog T) {ds : List D} {os : List (Nat × Ob)} {nx : Nat} {Q : D → List (Nat × Ob) → Nat → Prop} (hl : ds.length ≤ 11) (h : awp Go.Proofs.Tryz.prog T 11 nx lv43 (Go.Proofs.Tryz.f43.body.getD .skip) (fin Go.Proofs.Tryz.prog [.tmp 2] Q) ⟨prm 0 ds, os, nx⟩) : ACall Go.Proofs.Tryz.prog 43 ds os nx Q :=
  acall_intro hT.toS (fn := Go.Proofs.Tryz.f43) lv43 (by kernel_rfl) rfl rfl (by kernel_rfl) rfl hl rfl h
abbrev lv45 : Nat → Option (List Nat) := lvL [(0, [0]), (1, [0, 7]), (2, [2]), (3, [0, 8, 9, 10]), (4, [0, 8, 9, 10, 11]), (5, [0, 3, 4, 8, 9, 10]), (6, [0, 8, 9, 10, 43]), (7, [2]), (8, [0, 8, 9, 10]), (9, [2])]
@[go_sem] def us45_6 : List Nat := [0, 1, 3, 7, 7, 23, 63, 127, 7, 263, 1023, 2047, 4095, 8191, 16383, 32767, 65535, 131071, 262143, 524287, 1048575, 2097151, 4194303, 8388607, 16777215, 33554431, 67108863, 134217727, 268435455]
theorem ac45 {T : Tab} (hT : TabOk Go.Proofs.Tryz.prog T) {ds : List D} {os : List (Nat × Ob)} {nx : Nat} {Q : D → List (Nat × Ob) → Nat → Prop} (hl : ds.length ≤ 45) (h : awp Go.Proofs.Tryz.prog T 45 nx lv45 (Go.Proofs.Tryz.f45.body.getD .skip) (fin Go.Proofs.Tryz.prog [.tmp 2] Q) ⟨prm 0 ds, os, nx⟩) : ACall Go.Proofs.Tryz.prog 45 ds os nx Q :=
  acall_intro hT.toS (fn := Go.Proofs.Tryz.f45) lv45 (by kernel_rfl) rfl rfl (by kernel_rfl) rfl hl rfl h
abbrev lv46 : Nat → Option (List Nat) := lvL [(0, [1, 2, 31]), (1, [1, 2, 24, 31]), (2, [2]), (3, [1, 2, 3, 31]), (4, [2, 3, 29, 31]), (5, [2, 3, 5, 31]), (6, [2, 3, 5, 31]), (7, [2, 3, 31, 43]), (8, [2]), (9, [2])]
theorem ac46 {T : Tab} (hT : TabOk Go.Proofs.Tryz.prog T) {ds : List D} {os : List (Nat × Ob)} {nx : Nat} {Q : D → List (Nat × Ob) → Nat → Prop} (hl : ds.length ≤ 44) (h : awp Go.Proofs.Tryz.prog T 44 nx lv46 (Go.Proofs.Tryz.f46.body.getD .skip) (fin Go.Proofs.Tryz.prog [.cell 2 36] Q) ⟨prm 0 ds, os, nx⟩) : ACall Go.Proofs.Tryz.prog 46 ds os nx Q :=
  acall_intro hT.toS (fn := Go.Proofs.Tryz.f46) lv46 (by kernel_rfl) rfl rfl (by kernel_rfl) rfl hl rfl h
abbrev lv47 : Nat → Option (List Nat) := lvL [(0, [0, 1]), (1, [0, 1, 22]), (2, [4, 5]), (3, [0, 1, 6, 7, 8]), (4, [0, 6, 7, 8, 25, 26, 27]), (5, [0, 6, 7, 8, 25, 26, 27, 28]), (6, [0, 6, 7, 8, 10, 25, 26, 27]), (7, [0, 6, 7, 8, 10, 25, 26, 27]), (8, [0, 6, 7, 8, 10, 25, 26, 27, 40]), (9, [4, 5]), (10, [0, 6, 7, 8, 10, 25, 26, 27, 42, 43, 44]), (11, [0, 6, 7, 8, 10, 25, 26, 27, 42, 43, 44, 45]), (12, [0, 6, 7, 8, 10, 12, 25, 26, 27, 42, 43, 44]), (13, [0, 6, 7, 8, 10, 25, 26, 27, 42, 43, 44]), (14, [0, 6, 7, 8, 10, 25, 26, 27, 42, 43, 44]), (15, [0, 6, 7, 8, 10, 25, 26, 27, 42, 43, 44]), (16, [0, 6, 7, 8, 25, 26, 27]), (17, [6, 8, 61, 62, 63]), (18, [6, 8, 61, 62, 63, 64]), (19, [6, 8, 14, 61, 62, 63]), (20, [6, 8, 14, 61, 62, 63, 69]), (21, [6, 8, 61, 62, 63, 80]), (22, [4, 5]), (23, [6, 8, 61, 62, 63]), (24, [6, 8, 61, 62, 63]), (25, [4, 5])]
@[go_sem] def us47_13 : List Nat := [0, 0, 2, 0, 14, 31, 63, 31, 159, 511]
theorem ac47 {T : Tab} (hT : TabOk Go.Proofs.Tryz.prog T) {ds : List D} {os : List (Nat × Ob)} {nx : Nat} {Q : D → List (Nat × Ob) → Nat → Prop} (hl : ds.length ≤ 86) (h : awp Go.Proofs.Tryz.prog T 86 nx lv47 (Go.Proofs.Tryz.f47.body.getD .skip) (fin Go.Proofs.Tryz.prog [.tmp 4, .tmp 5] Q) ⟨prm 0 ds, os, nx⟩) : ACall Go.Proofs.Tryz.prog 47 ds os nx Q :=
  acall_intro hT.toS (fn := Go.Proofs.Tryz.f47) lv47 (by kernel_rfl) rfl rfl (by kernel_rfl) rfl hl rfl h
abbrev lv48 : Nat → Option (List Nat) := lvL [(0, [0, 1]), (1, [0, 1, 6]), (2, [0, 1, 6, 12]), (3, [4, 5]), (4, [7, 8]), (5, [7, 21]), (6, [4, 5]), (7, [4, 5])]
theorem ac48 {T : Tab} (hT : TabOk Go.Proofs.Tryz.prog T) {ds : List D} {os : List (Nat × Ob)} {nx : Nat} {Q : D → List (Nat × Ob) → Nat → Prop} (hl : ds.length ≤ 24) (h : awp Go.Proofs.Tryz.prog T 24 nx lv48 (Go.Proofs.Tryz.f48.body.getD .skip) (fin Go.Proofs.Tryz.prog [.tmp 4, .tmp 5] Q) ⟨prm 0 ds, os, nx⟩) : ACall Go.Proofs.Tryz.prog 48 ds os nx Q :=
  acall_intro hT.toS (fn := Go.Proofs.Tryz.f48) lv48 (by kernel_rfl) rfl rfl (by kernel_rfl) rfl hl rfl h
abbrev lv58 : Nat → Option (List Nat) := lvL [(0, [0, 1]), (1, [0, 1, 6]), (2, [0, 1, 34]), (3, [4, 5]), (4, [0, 1, 7, 8, 9]), (5, [0, 1, 7, 8, 9, 35, 36, 37]), (6, [0, 1, 7, 8, 9, 35, 36, 37, 38]), (7, [0, 1, 7, 8, 9, 11, 35, 36, 37]), (8, [0, 1, 7, 8, 9, 35, 36, 37]), (9, [0, 1, 7, 8, 9, 35, 36, 37]), (10, [0, 1, 7, 8, 9, 46]), (11, [4, 5]), (12, [0, 1, 7, 8, 9, 12]), (13, [0, 7, 8, 9, 12, 50, 51, 52]), (14, [0, 7, 8, 9, 12, 50, 51, 52, 53]), (15, [0, 7, 8, 9, 12, 13, 14, 50, 51, 52]), (16, [0, 7, 8, 9, 12, 13, 50, 51, 52]), (17, [0, 7, 8, 9, 12, 13, 15, 50, 51, 52]), (18, [0, 7, 8, 9, 12, 50, 51, 52]), (19, [0, 7, 8, 9, 12, 50, 51, 52]), (20, [4, 5])]
theorem ac58 {T : Tab} (hT : TabOk Go.Proofs.Tryz.prog T) {ds : List D} {os : List (Nat × Ob)} {nx : Nat} {Q : D → List (Nat × Ob) → Nat → Prop} (hl : ds.length ≤ 73) (h : awp Go.Proofs.Tryz.prog T 73 nx lv58 (Go.Proofs.Tryz.f58.body.getD .skip) (fin Go.Proofs.Tryz.prog [.tmp 4, .tmp 5] Q) ⟨prm 0 ds, os, nx⟩) : ACall Go.Proofs.Tryz.prog 58 ds os nx Q :=
  acall_intro hT.toS (fn := Go.Proofs.Tryz.f58) lv58 (by kernel_rfl) rfl rfl (by kernel_rfl) rfl hl rfl h
abbrev lv59 : Nat → Option (List Nat) := lvL [(0, [0, 1]), (1, [0, 1, 10]), (2, [0, 1]), (3, [0, 5, 6]), (4, [0, 6, 26]), (5, [0, 6]), (6, [0, 7]), (7, [7, 8]), (8, [7, 8, 37]), (9, [7, 8]), (10, [4])]
@[go_sem] def us59_9 : List Nat := [0, 0, 0, 6, 0, 0, 48, 126, 255, 511]
theorem ac59 {T : Tab} (hT : TabOk Go.Proofs.Tryz.prog T) {ds : List D} {os : List (Nat × Ob)} {nx : Nat} {Q : D → List (Nat × Ob) → Nat → Prop} (hl : ds.length ≤ 48) (h : awp Go.Proofs.Tryz.prog T 48 nx lv59 (Go.Proofs.Tryz.f59.body.getD .skip) (fin Go.Proofs.Tryz.prog [.tmp 4] Q) ⟨prm 0 ds, os, nx⟩) : ACall Go.Proofs.Tryz.prog 59 ds os nx Q :=
  acall_intro hT.toS (fn := Go.Proofs.Tryz.f59) lv59 (by kernel_rfl) rfl rfl (by kernel_rfl) rfl hl rfl h
abbrev lv60 : Nat → Option (List Nat) := lvL [(0, [0, 1]), (1, [4])]
theorem ac60 {T : Tab} (hT : TabOk Go.Proofs.Tryz.prog T) {ds : List D} {os : List (Nat × Ob)} {nx : Nat} {Q : D → List (Nat × Ob) → Nat → Prop} (hl : ds.length ≤ 9) (h : awp Go.Proofs.Tryz.prog T 9 nx lv60 (Go.Proofs.Tryz.f60.body.getD .skip) (fin Go.Proofs.Tryz.prog [.tmp 4] Q) ⟨prm 0 ds, os, nx⟩) : ACall Go.Proofs.Tryz.prog 60 ds os nx Q :=
  acall_intro hT.toS (fn := Go.Proofs.Tryz.f60) lv60 (by kernel_rfl) rfl rfl (by kernel_rfl) rfl hl rfl h
abbrev lv67 : Nat → Option (List Nat) := lvL [(0, [0, 1]), (1, [3, 4])]
theorem ac67 {T : Tab} (hT : TabOk Go.Proofs.Tryz.prog T) {ds : List D} {os : List (Nat × Ob)} {nx : Nat} {Q : D → List (Nat × Ob) → Nat → Prop} (hl : ds.length ≤ 10) (h : awp Go.Proofs.Tryz.prog T 10 nx lv67 (Go.Proofs.Tryz.f67.body.getD .skip) (fin Go.Proofs.Tryz.prog [.tmp 3, .tmp 4] Q) ⟨prm 0 ds, os, nx⟩) : ACall Go.Proofs.Tryz.prog 67 ds os nx Q :=
  acall_intro hT.toS (fn := Go.Proofs.Tryz.f67) lv67 (by kernel_rfl) rfl rfl (by kernel_rfl) rfl hl rfl h
abbrev lv68 : Nat → Option (List Nat) := lvL [(0, [0, 3]), (1, [0, 3, 26]), (2, [4, 5]), (3, [0, 3, 6, 7]), (4, [0, 3, 6, 34]), (5, [4, 5]), (6, [0, 3, 6, 36]), (7, [4, 5]), (8, [0]), (9, [0, 49]), (10, [4, 5]), (11, [4, 5])]
@[go_sem] def us68_8 : List Nat := [0, 1, 0, 0, 11, 27, 63, 127]
theorem ac68 {T : Tab} (hT : TabOk Go.Proofs.Tryz.prog T) {ds : List D} {os : List (Nat × Ob)} {nx : Nat} {Q : D → List (Nat × Ob) → Nat → Prop} (hl : ds.length ≤ 51) (h : awp Go.Proofs.Tryz.prog T 51 nx lv68 (Go.Proofs.Tryz.f68.body.getD .skip) (fin Go.Proofs.Tryz.prog [.tmp 4, .tmp 5] Q) ⟨prm 0 ds, os, nx⟩) : ACall Go.Proofs.Tryz.prog 68 ds os nx Q :=
  acall_intro hT.toS (fn := Go.Proofs.Tryz.f68) lv68 (by kernel_rfl) rfl rfl (by kernel_rfl) rfl hl rfl h
abbrev lv69 : Nat → Option (List Nat) := lvL [(0, [0]), (1, [0])]
theorem ac69 {T : Tab} (hT : TabOk Go.Proofs.Tryz.prog T) {ds : List D} {os : List (Nat × Ob)} {nx : Nat} {Q : D → List (Nat × Ob) → Nat → Prop} (hl : ds.length ≤ 2) (h : awp Go.Proofs.Tryz.prog T 2 nx lv69 (Go.Proofs.Tryz.f69.body.getD .skip) (fin Go.Proofs.Tryz.prog [.cell 0 29] Q) ⟨prm 0 ds, os, nx⟩) : ACall Go.Proofs.Tryz.prog 69 ds os nx Q :=
  acall_intro hT.toS (fn := Go.Proofs.Tryz.f69) lv69 (by kernel_rfl) rfl rfl (by kernel_rfl) rfl hl rfl h
abbrev lv70 : Nat → Option (List Nat) := lvL [(0, [0]), (1, [0, 7]), (2, [0]), (3, [0, 3]), (4, [0, 3, 4]), (5, [0, 3, 4, 15]), (6, [0, 3, 4]), (7, [0, 3, 4]), (8, [2])]
theorem ac70 {T : Tab} (hT : TabOk Go.Proofs.Tryz.prog T) {ds : List D} {os : List (Nat × Ob)} {nx : Nat} {Q : D → List (Nat × Ob) → Nat → Prop} (hl : ds.length ≤ 25) (h : awp Go.Proofs.Tryz.prog T 25 nx lv70 (Go.Proofs.Tryz.f70.body.getD .skip) (fin Go.Proofs.Tryz.prog [.tmp 2] Q) ⟨prm 0 ds, os, nx⟩) : ACall Go.Proofs.Tryz.prog 70 ds os nx Q :=
  acall_intro hT.toS (fn := Go.Proofs.Tryz.f70) lv70 (by kernel_rfl) rfl rfl (by kernel_rfl) rfl hl rfl h
abbrev lv71 : Nat → Option (List Nat) := lvL [(0, [0, 1]), (1, [0, 1, 7, 8]), (2, [0, 1, 7, 8, 9]), (3, [0, 1, 5, 7, 8]), (4, [0, 1, 5, 7, 8, 16]), (5, [4]), (6, [0, 1, 7, 8]), (7, [4])]
theorem ac71 {T : Tab} (hT : TabOk Go.Proofs.Tryz.prog T) {ds : List D} {os : List (Nat × Ob)} {nx : Nat} {Q : D → List (Nat × Ob) → Nat → Prop} (hl : ds.length ≤ 19) (h : awp Go.Proofs.Tryz.prog T 19 nx lv71 (Go.Proofs.Tryz.f71.body.getD .skip) (fin Go.Proofs.Tryz.prog [.tmp 4] Q) ⟨prm 0 ds, os, nx⟩) : ACall Go.Proofs.Tryz.prog 71 ds os nx Q :=
  acall_intro hT.toS (fn := Go.Proofs.Tryz.f71) lv71 (by kernel_rfl) rfl rfl (by kernel_rfl) rfl hl rfl h
abbrev lv72 : Nat → Option (List Nat) := lvL [(0, [0, 1, 2]), (1, [0, 1, 2, 8]), (2, [0, 1, 2, 8, 21]), (3, [6, 7]), (4, [0, 1, 2, 9]), (5, [1, 2, 9, 23, 24, 25]), (6, [1, 2, 9, 23, 24, 25, 26]), (7, [1, 2, 9, 11, 23, 24, 25]), (8, [1, 2, 9, 11, 12, 13, 23, 24, 25]), (9, [1, 2, 9, 11, 23, 24, 25, 46]), (10, [1, 2, 9, 11, 13, 14, 23, 24, 25]), (11, [1, 2, 9, 11, 13, 14, 23, 24, 25, 59]), (12, [6, 7]), (13, [1, 2, 9, 11, 14, 23, 24, 25, 62]), (14, [1, 2, 9, 11, 14, 23, 24, 25]), (15, [1, 2, 9, 23, 24, 25]), (16, [1, 2, 9, 23, 24, 25]), (17, [9]), (18, [9, 15]), (19, [15, 77, 78, 79]), (20, [15, 77, 78, 79, 80]), (21, [15, 16, 17, 77, 78, 79]), (22, [15, 77, 78, 79]), (23, [15, 77, 78, 79]), (24, [6, 7])]
@[go_sem] def us72_10 : List Nat := [0, 0, 0, 4, 14, 0, 32, 127, 255, 511, 511, 1023, 4095]
theorem ac72 {T : Tab} (hT : TabOk Go.Proofs.Tryz.prog T) {ds : List D} {os : List (Nat × Ob)} {nx : Nat} {Q : D → List (Nat × Ob) → Nat → Prop} (hl : ds.length ≤ 91) (h : awp Go.Proofs.Tryz.prog T 91 nx lv72 (Go.Proofs.Tryz.f72.body.getD .skip) (fin Go.Proofs.Tryz.prog [.tmp 6, .tmp 7] Q) ⟨prm 0 ds, os, nx⟩) : ACall Go.Proofs.Tryz.prog 72 ds os nx Q :=
  acall_intro hT.toS (fn := Go.Proofs.Tryz.f72) lv72 (by kernel_rfl) rfl rfl (by kernel_rfl) rfl hl rfl h
abbrev lv73 : Nat → Option (List Nat) := lvL [(0, [1]), (1, [2])]
theorem ac73 {T : Tab} (hT : TabOk Go.Proofs.Tryz.prog T) {ds : List D} {os : List (Nat × Ob)} {nx : Nat} {Q : D → List (Nat × Ob) → Nat → Prop} (hl : ds.length ≤ 23) (h : awp Go.Proofs.Tryz.prog T 23 nx lv73 (Go.Proofs.Tryz.f73.body.getD .skip) (fin Go.Proofs.Tryz.prog [.tmp 2] Q) ⟨prm 0 ds, os, nx⟩) : ACall Go.Proofs.Tryz.prog 73 ds os nx Q :=
  acall_intro hT.toS (fn := Go.Proofs.Tryz.f73) lv73 (by kernel_rfl) rfl rfl (by kernel_rfl) rfl hl rfl h
abbrev lv74 : Nat → Option (List Nat) := lvL [(0, [0]), (1, [0, 4]), (2, [2]), (3, [2])]
theorem ac74 {T : Tab} (hT : TabOk Go.Proofs.Tryz.prog T) {ds : List D} {os : List (Nat × Ob)} {nx : Nat} {Q : D → List (Nat × Ob) → Nat → Prop} (hl : ds.length ≤ 8) (h : awp Go.Proofs.Tryz.prog T 8 nx lv74 (Go.Proofs.Tryz.f74.body.getD .skip) (fin Go.Proofs.Tryz.prog [.tmp 2] Q) ⟨prm 0 ds, os, nx⟩) : ACall Go.Proofs.Tryz.prog 74 ds os nx Q :=
  acall_intro hT.toS (fn := Go.Proofs.Tryz.f74) lv74 (by kernel_rfl) rfl rfl (by kernel_rfl) rfl hl rfl h
abbrev lv75 : Nat → Option (List Nat) := lvL [(0, [0, 1]), (1, [0, 1, 7, 8]), (2, [0, 1, 7, 8, 9]), (3, [0, 1, 5, 7, 8]), (4, [0, 1, 5, 7, 8, 16]), (5, [4]), (6, [0, 1, 7, 8]), (7, [4])]
theorem ac75 {T : Tab} (hT : TabOk Go.Proofs.Tryz.prog T) {ds : List D} {os : List (Nat × Ob)} {nx : Nat} {Q : D → List (Nat × Ob) → Nat → Prop} (hl : ds.length ≤ 19) (h : awp Go.Proofs.Tryz.prog T 19 nx lv75 (Go.Proofs.Tryz.f75.body.getD .skip) (fin Go.Proofs.Tryz.prog [.tmp 4] Q) ⟨prm 0 ds, os, nx⟩) : ACall Go.Proofs.Tryz.prog 75 ds os nx Q :=
  acall_intro hT.toS (fn := Go.Proofs.Tryz.f75) lv75 (by kernel_rfl) rfl rfl (by kernel_rfl) rfl hl rfl h
abbrev lv76 : Nat → Option (List Nat) := lvL [(0, [1]), (1, [2])]
theorem ac76 {T : Tab} (hT : TabOk Go.Proofs.Tryz.prog T) {ds : List D} {os : List (Nat × Ob)} {nx : Nat} {Q : D → List (Nat × Ob) → Nat → Prop} (hl : ds.length ≤ 6) (h : awp Go.Proofs.Tryz.prog T 6 nx lv76 (Go.Proofs.Tryz.f76.body.getD .skip) (fin Go.Proofs.Tryz.prog [.tmp 2] Q) ⟨prm 0 ds, os, nx⟩) : ACall Go.Proofs.Tryz.prog 76 ds os nx Q :=
  acall_intro hT.toS (fn := Go.Proofs.Tryz.f76) lv76 (by kernel_rfl) rfl rfl (by kernel_rfl) rfl hl rfl h
abbrev lv77 : Nat → Option (List Nat) := lvL [(0, [0, 1, 2]), (1, [0, 1, 2]), (2, [0, 1, 2, 16]), (3, [6]), (4, [0, 1, 2, 7]), (5, [0, 7]), (6, [0]), (7, [6])]
@[go_sem] def us77_5 : List Nat := [0, 0, 3, 0, 0, 24, 63, 127]
theorem ac77 {T : Tab} (hT : TabOk Go.Proofs.Tryz.prog T) {ds : List D} {os : List (Nat × Ob)} {nx : Nat} {Q : D → List (Nat × Ob) → Nat → Prop} (hl : ds.length ≤ 33) (h : awp Go.Proofs.Tryz.prog T 33 nx lv77 (Go.Proofs.Tryz.f77.body.getD .skip) (fin Go.Proofs.Tryz.prog [.tmp 6] Q) ⟨prm 0 ds, os, nx⟩) : ACall Go.Proofs.Tryz.prog 77 ds os nx Q :=
  acall_intro hT.toS (fn := Go.Proofs.Tryz.f77) lv77 (by kernel_rfl) rfl rfl (by kernel_rfl) rfl hl rfl h
abbrev lv78 : Nat → Option (List Nat) := lvL [(0, [0, 1, 2]), (1, [0, 1, 2]), (2, [0, 1, 2, 7]), (3, [0, 1, 2, 7, 16]), (4, [6]), (5, [0, 1, 2, 7, 8]), (6, [0, 1, 2, 7, 8, 22]), (7, [6]), (8, [0, 1, 2, 7, 8, 31]), (9, [0, 1, 2, 7, 9]), (10, [0, 1, 7, 9]), (11, [9]), (12, [6]), (13, [0, 1, 2, 7, 8]), (14, [0, 1, 2, 7, 8, 68]), (15, [0, 1, 2]), (16, [0]), (17, [6]), (18, [0, 1, 7]), (19, [0]), (20, [6])]
@[go_sem] def us78_11 : List Nat := [0, 0, 0, 6, 15, 0, 0, 96, 255]
@[go_sem] def us78_15 : List Nat := [0, 0, 0, 6, 15, 0, 0, 96, 255]
theorem ac78 {T : Tab} (hT : TabOk Go.Proofs.Tryz.prog T) {ds : List D} {os : List (Nat × Ob)} {nx : Nat} {Q : D → List (Nat × Ob) → Nat → Prop} (hl : ds.length ≤ 95) (h : awp Go.Proofs.Tryz.prog T 95 nx lv78 (Go.Proofs.Tryz.f78.body.getD .skip) (fin Go.Proofs.Tryz.prog [.tmp 6] Q) ⟨prm 0 ds, os, nx⟩) : ACall Go.Proofs.Tryz.prog 78 ds os nx Q :=
  acall_intro hT.toS (fn := Go.Proofs.Tryz.f78) lv78 (by kernel_rfl) rfl rfl (by kernel_rfl) rfl hl rfl h
abbrev lv79 : Nat → Option (List Nat) := lvL [(0, [0, 1, 2]), (1, [0, 2, 8, 9]), (2, [0, 2, 8, 9, 18]), (3, [6, 7]), (4, [0, 8, 9, 10]), (5, [0, 8, 9, 10, 30]), (6, [6, 7]), (7, [0, 8, 10]), (8, [0]), (9, [6, 7])]
theorem ac79 {T : Tab} (hT : TabOk Go.Proofs.Tryz.prog T) {ds : List D} {os : List (Nat × Ob)} {nx : Nat} {Q : D → List (Nat × Ob) → Nat → Prop} (hl : ds.length ≤ 39) (h : awp Go.Proofs.Tryz.prog T 39 nx lv79 (Go.Proofs.Tryz.f79.body.getD .skip) (fin Go.Proofs.Tryz.prog [.tmp 6, .tmp 7] Q) ⟨prm 0 ds, os, nx⟩) : ACall Go.Proofs.Tryz.prog 79 ds os nx Q :=
  acall_intro hT.toS (fn := Go.Proofs.Tryz.f79) lv79 (by kernel_rfl) rfl rfl (by kernel_rfl) rfl hl rfl h
abbrev lv80 : Nat → Option (List Nat) := lvL [(0, [1, 2, 3, 4, 5]), (1, [2, 3, 4, 5, 8]), (2, [2, 3, 4, 5, 16]), (3, [5, 6]), (4, [5, 6])]
theorem ac80 {T : Tab} (hT : TabOk Go.Proofs.Tryz.prog T) {ds : List D} {os : List (Nat × Ob)} {nx : Nat} {Q : D → List (Nat × Ob) → Nat → Prop} (hl : ds.length ≤ 24) (h : awp Go.Proofs.Tryz.prog T 24 nx lv80 (Go.Proofs.Tryz.f80.body.getD .skip) (fin Go.Proofs.Tryz.prog [.cell 5 67, .tmp 6] Q) ⟨prm 0 ds, os, nx⟩) : ACall Go.Proofs.Tryz.prog 80 ds os nx Q :=
  acall_intro hT.toS (fn := Go.Proofs.Tryz.f80) lv80 (by kernel_rfl) rfl rfl (by kernel_rfl) rfl hl rfl h
abbrev lv81 : Nat → Option (List Nat) := lvL [(0, [0, 1]), (1, [0, 1, 6, 7]), (2, [0, 1, 6, 7, 16]), (3, [4, 5]), (4, [0, 8, 9]), (5, [0, 8, 25]), (6, [4, 5]), (7, [4, 5])]
theorem ac81 {T : Tab} (hT : TabOk Go.Proofs.Tryz.prog T) {ds : List D} {os : List (Nat × Ob)} {nx : Nat} {Q : D → List (Nat × Ob) → Nat → Prop} (hl : ds.length ≤ 31) (h : awp Go.Proofs.Tryz.prog T 31 nx lv81 (Go.Proofs.Tryz.f81.body.getD .skip) (fin Go.Proofs.Tryz.prog [.tmp 4, .tmp 5] Q) ⟨prm 0 ds, os, nx⟩) : ACall Go.Proofs.Tryz.prog 81 ds os nx Q :=
  acall_intro hT.toS (fn := Go.Proofs.Tryz.f81) lv81 (by kernel_rfl) rfl rfl (by kernel_rfl) rfl hl rfl h
abbrev lv82 : Nat → Option (List Nat) := lvL [(0, [1, 2, 3, 6]), (1, [1, 2, 3, 6, 8, 10]), (2, [1, 2, 3, 6, 8, 10, 11, 12]), (3, [1, 2, 3, 6, 8, 11, 12, 26]), (4, [6, 7]), (5, [1, 2, 3, 6, 8, 11, 12, 40]), (6, [6, 7]), (7, [1, 2, 3, 6, 8, 11, 45]), (8, [6, 7]), (9, [1, 2, 3, 6, 8, 11, 48]), (10, [6, 7]), (11, [1, 2, 3, 6, 8, 11, 54]), (12, [6, 7]), (13, [1, 2, 3, 6, 11, 70]), (14, [6, 7]), (15, [1, 2, 3, 6, 11]), (16, [3, 6]), (17, [6, 7])]
theorem ac82 {T : Tab} (hT : TabOk Go.Proofs.Tryz.prog T) {ds : List D} {os : List (Nat × Ob)} {nx : Nat} {Q : D → List (Nat × Ob) → Nat → Prop} (hl : ds.length ≤ 94) (h : awp Go.Proofs.Tryz.prog T 94 nx lv82 (Go.Proofs.Tryz.f82.body.getD .skip) (fin Go.Proofs.Tryz.prog [.cell 6 67, .tmp 7] Q) ⟨prm 0 ds, os, nx⟩) : ACall Go.Proofs.Tryz.prog 82 ds os nx Q :=
  acall_intro hT.toS (fn := Go.Proofs.Tryz.f82) lv82 (by kernel_rfl) rfl rfl (by kernel_rfl) rfl hl rfl h
abbrev lv83 : Nat → Option (List Nat) := lvL [(0, [0, 1, 2, 12]), (1, [0, 1, 6, 7]), (2, [0, 1, 6, 7, 22]), (3, []), (4, [])]
theorem ac83 {T : Tab} (hT : TabOk Go.Proofs.Tryz.prog T) {ds : List D} {os : List (Nat × Ob)} {nx : Nat} {Q : D → List (Nat × Ob) → Nat → Prop} (hl : ds.length ≤ 30) (h : awp Go.Proofs.Tryz.prog T 30 nx lv83 (Go.Proofs.Tryz.f83.body.getD .skip) (fin Go.Proofs.Tryz.prog [] Q) ⟨prm 0 ds, os, nx⟩) : ACall Go.Proofs.Tryz.prog 83 ds os nx Q :=
  acall_intro hT.toS (fn := Go.Proofs.Tryz.f83) lv83 (by kernel_rfl) rfl rfl (by kernel_rfl) rfl hl rfl h
abbrev lv84 : Nat → Option (List Nat) := lvL [(0, [1, 2, 3, 4, 5]), (1, [4, 5, 8]), (2, [5, 6])]
theorem ac84 {T : Tab} (hT : TabOk Go.Proofs.Tryz.prog T) {ds : List D} {os : List (Nat × Ob)} {nx : Nat} {Q : D → List (Nat × Ob) → Nat → Prop} (hl : ds.length ≤ 20) (h : awp Go.Proofs.Tryz.prog T 20 nx lv84 (Go.Proofs.Tryz.f84.body.getD .skip) (fin Go.Proofs.Tryz.prog [.cell 5 29, .tmp 6] Q) ⟨prm 0 ds, os, nx⟩) : ACall Go.Proofs.Tryz.prog 84 ds os nx Q :=
  acall_intro hT.toS (fn := Go.Proofs.Tryz.f84) lv84 (by kernel_rfl) rfl rfl (by kernel_rfl) rfl hl rfl h
abbrev lv85 : Nat → Option (List Nat) := lvL [(0, [1, 2, 3, 4, 8]), (1, [1, 2, 3, 4, 8, 13]), (2, [8, 9, 10]), (3, [1, 2, 3, 4, 8, 23]), (4, [8, 9, 10]), (5, [1, 2, 3, 4, 8, 11]), (6, [8, 11, 12]), (7, [8, 9, 10])]
theorem ac85 {T : Tab} (hT : TabOk Go.Proofs.Tryz.prog T) {ds : List D} {os : List (Nat × Ob)} {nx : Nat} {Q : D → List (Nat × Ob) → Nat → Prop} (hl : ds.length ≤ 50) (h : awp Go.Proofs.Tryz.prog T 50 nx lv85 (Go.Proofs.Tryz.f85.body.getD .skip) (fin Go.Proofs.Tryz.prog [.cell 8 29, .tmp 9, .tmp 10] Q) ⟨prm 0 ds, os, nx⟩) : ACall Go.Proofs.Tryz.prog 85 ds os nx Q :=
  acall_intro hT.toS (fn := Go.Proofs.Tryz.f85) lv85 (by kernel_rfl) rfl rfl (by kernel_rfl) rfl hl rfl h
abbrev lv86 : Nat → Option (List Nat) := lvL [(0, [1, 2]), (1, [1, 2]), (2, [1, 2, 28, 29, 30]), (3, [1, 2, 28, 29, 30, 31]), (4, [1, 2, 3, 4, 28, 29, 30]), (5, [1, 2, 28, 29, 30]), (6, [1, 2, 28, 29, 30]), (7, [2])]
@[go_sem] def us86_1 : List Nat := [0, 1, 3, 0, 8, 31, 0, 64, 255, 0, 512, 2047, 0, 4096, 12288, 32767, 30431, 131071, 262143, 524287, 1048575, 2097151, 4194303, 8388607, 16777215, 33554431, 67108863]
@[go_sem] def us86_5 : List Nat := [0, 1, 0, 0, 8, 24, 63, 127, 255]
theorem ac86 {T : Tab} (hT : TabOk Go.Proofs.Tryz.prog T) {ds : List D} {os : List (Nat × Ob)} {nx : Nat} {Q : D → List (Nat × Ob) → Nat → Prop} (hl : ds.length ≤ 45) (h : awp Go.Proofs.Tryz.prog T 45 nx lv86 (Go.Proofs.Tryz.f86.body.getD .skip) (fin Go.Proofs.Tryz.prog [.cell 2 31] Q) ⟨prm 0 ds, os, nx⟩) : ACall Go.Proofs.Tryz.prog 86 ds os nx Q :=
  acall_intro hT.toS (fn := Go.Proofs.Tryz.f86) lv86 (by kernel_rfl) rfl rfl (by kernel_rfl) rfl hl rfl h
abbrev lv87 : Nat → Option (List Nat) := lvL [(0, [0]), (1, [0, 16]), (2, [2, 3]), (3, [0, 4, 5]), (4, [0, 4, 5, 18, 19, 20]), (5, [0, 4, 5, 18, 19, 20, 21]), (6, [0, 4, 5, 6, 7, 18, 19, 20]), (7, [0, 4, 5, 6, 7, 8, 9, 18, 19, 20]), (8, [0, 4, 5, 6, 7, 8, 18, 19, 20, 46]), (9, [2, 3]), (10, [0, 4, 5, 6, 7, 9, 18, 19, 20]), (11, [0, 4, 5, 6, 7, 18, 19, 20, 55]), (12, [2, 3]), (13, [0, 4, 5, 6, 18, 19, 20, 57, 58, 59]), (14, [0, 4, 5, 6, 18, 19, 20, 57, 58, 59, 60]), (15, [0, 4, 5, 6, 11, 18, 19, 20, 57, 58, 59]), (16, [0, 4, 5, 6, 11, 13, 18, 19, 20, 57, 58, 59]), (17, [0, 4, 5, 6, 11, 18, 19, 20, 57, 58, 59, 70]), (18, [2, 3]), (19, [0, 4, 5, 6, 18, 19, 20, 57, 58, 59]), (20, [0, 4, 5, 6, 18, 19, 20, 57, 58, 59]), (21, [0, 4, 5, 18, 19, 20]), (22, [2, 3])]
@[go_sem] def us87_8 : List Nat := [0, 1, 3, 7, 15, 31, 63, 63, 191, 511, 1023, 63, 2111, 8191, 16383, 32767, 65535]
theorem ac87 {T : Tab} (hT : TabOk Go.Proofs.Tryz.prog T) {ds : List D} {os : List (Nat × Ob)} {nx : Nat} {Q : D → List (Nat × Ob) → Nat → Prop} (hl : ds.length ≤ 78) (h : awp Go.Proofs.Tryz.prog T 78 nx lv87 (Go.Proofs.Tryz.f87.body.getD .skip) (fin Go.Proofs.Tryz.prog [.tmp 2, .tmp 3] Q) ⟨prm 0 ds, os, nx⟩) : ACall Go.Proofs.Tryz.prog 87 ds os nx Q :=
  acall_intro hT.toS (fn := Go.Proofs.Tryz.f87) lv87 (by kernel_rfl) rfl rfl (by kernel_rfl) rfl hl rfl h
abbrev lv88 : Nat → Option (List Nat) := lvL [(0, [1, 2]), (1, [1, 2, 30]), (2, [2, 3, 4]), (3, [1, 2, 32, 33, 34]), (4, [1, 2, 32, 33, 34, 35]), (5, [1, 2, 5, 6, 32, 33, 34]), (6, [1, 2, 6, 32, 33, 34, 57]), (7, [2, 3, 4]), (8, [1, 2, 4, 32, 33, 34]), (9, [1, 2, 32, 33, 34, 73]), (10, [2, 3, 4]), (11, [1, 2, 32, 33, 34]), (12, [2, 3, 4]), (13, [2, 3, 86]), (14, [2, 3, 4]), (15, [2, 3, 4])]
@[go_sem] def us88_6 : List Nat := [0, 1, 3, 7, 15, 31, 63, 127, 255, 127, 639, 2047, 4095, 127, 8319, 32767, 65535, 131071, 262143]
theorem ac88 {T : Tab} (hT : TabOk Go.Proofs.Tryz.prog T) {ds : List D} {os : List (Nat × Ob)} {nx : Nat} {Q : D → List (Nat × Ob) → Nat → Prop} (hl : ds.length ≤ 89) (h : awp Go.Proofs.Tryz.prog T 89 nx lv88 (Go.Proofs.Tryz.f88.body.getD .skip) (fin Go.Proofs.Tryz.prog [.tmp 2, .tmp 3, .tmp 4] Q) ⟨prm 0 ds, os, nx⟩) : ACall Go.Proofs.Tryz.prog 88 ds os nx Q :=
  acall_intro hT.toS (fn := Go.Proofs.Tryz.f88) lv88 (by kernel_rfl) rfl rfl (by kernel_rfl) rfl hl rfl h
abbrev lv89 : Nat → Option (List Nat) := lvL [(0, [1, 2]), (1, [4])]
theorem ac89 {T : Tab} (hT : TabOk Go.Proofs.Tryz.prog T) {ds : List D} {os : List (Nat × Ob)} {nx : Nat} {Q : D → List (Nat × Ob) → Nat → Prop} (hl : ds.length ≤ 9) (h : awp Go.Proofs.Tryz.prog T 9 nx lv89 (Go.Proofs.Tryz.f89.body.getD .skip) (fin Go.Proofs.Tryz.prog [.tmp 4] Q) ⟨prm 0 ds, os, nx⟩) : ACall Go.Proofs.Tryz.prog 89 ds os nx Q :=
  acall_intro hT.toS (fn := Go.Proofs.Tryz.f89) lv89 (by kernel_rfl) rfl rfl (by kernel_rfl) rfl hl rfl h
abbrev lv90 : Nat → Option (List Nat) := lvL [(0, [0]), (1, [2])]
theorem ac90 {T : Tab} (hT : TabOk Go.Proofs.Tryz.prog T) {ds : List D} {os : List (Nat × Ob)} {nx : Nat} {Q : D → List (Nat × Ob) → Nat → Prop} (hl : ds.length ≤ 11) (h : awp Go.Proofs.Tryz.prog T 11 nx lv90 (Go.Proofs.Tryz.f90.body.getD .skip) (fin Go.Proofs.Tryz.prog [.tmp 2] Q) ⟨prm 0 ds, os, nx⟩) : ACall Go.Proofs.Tryz.prog 90 ds os nx Q :=
  acall_intro hT.toS (fn := Go.Proofs.Tryz.f90) lv90 (by kernel_rfl) rfl rfl (by kernel_rfl) rfl hl rfl h
abbrev lv91 : Nat → Option (List Nat) := lvL [(0, [1]), (1, [2])]
theorem ac91 {T : Tab} (hT : TabOk Go.Proofs.Tryz.prog T) {ds : List D} {os : List (Nat × Ob)} {nx : Nat} {Q : D → List (Nat × Ob) → Nat → Prop} (hl : ds.length ≤ 4) (h : awp Go.Proofs.Tryz.prog T 4 nx lv91 (Go.Proofs.Tryz.f91.body.getD .skip) (fin Go.Proofs.Tryz.prog [.tmp 2] Q) ⟨prm 0 ds, os, nx⟩) : ACall Go.Proofs.Tryz.prog 91 ds os nx Q :=
  acall_intro hT.toS (fn := Go.Proofs.Tryz.f91) lv91 (by kernel_rfl) rfl rfl (by kernel_rfl) rfl hl rfl h
abbrev lv92 : Nat → Option (List Nat) := lvL [(0, [0]), (1, [2])]
theorem ac92 {T : Tab} (hT : TabOk Go.Proofs.Tryz.prog T) {ds : List D} {os : List (Nat × Ob)} {nx : Nat} {Q : D → List (Nat × Ob) → Nat → Prop} (hl : ds.length ≤ 9) (h : awp Go.Proofs.Tryz.prog T 9 nx lv92 (Go.Proofs.Tryz.f92.body.getD .skip) (fin Go.Proofs.Tryz.prog [.tmp 2] Q) ⟨prm 0 ds, os, nx⟩) : ACall Go.Proofs.Tryz.prog 92 ds os nx Q :=
  acall_intro hT.toS (fn := Go.Proofs.Tryz.f92) lv92 (by kernel_rfl) rfl rfl (by kernel_rfl) rfl hl rfl h
abbrev lv93 : Nat → Option (List Nat) := lvL [(0, [0]), (1, [0, 7]), (2, [2]), (3, [0, 8, 9, 10]), (4, [0, 8, 9, 10, 11]), (5, [0, 3, 4, 8, 9, 10]), (6, [0, 8, 9, 10, 32]), (7, [2]), (8, [0, 8, 9, 10]), (9, [2])]
@[go_sem] def us93_6 : List Nat := [0, 1, 3, 7, 15, 31, 63, 127, 127, 383, 1023, 2047, 127, 4223, 16383, 32767, 65535, 131071]
theorem ac93 {T : Tab} (hT : TabOk Go.Proofs.Tryz.prog T) {ds : List D} {os : List (Nat × Ob)} {nx : Nat} {Q : D → List (Nat × Ob) → Nat → Prop} (hl : ds.length ≤ 34) (h : awp Go.Proofs.Tryz.prog T 34 nx lv93 (Go.Proofs.Tryz.f93.body.getD .skip) (fin Go.Proofs.Tryz.prog [.tmp 2] Q) ⟨prm 0 ds, os, nx⟩) : ACall Go.Proofs.Tryz.prog 93 ds os nx Q :=
  acall_intro hT.toS (fn := Go.Proofs.Tryz.f93) lv93 (by kernel_rfl) rfl rfl (by kernel_rfl) rfl hl rfl h
abbrev lv94 : Nat → Option (List Nat) := lvL [(0, [0, 1, 2]), (1, [0, 1, 2, 8]), (2, [0, 1, 2, 8, 9, 10]), (3, [0, 1, 2, 8, 9, 10, 17]), (4, [0, 1, 2, 8, 9, 10, 11]), (5, [0, 1, 2, 8, 9, 10, 11, 31]), (6, [0, 1, 2, 8, 9, 10]), (7, [0, 1, 2, 8, 9, 10]), (8, [6, 7])]
theorem ac94 {T : Tab} (hT : TabOk Go.Proofs.Tryz.prog T) {ds : List D} {os : List (Nat × Ob)} {nx : Nat} {Q : D → List (Nat × Ob) → Nat → Prop} (hl : ds.length ≤ 49) (h : awp Go.Proofs.Tryz.prog T 49 nx lv94 (Go.Proofs.Tryz.f94.body.getD .skip) (fin Go.Proofs.Tryz.prog [.tmp 6, .tmp 7] Q) ⟨prm 0 ds, os, nx⟩) : ACall Go.Proofs.Tryz.prog 94 ds os nx Q :=
  acall_intro hT.toS (fn := Go.Proofs.Tryz.f94) lv94 (by kernel_rfl) rfl rfl (by kernel_rfl) rfl hl rfl h
abbrev lv95 : Nat → Option (List Nat) := lvL [(0, [1, 2]), (1, [4])]
theorem ac95 {T : Tab} (hT : TabOk Go.Proofs.Tryz.prog T) {ds : List D} {os : List (Nat × Ob)} {nx : Nat} {Q : D → List (Nat × Ob) → Nat → Prop} (hl : ds.length ≤ 9) (h : awp Go.Proofs.Tryz.prog T 9 nx lv95 (Go.Proofs.Tryz.f95.body.getD .skip) (fin Go.Proofs.Tryz.prog [.tmp 4] Q) ⟨prm 0 ds, os, nx⟩) : ACall Go.Proofs.Tryz.prog 95 ds os nx Q :=
  acall_intro hT.toS (fn := Go.Proofs.Tryz.f95) lv95 (by kernel_rfl) rfl rfl (by kernel_rfl) rfl hl rfl h
abbrev lv98 : Nat → Option (List Nat) := lvL [(0, [0, 1]), (1, [0, 1, 5]), (2, [0, 1, 5, 6]), (3, [0, 1, 6, 11]), (4, [12]), (5, [4]), (6, [4]), (7, [0, 1, 13]), (8, [4]), (9, [0, 1, 16]), (10, [4]), (11, [19]), (12, [4]), (13, [4])]
theorem ac98 {T : Tab} (hT : TabOk Go.Proofs.Tryz.prog T) {ds : List D} {os : List (Nat × Ob)} {nx : Nat} {Q : D → List (Nat × Ob) → Nat → Prop} (hl : ds.length ≤ 20) (h : awp Go.Proofs.Tryz.prog T 20 nx lv98 (Go.Proofs.Tryz.f98.body.getD .skip) (fin Go.Proofs.Tryz.prog [.tmp 4] Q) ⟨prm 0 ds, os, nx⟩) : ACall Go.Proofs.Tryz.prog 98 ds os nx Q :=
  acall_intro hT.toS (fn := Go.Proofs.Tryz.f98) lv98 (by kernel_rfl) rfl rfl (by kernel_rfl) rfl hl rfl h
abbrev lv110 : Nat → Option (List Nat) := lvL [(0, [0]), (1, [2])]
theorem ac110 {T : Tab} (hT : TabOk Go.Proofs.Tryz.prog T) {ds : List D} {os : List (Nat × Ob)} {nx : Nat} {Q : D → List (Nat × Ob) → Nat → Prop} (hl : ds.length ≤ 5) (h : awp Go.Proofs.Tryz.prog T 5 nx lv110 (Go.Proofs.Tryz.f110.body.getD .skip) (fin Go.Proofs.Tryz.prog [.tmp 2] Q) ⟨prm 0 ds, os, nx⟩) : ACall Go.Proofs.Tryz.prog 110 ds os nx Q :=
  acall_intro hT.toS (fn := Go.Proofs.Tryz.f110) lv110 (by kernel_rfl) rfl rfl (by kernel_rfl) rfl hl rfl h
abbrev lv111 : Nat → Option (List Nat) := lvL [(0, [0, 1]), (1, [4])]
theorem ac111 {T : Tab} (hT : TabOk Go.Proofs.Tryz.prog T) {ds : List D} {os : List (Nat × Ob)} {nx : Nat} {Q : D → List (Nat × Ob) → Nat → Prop} (hl : ds.length ≤ 9) (h : awp Go.Proofs.Tryz.prog T 9 nx lv111 (Go.Proofs.Tryz.f111.body.getD .skip) (fin Go.Proofs.Tryz.prog [.tmp 4] Q) ⟨prm 0 ds, os, nx⟩) : ACall Go.Proofs.Tryz.prog 111 ds os nx Q :=
  acall_intro hT.toS (fn := Go.Proofs.Tryz.f111) lv111 (by kernel_rfl) rfl rfl (by kernel_rfl) rfl hl rfl h
abbrev lv112 : Nat → Option (List Nat) := lvL [(0, [0, 1, 2]), (1, [2, 7, 8]), (2, [9]), (3, [6])]
theorem ac112 {T : Tab} (hT : TabOk Go.Proofs.Tryz.prog T) {ds : List D} {os : List (Nat × Ob)} {nx : Nat} {Q : D → List (Nat × Ob) → Nat → Prop} (hl : ds.length ≤ 25) (h : awp Go.Proofs.Tryz.prog T 25 nx lv112 (Go.Proofs.Tryz.f112.body.getD .skip) (fin Go.Proofs.Tryz.prog [.tmp 6] Q) ⟨prm 0 ds, os, nx⟩) : ACall Go.Proofs.Tryz.prog 112 ds os nx Q :=
  acall_intro hT.toS (fn := Go.Proofs.Tryz.f112) lv112 (by kernel_rfl) rfl rfl (by kernel_rfl) rfl hl rfl h
abbrev lv113 : Nat → Option (List Nat) := lvL [(0, [0, 1]), (1, [6, 7]), (2, [4, 5]), (3, [8, 9]), (4, [4, 5])]
theorem ac113 {T : Tab} (hT : TabOk Go.Proofs.Tryz.prog T) {ds : List D} {os : List (Nat × Ob)} {nx : Nat} {Q : D → List (Nat × Ob) → Nat → Prop} (hl : ds.length ≤ 30) (h : awp Go.Proofs.Tryz.prog T 30 nx lv113 (Go.Proofs.Tryz.f113.body.getD .skip) (fin Go.Proofs.Tryz.prog [.tmp 4, .tmp 5] Q) ⟨prm 0 ds, os, nx⟩) : ACall Go.Proofs.Tryz.prog 113 ds os nx Q :=
  acall_intro hT.toS (fn := Go.Proofs.Tryz.f113) lv113 (by kernel_rfl) rfl rfl (by kernel_rfl) rfl hl rfl h
abbrev lv114 : Nat → Option (List Nat) := lvL [(0, [0, 1]), (1, [0, 1, 7, 8]), (2, [0, 1, 7, 8, 9]), (3, [0, 1, 5, 7, 8]), (4, [0, 1, 5, 7, 8, 16]), (5, [4]), (6, [0, 1, 7, 8]), (7, [4])]
theorem ac114 {T : Tab} (hT : TabOk Go.Proofs.Tryz.prog T) {ds : List D} {os : List (Nat × Ob)} {nx : Nat} {Q : D → List (Nat × Ob) → Nat → Prop} (hl : ds.length ≤ 19) (h : awp Go.Proofs.Tryz.prog T 19 nx lv114 (Go.Proofs.Tryz.f114.body.getD .skip) (fin Go.Proofs.Tryz.prog [.tmp 4] Q) ⟨prm 0 ds, os, nx⟩) : ACall Go.Proofs.Tryz.prog 114 ds os nx Q :=
  acall_intro hT.toS (fn := Go.Proofs.Tryz.f114) lv114 (by kernel_rfl) rfl rfl (by kernel_rfl) rfl hl rfl h
abbrev lv119 : Nat → Option (List Nat) := lvL [(0, [1]), (1, [5]), (2, [2])]
theorem ac119 {T : Tab} (hT : TabOk Go.Proofs.Tryz.prog T) {ds : List D} {os : List (Nat × Ob)} {nx : Nat} {Q : D → List (Nat × Ob) → Nat → Prop} (hl : ds.length ≤ 13) (h : awp Go.Proofs.Tryz.prog T 13 nx lv119 (Go.Proofs.Tryz.f119.body.getD .skip) (fin Go.Proofs.Tryz.prog [.tmp 2] Q) ⟨prm 0 ds, os, nx⟩) : ACall Go.Proofs.Tryz.prog 119 ds os nx Q :=
  acall_intro hT.toS (fn := Go.Proofs.Tryz.f119) lv119 (by kernel_rfl) rfl rfl (by kernel_rfl) rfl hl rfl h
abbrev lv120 : Nat → Option (List Nat) := lvL [(0, [0, 1, 2]), (1, [0, 1, 2, 8]), (2, [0, 1, 2, 8, 9, 10]), (3, [0, 1, 2, 8, 9, 10, 17]), (4, [0, 1, 2, 8, 9, 10, 11]), (5, [0, 1, 2, 8, 9, 10, 11, 31]), (6, [0, 1, 2, 8, 9, 10]), (7, [0, 1, 2, 8, 9, 10]), (8, [6, 7])]
theorem ac120 {T : Tab} (hT : TabOk Go.Proofs.Tryz.prog T) {ds : List D} {os : List (Nat × Ob)} {nx : Nat} {Q : D → List (Nat × Ob) → Nat → Prop} (hl : ds.length ≤ 49) (h : awp Go.Proofs.Tryz.prog T 49 nx lv120 (Go.Proofs.Tryz.f120.body.getD .skip) (fin Go.Proofs.Tryz.prog [.tmp 6, .tmp 7] Q) ⟨prm 0 ds, os, nx⟩) : ACall Go.Proofs.Tryz.prog 120 ds os nx Q :=
  acall_intro hT.toS (fn := Go.Proofs.Tryz.f120) lv120 (by kernel_rfl) rfl rfl (by kernel_rfl) rfl hl rfl h
abbrev lv121 : Nat → Option (List Nat) := lvL [(0, [1, 2]), (1, [4])]
theorem ac121 {T : Tab} (hT : TabOk Go.Proofs.Tryz.prog T) {ds : List D} {os : List (Nat × Ob)} {nx : Nat} {Q : D → List (Nat × Ob) → Nat → Prop} (hl : ds.length ≤ 9) (h : awp Go.Proofs.Tryz.prog T 9 nx lv121 (Go.Proofs.Tryz.f121.body.getD .skip) (fin Go.Proofs.Tryz.prog [.tmp 4] Q) ⟨prm 0 ds, os, nx⟩) : ACall Go.Proofs.Tryz.prog 121 ds os nx Q :=
  acall_intro hT.toS (fn := Go.Proofs.Tryz.f121) lv121 (by kernel_rfl) rfl rfl (by kernel_rfl) rfl hl rfl h
abbrev lv122 : Nat → Option (List Nat) := lvL [(0, [0, 1, 2]), (1, [0, 1, 2]), (2, [0, 1, 2, 7]), (3, [0, 1, 2, 7, 16]), (4, [6]), (5, [0, 1, 2, 7, 8]), (6, [0, 1, 2, 7, 8, 22]), (7, [6]), (8, [0, 1, 2, 7, 8, 31]), (9, [0, 1, 2, 7, 9]), (10, [0, 1, 7, 9]), (11, [9]), (12, [6]), (13, [0, 1, 2, 7, 8]), (14, [0, 1, 2, 7, 8, 68]), (15, [0, 1, 2]), (16, [0]), (17, [6]), (18, [0, 1, 7]), (19, [0]), (20, [6])]
@[go_sem] def us122_11 : List Nat := [0, 0, 0, 6, 15, 0, 0, 96, 255]
@[go_sem] def us122_15 : List Nat := [0, 0, 0, 6, 15, 0, 0, 96, 255]
theorem ac122 {T : Tab} (hT : TabOk Go.Proofs.Tryz.prog T) {ds : List D} {os : List (Nat × Ob)} {nx : Nat} {Q : D → List (Nat × Ob) → Nat → Prop} (hl : ds.length ≤ 95) (h : awp Go.Proofs.Tryz.prog T 95 nx lv122 (Go.Proofs.Tryz.f122.body.getD .skip) (fin Go.Proofs.Tryz.prog [.tmp 6] Q) ⟨prm 0 ds, os, nx⟩) : ACall Go.Proofs.Tryz.prog 122 ds os nx Q :=
  acall_intro hT.toS (fn := Go.Proofs.Tryz.f122) lv122 (by kernel_rfl) rfl rfl (by kernel_rfl) rfl hl rfl h
abbrev lv123 : Nat → Option (List Nat) := lvL [(0, [0]), (1, [0]), (2, [0, 7, 8, 9]), (3, [0, 7, 8, 9, 10]), (4, [0, 3, 4, 7, 8, 9]), (5, [0, 7, 8, 9]), (6, [0, 7, 8, 9]), (7, [2])]
theorem ac123 {T : Tab} (hT : TabOk Go.Proofs.Tryz.prog T) {ds : List D} {os : List (Nat × Ob)} {nx : Nat} {Q : D → List (Nat × Ob) → Nat → Prop} (hl : ds.length ≤ 21) (h : awp Go.Proofs.Tryz.prog T 21 nx lv123 (Go.Proofs.Tryz.f123.body.getD .skip) (fin Go.Proofs.Tryz.prog [.tmp 2] Q) ⟨prm 0 ds, os, nx⟩) : ACall Go.Proofs.Tryz.prog 123 ds os nx Q :=
  acall_intro hT.toS (fn := Go.Proofs.Tryz.f123) lv123 (by kernel_rfl) rfl rfl (by kernel_rfl) rfl hl rfl h
abbrev lv124 : Nat → Option (List Nat) := lvL [(0, [1, 2]), (1, [1, 2]), (2, [2])]
theorem ac124 {T : Tab} (hT : TabOk Go.Proofs.Tryz.prog T) {ds : List D} {os : List (Nat × Ob)} {nx : Nat} {Q : D → List (Nat × Ob) → Nat → Prop} (hl : ds.length ≤ 8) (h : awp Go.Proofs.Tryz.prog T 8 nx lv124 (Go.Proofs.Tryz.f124.body.getD .skip) (fin Go.Proofs.Tryz.prog [.cell 2 67] Q) ⟨prm 0 ds, os, nx⟩) : ACall Go.Proofs.Tryz.prog 124 ds os nx Q :=
  acall_intro hT.toS (fn := Go.Proofs.Tryz.f124) lv124 (by kernel_rfl) rfl rfl (by kernel_rfl) rfl hl rfl h
abbrev lv125 : Nat → Option (List Nat) := lvL [(0, [1]), (1, [1, 4, 6]), (2, [1, 4, 6, 26]), (3, [2, 3]), (4, [1, 4, 6, 7]), (5, [1, 4, 6, 7, 37]), (6, [2, 3]), (7, [2, 3])]
theorem ac125 {T : Tab} (hT : TabOk Go.Proofs.Tryz.prog T) {ds : List D} {os : List (Nat × Ob)} {nx : Nat} {Q : D → List (Nat × Ob) → Nat → Prop} (hl : ds.length ≤ 45) (h : awp Go.Proofs.Tryz.prog T 45 nx lv125 (Go.Proofs.Tryz.f125.body.getD .skip) (fin Go.Proofs.Tryz.prog [.tmp 2, .tmp 3] Q) ⟨prm 0 ds, os, nx⟩) : ACall Go.Proofs.Tryz.prog 125 ds os nx Q :=
  acall_intro hT.toS (fn := Go.Proofs.Tryz.f125) lv125 (by kernel_rfl) rfl rfl (by kernel_rfl) rfl hl rfl h
abbrev lv126 : Nat → Option (List Nat) := lvL [(0, [1, 2, 3]), (1, [1, 2, 3, 8, 9]), (2, [1, 2, 3, 8, 9, 19]), (3, [6, 7]), (4, [1, 2, 8, 9, 10]), (5, [1, 2, 8, 9, 10, 27]), (6, [6, 7]), (7, [1, 10, 11]), (8, [1, 12]), (9, [6, 7])]
theorem ac126 {T : Tab} (hT : TabOk Go.Proofs.Tryz.prog T) {ds : List D} {os : List (Nat × Ob)} {nx : Nat} {Q : D → List (Nat × Ob) → Nat → Prop} (hl : ds.length ≤ 40) (h : awp Go.Proofs.Tryz.prog T 40 nx lv126 (Go.Proofs.Tryz.f126.body.getD .skip) (fin Go.Proofs.Tryz.prog [.tmp 6, .tmp 7] Q) ⟨prm 0 ds, os, nx⟩) : ACall Go.Proofs.Tryz.prog 126 ds os nx Q :=
  acall_intro hT.toS (fn := Go.Proofs.Tryz.f126) lv126 (by kernel_rfl) rfl rfl (by kernel_rfl) rfl hl rfl h
abbrev lv127 : Nat → Option (List Nat) := lvL [(0, [0, 3]), (1, [0, 5]), (2, [0, 5, 10]), (3, [4]), (4, [4])]
theorem ac127 {T : Tab} (hT : TabOk Go.Proofs.Tryz.prog T) {ds : List D} {os : List (Nat × Ob)} {nx : Nat} {Q : D → List (Nat × Ob) → Nat → Prop} (hl : ds.length ≤ 16) (h : awp Go.Proofs.Tryz.prog T 16 nx lv127 (Go.Proofs.Tryz.f127.body.getD .skip) (fin Go.Proofs.Tryz.prog [.tmp 4] Q) ⟨prm 0 ds, os, nx⟩) : ACall Go.Proofs.Tryz.prog 127 ds os nx Q :=
  acall_intro hT.toS (fn := Go.Proofs.Tryz.f127) lv127 (by kernel_rfl) rfl rfl (by kernel_rfl) rfl hl rfl h
abbrev lv128 : Nat → Option (List Nat) := lvL [(0, [0]), (1, [2])]
theorem ac128 {T : Tab} (hT : TabOk Go.Proofs.Tryz.prog T) {ds : List D} {os : List (Nat × Ob)} {nx : Nat} {Q : D → List (Nat × Ob) → Nat → Prop} (hl : ds.length ≤ 6) (h : awp Go.Proofs.Tryz.prog T 6 nx lv128 (Go.Proofs.Tryz.f128.body.getD .skip) (fin Go.Proofs.Tryz.prog [.tmp 2] Q) ⟨prm 0 ds, os, nx⟩) : ACall Go.Proofs.Tryz.prog 128 ds os nx Q :=
  acall_intro hT.toS (fn := Go.Proofs.Tryz.f128) lv128 (by kernel_rfl) rfl rfl (by kernel_rfl) rfl hl rfl h
abbrev lv129 : Nat → Option (List Nat) := lvL [(0, []), (1, [0])]
theorem ac129 {T : Tab} (hT : TabOk Go.Proofs.Tryz.prog T) {ds : List D} {os : List (Nat × Ob)} {nx : Nat} {Q : D → List (Nat × Ob) → Nat → Prop} (hl : ds.length ≤ 2) (h : awp Go.Proofs.Tryz.prog T 2 nx lv129 (Go.Proofs.Tryz.f129.body.getD .skip) (fin Go.Proofs.Tryz.prog [.tmp 0] Q) ⟨prm 0 ds, os, nx⟩) : ACall Go.Proofs.Tryz.prog 129 ds os nx Q :=
  acall_intro hT.toS (fn := Go.Proofs.Tryz.f129) lv129 (by kernel_rfl) rfl rfl (by kernel_rfl) rfl hl rfl h
abbrev lv131 : Nat → Option (List Nat) := lvL [(0, [2, 3]), (1, [4])]
@[go_sem] def us131_1 : List Nat := [0, 1, 0, 4, 15, 0, 32, 0, 128, 511, 1023, 2047, 4095]
theorem ac131 {T : Tab} (hT : TabOk Go.Proofs.Tryz.prog T) {ds : List D} {os : List (Nat × Ob)} {nx : Nat} {Q : D → List (Nat × Ob) → Nat → Prop} (hl : ds.length ≤ 17) (h : awp Go.Proofs.Tryz.prog T 17 nx lv131 (Go.Proofs.Tryz.f131.body.getD .skip) (fin Go.Proofs.Tryz.prog [.tmp 4] Q) ⟨prm 0 ds, os, nx⟩) : ACall Go.Proofs.Tryz.prog 131 ds os nx Q :=
  acall_intro hT.toS (fn := Go.Proofs.Tryz.f131) lv131 (by kernel_rfl) rfl rfl (by kernel_rfl) rfl hl rfl h
abbrev lv132 : Nat → Option (List Nat) := lvL [(0, [0]), (1, [0, 3]), (2, [3, 6, 7, 8]), (3, [3, 6, 7, 8, 9]), (4, [3, 5, 6, 7, 8]), (5, [3, 5, 6, 7, 8, 14]), (6, [2]), (7, [3, 6, 7, 8]), (8, [2])]
theorem ac132 {T : Tab} (hT : TabOk Go.Proofs.Tryz.prog T) {ds : List D} {os : List (Nat × Ob)} {nx : Nat} {Q : D → List (Nat × Ob) → Nat → Prop} (hl : ds.length ≤ 18) (h : awp Go.Proofs.Tryz.prog T 18 nx lv132 (Go.Proofs.Tryz.f132.body.getD .skip) (fin Go.Proofs.Tryz.prog [.tmp 2] Q) ⟨prm 0 ds, os, nx⟩) : ACall Go.Proofs.Tryz.prog 132 ds os nx Q :=
  acall_intro hT.toS (fn := Go.Proofs.Tryz.f132) lv132 (by kernel_rfl) rfl rfl (by kernel_rfl) rfl hl rfl h
abbrev lv133 : Nat → Option (List Nat) := lvL [(0, [0, 1]), (1, [0, 1, 5]), (2, [0, 1, 5, 6]), (3, [0, 1, 6, 11]), (4, [12]), (5, [4]), (6, [4]), (7, [0, 1, 13]), (8, [4]), (9, [0, 1, 16]), (10, [4]), (11, [19]), (12, [4]), (13, [4])]
theorem ac133 {T : Tab} (hT : TabOk Go.Proofs.Tryz.prog T) {ds : List D} {os : List (Nat × Ob)} {nx : Nat} {Q : D → List (Nat × Ob) → Nat → Prop} (hl : ds.length ≤ 20) (h : awp Go.Proofs.Tryz.prog T 20 nx lv133 (Go.Proofs.Tryz.f133.body.getD .skip) (fin Go.Proofs.Tryz.prog [.tmp 4] Q) ⟨prm 0 ds, os, nx⟩) : ACall Go.Proofs.Tryz.prog 133 ds os nx Q :=
  acall_intro hT.toS (fn := Go.Proofs.Tryz.f133) lv133 (by kernel_rfl) rfl rfl (by kernel_rfl) rfl hl rfl h
abbrev lv136 : Nat → Option (List Nat) := lvL [(0, [0, 1]), (1, [0, 1, 6]), (2, [0, 1, 6, 12]), (3, [4, 5]), (4, [7, 8]), (5, [7, 21]), (6, [4, 5]), (7, [4, 5])]
theorem ac136 {T : Tab} (hT : TabOk Go.Proofs.Tryz.prog T) {ds : List D} {os : List (Nat × Ob)} {nx : Nat} {Q : D → List (Nat × Ob) → Nat → Prop} (hl : ds.length ≤ 23) (h : awp Go.Proofs.Tryz.prog T 23 nx lv136 (Go.Proofs.Tryz.f136.body.getD .skip) (fin Go.Proofs.Tryz.prog [.tmp 4, .tmp 5] Q) ⟨prm 0 ds, os, nx⟩) : ACall Go.Proofs.Tryz.prog 136 ds os nx Q :=
  acall_intro hT.toS (fn := Go.Proofs.Tryz.f136) lv136 (by kernel_rfl) rfl rfl (by kernel_rfl) rfl hl rfl h
abbrev lv137 : Nat → Option (List Nat) := lvL [(0, [0, 1, 2]), (1, [0, 1, 2, 8]), (2, [0, 1, 2, 8, 9, 10]), (3, [0, 1, 2, 8, 9, 10, 17]), (4, [0, 1, 2, 8, 9, 10, 11]), (5, [0, 1, 2, 8, 9, 10, 11, 31]), (6, [0, 1, 2, 8, 9, 10]), (7, [0, 1, 2, 8, 9, 10]), (8, [6, 7])]
theorem ac137 {T : Tab} (hT : TabOk Go.Proofs.Tryz.prog T) {ds : List D} {os : List (Nat × Ob)} {nx : Nat} {Q : D → List (Nat × Ob) → Nat → Prop} (hl : ds.length ≤ 49) (h : awp Go.Proofs.Tryz.prog T 49 nx lv137 (Go.Proofs.Tryz.f137.body.getD .skip) (fin Go.Proofs.Tryz.prog [.tmp 6, .tmp 7] Q) ⟨prm 0 ds, os, nx⟩) : ACall Go.Proofs.Tryz.prog 137 ds os nx Q :=
  acall_intro hT.toS (fn := Go.Proofs.Tryz.f137) lv137 (by kernel_rfl) rfl rfl (by kernel_rfl) rfl hl rfl h
abbrev lv138 : Nat → Option (List Nat) := lvL [(0, [1, 2]), (1, [4])]
theorem ac138 {T : Tab} (hT : TabOk Go.Proofs.Tryz.prog T) {ds : List D} {os : List (Nat × Ob)} {nx : Nat} {Q : D → List (Nat × Ob) → Nat → Prop} (hl : ds.length ≤ 9) (h : awp Go.Proofs.Tryz.prog T 9 nx lv138 (Go.Proofs.Tryz.f138.body.getD .skip) (fin Go.Proofs.Tryz.prog [.tmp 4] Q) ⟨prm 0 ds, os, nx⟩) : ACall Go.Proofs.Tryz.prog 138 ds os nx Q :=
  acall_intro hT.toS (fn := Go.Proofs.Tryz.f138) lv138 (by kernel_rfl) rfl rfl (by kernel_rfl) rfl hl rfl h
abbrev lv139 : Nat → Option (List Nat) := lvL [(0, [0, 1, 2]), (1, [0, 1, 2]), (2, [0, 1, 2, 7]), (3, [0, 1, 2, 7, 16]), (4, [6]), (5, [0, 1, 2, 7, 8]), (6, [0, 1, 2, 7, 8, 22]), (7, [6]), (8, [0, 1, 2, 7, 8, 31]), (9, [0, 1, 2, 7, 9]), (10, [0, 1, 7, 9]), (11, [9]), (12, [6]), (13, [0, 1, 2, 7, 8]), (14, [0, 1, 2, 7, 8, 68]), (15, [0, 1, 2]), (16, [0]), (17, [6]), (18, [0, 1, 7]), (19, [0]), (20, [6])]
@[go_sem] def us139_11 : List Nat := [0, 0, 0, 6, 15, 0, 0, 96, 255]
@[go_sem] def us139_15 : List Nat := [0, 0, 0, 6, 15, 0, 0, 96, 255]
theorem ac139 {T : Tab} (hT : TabOk Go.Proofs.Tryz.prog T) {ds : List D} {os : List (Nat × Ob)} {nx : Nat} {Q : D → List (Nat × Ob) → Nat → Prop} (hl : ds.length ≤ 95) (h : awp Go.Proofs.Tryz.prog T 95 nx lv139 (Go.Proofs.Tryz.f139.body.getD .skip) (fin Go.Proofs.Tryz.prog [.tmp 6] Q) ⟨prm 0 ds, os, nx⟩) : ACall Go.Proofs.Tryz.prog 139 ds os nx Q :=
  acall_intro hT.toS (fn := Go.Proofs.Tryz.f139) lv139 (by kernel_rfl) rfl rfl (by kernel_rfl) rfl hl rfl h
abbrev lv140 : Nat → Option (List Nat) := lvL [(0, [0]), (1, [0, 4]), (2, [2]), (3, [2])]
theorem ac140 {T : Tab} (hT : TabOk Go.Proofs.Tryz.prog T) {ds : List D} {os : List (Nat × Ob)} {nx : Nat} {Q : D → List (Nat × Ob) → Nat → Prop} (hl : ds.length ≤ 8) (h : awp Go.Proofs.Tryz.prog T 8 nx lv140 (Go.Proofs.Tryz.f140.body.getD .skip) (fin Go.Proofs.Tryz.prog [.tmp 2] Q) ⟨prm 0 ds, os, nx⟩) : ACall Go.Proofs.Tryz.prog 140 ds os nx Q :=
  acall_intro hT.toS (fn := Go.Proofs.Tryz.f140) lv140 (by kernel_rfl) rfl rfl (by kernel_rfl) rfl hl rfl h
abbrev lv141 : Nat → Option (List Nat) := lvL [(0, [0]), (1, [0, 4]), (2, [2]), (3, [2])]
theorem ac141 {T : Tab} (hT : TabOk Go.Proofs.Tryz.prog T) {ds : List D} {os : List (Nat × Ob)} {nx : Nat} {Q : D → List (Nat × Ob) → Nat → Prop} (hl : ds.length ≤ 8) (h : awp Go.Proofs.Tryz.prog T 8 nx lv141 (Go.Proofs.Tryz.f141.body.getD .skip) (fin Go.Proofs.Tryz.prog [.tmp 2] Q) ⟨prm 0 ds, os, nx⟩) : ACall Go.Proofs.Tryz.prog 141 ds os nx Q :=
  acall_intro hT.toS (fn := Go.Proofs.Tryz.f141) lv141 (by kernel_rfl) rfl rfl (by kernel_rfl) rfl hl rfl h
abbrev lv142 : Nat → Option (List Nat) := lvL [(0, [0]), (1, [0, 4]), (2, [2]), (3, [2])]
theorem ac142 {T : Tab} (hT : TabOk Go.Proofs.Tryz.prog T) {ds : List D} {os : List (Nat × Ob)} {nx : Nat} {Q : D → List (Nat × Ob) → Nat → Prop} (hl : ds.length ≤ 8) (h : awp Go.Proofs.Tryz.prog T 8 nx lv142 (Go.Proofs.Tryz.f142.body.getD .skip) (fin Go.Proofs.Tryz.prog [.tmp 2] Q) ⟨prm 0 ds, os, nx⟩) : ACall Go.Proofs.Tryz.prog 142 ds os nx Q :=
  acall_intro hT.toS (fn := Go.Proofs.Tryz.f142) lv142 (by kernel_rfl) rfl rfl (by kernel_rfl) rfl hl rfl h
abbrev lv143 : Nat → Option (List Nat) := lvL [(0, [0]), (1, [0, 4]), (2, [2]), (3, [2])]
theorem ac143 {T : Tab} (hT : TabOk Go.Proofs.Tryz.prog T) {ds : List D} {os : List (Nat × Ob)} {nx : Nat} {Q : D → List (Nat × Ob) → Nat → Prop} (hl : ds.length ≤ 8) (h : awp Go.Proofs.Tryz.prog T 8 nx lv143 (Go.Proofs.Tryz.f143.body.getD .skip) (fin Go.Proofs.Tryz.prog [.tmp 2] Q) ⟨prm 0 ds, os, nx⟩) : ACall Go.Proofs.Tryz.prog 143 ds os nx Q :=
  acall_intro hT.toS (fn := Go.Proofs.Tryz.f143) lv143 (by kernel_rfl) rfl rfl (by kernel_rfl) rfl hl rfl h
abbrev lv144 : Nat → Option (List Nat) := lvL [(0, [0]), (1, [0, 4]), (2, [2]), (3, [2])]
theorem ac144 {T : Tab} (hT : TabOk Go.Proofs.Tryz.prog T) {ds : List D} {os : List (Nat × Ob)} {nx : Nat} {Q : D → List (Nat × Ob) → Nat → Prop} (hl : ds.length ≤ 8) (h : awp Go.Proofs.Tryz.prog T 8 nx lv144 (Go.Proofs.Tryz.f144.body.getD .skip) (fin Go.Proofs.Tryz.prog [.tmp 2] Q) ⟨prm 0 ds, os, nx⟩) : ACall Go.Proofs.Tryz.prog 144 ds os nx Q :=
  acall_intro hT.toS (fn := Go.Proofs.Tryz.f144) lv144 (by kernel_rfl) rfl rfl (by kernel_rfl) rfl hl rfl h
abbrev lv145 : Nat → Option (List Nat) := lvL [(0, [1]), (1, [5, 6]), (2, [2, 3])]
theorem ac145 {T : Tab} (hT : TabOk Go.Proofs.Tryz.prog T) {ds : List D} {os : List (Nat × Ob)} {nx : Nat} {Q : D → List (Nat × Ob) → Nat → Prop} (hl : ds.length ≤ 15) (h : awp Go.Proofs.Tryz.prog T 15 nx lv145 (Go.Proofs.Tryz.f145.body.getD .skip) (fin Go.Proofs.Tryz.prog [.tmp 2, .tmp 3] Q) ⟨prm 0 ds, os, nx⟩) : ACall Go.Proofs.Tryz.prog 145 ds os nx Q :=
  acall_intro hT.toS (fn := Go.Proofs.Tryz.f145) lv145 (by kernel_rfl) rfl rfl (by kernel_rfl) rfl hl rfl h
abbrev lv148 : Nat → Option (List Nat) := lvL [(0, [0]), (1, [2])]
theorem ac148 {T : Tab} (hT : TabOk Go.Proofs.Tryz.prog T) {ds : List D} {os : List (Nat × Ob)} {nx : Nat} {Q : D → List (Nat × Ob) → Nat → Prop} (hl : ds.length ≤ 6) (h : awp Go.Proofs.Tryz.prog T 6 nx lv148 (Go.Proofs.Tryz.f148.body.getD .skip) (fin Go.Proofs.Tryz.prog [.tmp 2] Q) ⟨prm 0 ds, os, nx⟩) : ACall Go.Proofs.Tryz.prog 148 ds os nx Q :=
  acall_intro hT.toS (fn := Go.Proofs.Tryz.f148) lv148 (by kernel_rfl) rfl rfl (by kernel_rfl) rfl hl rfl h
abbrev lv164 : Nat → Option (List Nat) := lvL [(0, [0, 1]), (1, [0, 1, 7, 8]), (2, [0, 1, 7, 8, 9]), (3, [0, 1, 5, 7, 8]), (4, [0, 1, 5, 7, 8, 16]), (5, [4]), (6, [0, 1, 7, 8]), (7, [4])]
theorem ac164 {T : Tab} (hT : TabOk Go.Proofs.Tryz.prog T) {ds : List D} {os : List (Nat × Ob)} {nx : Nat} {Q : D → List (Nat × Ob) → Nat → Prop} (hl : ds.length ≤ 19) (h : awp Go.Proofs.Tryz.prog T 19 nx lv164 (Go.Proofs.Tryz.f164.body.getD .skip) (fin Go.Proofs.Tryz.prog [.tmp 4] Q) ⟨prm 0 ds, os, nx⟩) : ACall Go.Proofs.Tryz.prog 164 ds os nx Q :=
  acall_intro hT.toS (fn := Go.Proofs.Tryz.f164) lv164 (by kernel_rfl) rfl rfl (by kernel_rfl) rfl hl rfl h
abbrev lv166 : Nat → Option (List Nat) := lvL [(0, [0, 1, 2]), (1, [0, 1, 2, 20]), (2, [0, 1, 2]), (3, [0, 1, 2, 24]), (4, [0, 1, 2]), (5, [0, 1, 2, 27]), (6, [6, 7]), (7, [0, 1, 2, 8]), (8, [0, 1, 2, 8]), (9, [0, 1, 2, 8, 9]), (10, [0, 1, 2, 8, 9, 10]), (11, [1, 2, 8, 9, 10, 11]), (12, [2, 8, 9, 10, 11, 12]), (13, [2, 8, 9, 10, 11, 12, 13]), (14, [2, 8, 9, 10, 11, 13, 14]), (15, [2, 8, 9, 10, 11, 13, 14, 15]), (16, [2, 8, 9, 10, 11, 13, 14, 15, 16]), (17, [2, 8, 9, 10, 11, 13, 14, 15, 16, 78]), (18, [2, 8, 9, 10, 11, 13, 14, 15, 16]), (19, [2, 8, 9, 10, 11, 13, 14, 15, 16]), (20, [2, 8, 9, 10, 11, 13, 14, 15, 16, 85]), (21, [2, 8, 9, 10, 14, 15, 17]), (22, [2, 8, 9, 10, 14, 15, 17, 18]), (23, [2, 8, 9, 10, 14, 15, 16, 17, 18]), (24, [2, 8, 9, 10, 14, 15, 16, 17, 18, 113]), (25, [2, 8, 9, 10, 14, 15, 16, 17, 18]), (26, [2, 8, 9, 10, 14, 15, 16, 17, 18]), (27, [2, 8, 9, 10, 14, 15, 16, 17, 18, 120]), (28, [6, 7])]
@[go_sem] def us166_6 : List Nat := [0, 0, 3, 0, 0, 24, 7, 127]
theorem ac166 {T : Tab} (hT : TabOk Go.Proofs.Tryz.prog T) {ds : List D} {os : List (Nat × Ob)} {nx : Nat} {Q : D → List (Nat × Ob) → Nat → Prop} (hl : ds.length ≤ 135) (h : awp Go.Proofs.Tryz.prog T 135 nx lv166 (Go.Proofs.Tryz.f166.body.getD .skip) (fin Go.Proofs.Tryz.prog [.tmp 6, .tmp 7] Q) ⟨prm 0 ds, os, nx⟩) : ACall Go.Proofs.Tryz.prog 166 ds os nx Q :=
  acall_intro hT.toS (fn := Go.Proofs.Tryz.f166) lv166 (by kernel_rfl) rfl rfl (by kernel_rfl) rfl hl rfl h
abbrev lv170 : Nat → Option (List Nat) := lvL [(0, [0, 1]), (1, [0, 1, 6, 7]), (2, [6, 7, 14]), (3, [4, 5]), (4, [6, 20]), (5, [4, 5]), (6, [4, 5])]
theorem ac170 {T : Tab} (hT : TabOk Go.Proofs.Tryz.prog T) {ds : List D} {os : List (Nat × Ob)} {nx : Nat} {Q : D → List (Nat × Ob) → Nat → Prop} (hl : ds.length ≤ 24) (h : awp Go.Proofs.Tryz.prog T 24 nx lv170 (Go.Proofs.Tryz.f170.body.getD .skip) (fin Go.Proofs.Tryz.prog [.tmp 4, .tmp 5] Q) ⟨prm 0 ds, os, nx⟩) : ACall Go.Proofs.Tryz.prog 170 ds os nx Q :=
  acall_intro hT.toS (fn := Go.Proofs.Tryz.f170) lv170 (by kernel_rfl) rfl rfl (by kernel_rfl) rfl hl rfl h
abbrev lv171 : Nat → Option (List Nat) := lvL [(0, [0, 1]), (1, [0, 1, 7, 8]), (2, [0, 1, 7, 8, 9]), (3, [0, 1, 5, 7, 8]), (4, [0, 1, 5, 7, 8, 16]), (5, [4]), (6, [0, 1, 7, 8]), (7, [4])]
theorem ac171 {T : Tab} (hT : TabOk Go.Proofs.Tryz.prog T) {ds : List D} {os : List (Nat × Ob)} {nx : Nat} {Q : D → List (Nat × Ob) → Nat → Prop} (hl : ds.length ≤ 19) (h : awp Go.Proofs.Tryz.prog T 19 nx lv171 (Go.Proofs.Tryz.f171.body.getD .skip) (fin Go.Proofs.Tryz.prog [.tmp 4] Q) ⟨prm 0 ds, os, nx⟩) : ACall Go.Proofs.Tryz.prog 171 ds os nx Q :=
  acall_intro hT.toS (fn := Go.Proofs.Tryz.f171) lv171 (by kernel_rfl) rfl rfl (by kernel_rfl) rfl hl rfl h
abbrev lv172 : Nat → Option (List Nat) := lvL [(0, [1, 2]), (1, [3])]
theorem ac172 {T : Tab} (hT : TabOk Go.Proofs.Tryz.prog T) {ds : List D} {os : List (Nat × Ob)} {nx : Nat} {Q : D → List (Nat × Ob) → Nat → Prop} (hl : ds.length ≤ 8) (h : awp Go.Proofs.Tryz.prog T 8 nx lv172 (Go.Proofs.Tryz.f172.body.getD .skip) (fin Go.Proofs.Tryz.prog [.tmp 3] Q) ⟨prm 0 ds, os, nx⟩) : ACall Go.Proofs.Tryz.prog 172 ds os nx Q :=
  acall_intro hT.toS (fn := Go.Proofs.Tryz.f172) lv172 (by kernel_rfl) rfl rfl (by kernel_rfl) rfl hl rfl h
abbrev lv176 : Nat → Option (List Nat) := lvL [(0, [0]), (1, [2])]
theorem ac176 {T : Tab} (hT : TabOk Go.Proofs.Tryz.prog T) {ds : List D} {os : List (Nat × Ob)} {nx : Nat} {Q : D → List (Nat × Ob) → Nat → Prop} (hl : ds.length ≤ 6) (h : awp Go.Proofs.Tryz.prog T 6 nx lv176 (Go.Proofs.Tryz.f176.body.getD .skip) (fin Go.Proofs.Tryz.prog [.tmp 2] Q) ⟨prm 0 ds, os, nx⟩) : ACall Go.Proofs.Tryz.prog 176 ds os nx Q :=
  acall_intro hT.toS (fn := Go.Proofs.Tryz.f176) lv176 (by kernel_rfl) rfl rfl (by kernel_rfl) rfl hl rfl h
end Dm
namespace Dm
open Go
section
variable {P : Program} {g g' : G} {w w' : World}
def Grown (z : Nat) (e : TypeId) (els : List (List C)) (d : D) (os : List (Nat × Ob)) : Prop := ∃ k, d = .vec k els.length ∧ lk k os = some (.vec true z e els)
theorem ACall.grow {f : FuncId} {i j nx m n : Nat} {os : List (Nat × Ob)} {z e : Nat} {h1 h2 : Bool} {A B E : List (List C)} {mid : List D} {Q : D → List (Nat × Ob) → Nat → Prop}
    (h : ACall P f (.vec 0 n :: mid ++ [.vec 1 m]) [(1, .vec h2 z e B), (0, .vec h1 z e A)] 2 fun d os' _ => Grown z e E d os')
    (hi : lk i os = some (.vec h1 z e A)) (hj : lk j os = some (.vec h2 z e B)) (hne : i ≠ j) (hn : A.length < E.length) (hmid : ∀ d ∈ mid, ∀ g g' w v, VRel g w v d → VRel g' w v d)
    (hQ : Q (.vec i E.length) ((i, .vec true z e E) :: rmv os [i, j]) nx) : ACall P f (.vec i n :: mid ++ [.vec j m]) os nx Q := by
  refine ⟨h.1, fun g w vs ho hsz hv => ?_⟩
  have hib := ho.lt hi
  have hjb := ho.lt hj
  let g0 : G := ⟨fun _ => none, fun k => if k = 0 then g.κ i else if k = 1 then g.κ j else none, g.I⟩
  have hoi := ho.ok i _ hi
  have hoj := ho.ok j _ hj
  have hk0 : g0.κ 0 = g.κ i := rfl
  have hk1 : g0.κ 1 = g.κ j := rfl
  have hlk0 : ∀ id o, lk id [(1, Ob.vec h2 z e B), (0, Ob.vec h1 z e A)] = some o → (id = 0 ∧ o = .vec h1 z e A) ∨ (id = 1 ∧ o = .vec h2 z e B) := fun id o h => by
    simp only [lk_cons] at h
    split at h
    · rename_i hid; cases h; exact .inr ⟨hid, rfl⟩
    · split at h
      · rename_i hid; cases h; exact .inl ⟨hid, rfl⟩
      · cases h
  have hb0 : ∀ o : Ob, (∃ hd z e els, o = .vec hd z e els) → g0.blk 0 o = g.blk i o := fun o ⟨hd, z, e, els, ho⟩ => by subst ho; rfl
  have hb1 : ∀ o : Ob, (∃ hd z e els, o = .vec hd z e els) → g0.blk 1 o = g.blk j o := fun o ⟨hd, z, e, els, ho⟩ => by subst ho; rfl
  have hown0 : ∀ b, Own g0 ⟨[], [(1, .vec h2 z e B), (0, .vec h1 z e A)], 2⟩ b → g.blk i (.vec h1 z e A) = some b ∨ g.blk j (.vec h2 z e B) = some b := fun b ⟨id, o, h3, h4⟩ => by
    rcases hlk0 id o h3 with ⟨rfl, rfl⟩ | ⟨rfl, rfl⟩
    · exact .inl h4
    · exact .inr h4
  have hownG : ∀ b, Own g0 ⟨[], [(1, .vec h2 z e B), (0, .vec h1 z e A)], 2⟩ b → Own g ⟨[], os, nx⟩ b := fun b h => (hown0 b h).elim (fun h => ⟨i, _, hi, h⟩) fun h => ⟨j, _, hj, h⟩
  have ho0 : RelO g0 ⟨[], [(1, .vec h2 z e B), (0, .vec h1 z e A)], 2⟩ w := by
    refine ⟨fun id o h => ?_, fun id o id' o' b h3 h4 h5 h6 => ?_, fun id hid => ?_, fun b hb => ⟨(ho.imm b hb).1, fun h => (ho.imm b hb).2 (hownG b h)⟩, ho.cel⟩
    · rcases hlk0 id o h with ⟨rfl, rfl⟩ | ⟨rfl, rfl⟩
      · exact hoi
      · exact hoj
    · rcases hlk0 id o h3 with ⟨rfl, rfl⟩ | ⟨rfl, rfl⟩ <;> rcases hlk0 id' o' h4 with ⟨rfl, rfl⟩ | ⟨rfl, rfl⟩
      · rfl
      · exact absurd (ho.apart i _ j _ b hi hj h5 h6) hne
      · exact absurd (ho.apart i _ j _ b hi hj h6 h5) hne
      · rfl
    · have hid' : 2 ≤ id := hid
      refine ⟨rfl, ?_⟩
      show (if id = 0 then g.κ i else if id = 1 then g.κ j else none) = none
      rw [if_neg (by omega), if_neg (by omega)]
  have hvec : ∀ {k k' m : Nat} {v : Value}, g0.κ k' = g.κ k → VRel g w v (.vec k m) → VRel g0 w v (.vec k' m) := fun {k k' m v} hk hv => by
    cases hv with
    | vec a' cap' _ _ a0 len cap hkk hle hm ha hvq => exact .vec _ _ _ _ a0 len cap (by rw [hk]; exact hkk) hle hm ha hvq
  have hv0 : ∀ (k : Nat) (v : Value) (d : D), vs[k]? = some v → (D.vec 0 n :: mid ++ [.vec 1 m])[k]? = some d → VRel g0 w v d := fun k v d hk hd => by
    have hlen : (D.vec i n :: mid ++ [D.vec j m]).length = mid.length + 2 := by simp
    rcases k with _ | k
    · simp at hd; subst hd
      exact hvec hk0 (hv 0 v _ hk (by simp))
    · simp only [List.cons_append, List.getElem?_cons_succ] at hd
      rw [List.getElem?_append] at hd
      split at hd
      · rename_i hlt
        have := hv (k + 1) v d hk (by simp only [List.cons_append, List.getElem?_cons_succ]; rw [List.getElem?_append_left hlt]; exact hd)
        exact hmid d (List.mem_of_getElem? hd) _ _ _ _ this
      · rename_i hlt
        have hk' : k = mid.length := by
          have := (List.getElem?_eq_some_iff.1 hd).1
          simp at this; omega
        subst hk'
        simp at hd; subst hd
        exact hvec hk1 (hv (mid.length + 1) v _ hk (by simp))
  refine (h.2 g0 w vs ho0 (by simpa using hsz) hv0).mono ?_
  rintro ex w' ⟨v, d, g', os', nx', rfl, ⟨k, rfl, hk⟩, hro, hvr, hst⟩
  have hok := hro.ok k _ hk
  obtain ⟨a2, cap2, h6, h7, h8, h9, h10⟩ := hok
  let g2 : G := ⟨g.ρ, fun id => if id = i then some (a2, E.length, cap2) else g.κ id, g'.I⟩
  have h2i : g2.κ i = g'.κ k := by show (if i = i then _ else _) = _; rw [if_pos rfl, h6]
  have h2o : ∀ id, id ≠ i → g2.κ id = g.κ id := fun id hid => if_neg hid
  obtain ⟨a1, cap1, hi1, hi2⟩ := hoi
  have hle : g.Le g2 := by
    refine ⟨fun _ _ h => h, fun id x l c hid => ?_, fun b hb => hst.le.I b hb⟩
    by_cases hii : id = i
    · subst hii
      rw [hi1] at hid
      cases hid
      exact ⟨a2, E.length, cap2, by rw [h2i, h6], by omega, fun e => by omega⟩
    · exact ⟨x, l, c, by rw [h2o id hii]; exact hid, Nat.le_refl _, fun _ => ⟨rfl, rfl⟩⟩
  have hin : ∀ id o, lk id ((i, Ob.vec true z e E) :: rmv os [i, j]) = some o → (id = i ∧ o = .vec true z e E) ∨ (id ≠ i ∧ id ≠ j ∧ lk id os = some o) := fun id o h => by
    simp only [lk_cons, lk_rmv] at h
    split at h
    · rename_i hid; cases h; exact .inl ⟨hid, rfl⟩
    · rename_i hid
      split at h
      · cases h
      · rename_i hid2
        simp at hid2
        exact .inr ⟨hid, hid2.2, h⟩
  have hblko : ∀ id o, id ≠ i → g2.blk id o = g.blk id o := fun id o hid => by
    cases o with
    | box cs => rfl
    | map _ _ => rfl
    | it _ _ => rfl
    | vec _ _ _ _ => simp only [G.blk, h2o id hid]
  have hblki : ∀ b, g2.blk i (.vec true z e E) = some b → g'.blk k (.vec true z e E) = some b := fun b hb => by
    simp only [G.blk, h2i] at hb ⊢
    exact hb
  -- a block of one of the others is not one of these two
  have hrest : ∀ id o b, id ≠ i → id ≠ j → lk id os = some o → g.blk id o = some b → b < w.heap.size ∧ ¬ Own g0 ⟨[], [(1, .vec h2 z e B), (0, .vec h1 z e A)], 2⟩ b := fun id o b h11 h12 h13 h14 => by
    refine ⟨(ho.ok id o h13).lt.1 b h14, fun h15 => ?_⟩
    rcases hown0 b h15 with h16 | h16
    · exact h11 (ho.apart id o i _ b h13 hi h14 h16)
    · exact h12 (ho.apart id o j _ b h13 hj h14 h16)
  have hnew : ∀ b, g'.blk k (.vec true z e E) = some b → Own g' ⟨[], os', nx'⟩ b := fun b hb => ⟨k, _, hk, hb⟩
  have hownN : ∀ b, Own g2 ⟨[], (i, .vec true z e E) :: rmv os [i, j], nx⟩ b → Own g' ⟨[], os', nx'⟩ b ∨ Own g ⟨[], os, nx⟩ b ∧ b < w.heap.size ∧ ¬ Own g0 ⟨[], [(1, .vec h2 z e B), (0, .vec h1 z e A)], 2⟩ b := fun b ⟨id, o, h11, h12⟩ => by
    rcases hin id o h11 with ⟨rfl, rfl⟩ | ⟨h13, h14, h15⟩
    · exact .inl (hnew b (hblki b h12))
    · rw [hblko id o h13] at h12
      exact .inr ⟨⟨id, o, h15, h12⟩, hrest id o b h13 h14 h15 h12⟩
  have hkeep : Keeps g.I w w' := fun b hb => hst.same b (ho.imm b hb).1 fun h => (ho.imm b hb).2 (hownG b h)
  have himm : ∀ b, b < w.heap.size → ¬ Own g ⟨[], os, nx⟩ b → g'.I b → g.I b := fun b hb hno hi' => hst.imm b hb (fun h => hno (hownG b h)) hi'
  refine ⟨v, _, g2, _, nx, rfl, hQ, ⟨fun id o h => ?_, fun id o id' o' b h11 h12 h13 h14 => ?_, fun id hid => ?_, fun b hb => ⟨(hro.imm b hb).1, fun h => ?_⟩, hro.cel⟩, ?_, ⟨hle, hst.size, fun b hb hno => hst.same b hb fun h => hno (hownG b h), fun b hb hno h => ?_, himm, hst.env⟩⟩
  · rcases hin id o h with ⟨rfl, rfl⟩ | ⟨h11, h12, h13⟩
    · exact ⟨a2, cap2, by rw [h2i, h6], h7, h8, h9, h10⟩
    · exact (ho.ok id o h13).mono hkeep hle (fun b hb => hst.same b (hrest id o b h11 h12 h13 hb).1 (hrest id o b h11 h12 h13 hb).2) (h2o id h11)
  · have key : ∀ id o b, id ≠ i → id ≠ j → lk id os = some o → g.blk id o = some b → g'.blk k (.vec true z e E) = some b → False := fun id o b h15 h16 h17 h18 h19 => by
      have := hrest id o b h15 h16 h17 h18
      exact hst.own b this.1 this.2 (hnew b h19)
    rcases hin id o h11 with ⟨rfl, rfl⟩ | ⟨h15, h16, h17⟩ <;> rcases hin id' o' h12 with ⟨rfl, rfl⟩ | ⟨h18, h19, h20⟩
    · rfl
    · rw [hblko id' o' h18] at h14
      exact (key id' o' b h18 h19 h20 h14 (hblki b h13)).elim
    · rw [hblko id o h15] at h13
      exact (key id o b h15 h16 h17 h13 (hblki b h14)).elim
    · rw [hblko id o h15] at h13
      rw [hblko id' o' h18] at h14
      exact ho.apart id o id' o' b h17 h20 h13 h14
  · have := ho.fresh id hid
    have h20 : nx ≤ id := hid
    have h21 : i < nx := hib
    have hne' : id ≠ i := by omega
    exact ⟨this.1, by rw [h2o id hne']; exact this.2⟩
  · rcases hownN b h with h11 | ⟨h11, h12, h13⟩
    · exact (hro.imm b hb).2 h11
    · exact (ho.imm b (hst.imm b h12 h13 hb)).2 h11
  · cases hvr with
    | vec a' cap' _ _ a0 len cap hkk hle' hm ha hvq => exact .vec _ _ _ _ a0 len cap (by rw [h2i]; exact hkk) hle' hm ha hvq
  · rcases hownN b h with h11 | ⟨h11, _⟩
    · exact hst.own b hb (fun h => hno (hownG b h)) h11
    · exact hno h11
end
end Dm
namespace Dm
open Go
section
variable {κ : Type} [DecidableEq κ]
def alk (a : κ) : List (κ × Int) → Option Int
  | [] => none
  | (x, y) :: l => if x = a then some y else alk a l
def aset (a : κ) (b : Int) : List (κ × Int) → List (κ × Int)
  | [] => [(a, b)]
  | (x, y) :: l => if x = a then (x, b) :: l else (x, y) :: aset a b l
theorem alk_aset {a k : κ} {b : Int} : ∀ {l : List (κ × Int)}, alk k (aset a b l) = if k = a then some b else alk k l
  | [] => by
    simp only [aset, alk]
    by_cases h : a = k
    · rw [if_pos h, if_pos h.symm]
    · rw [if_neg h, if_neg (fun e => h e.symm)]
  | (x, y) :: l => by
    rw [aset]
    by_cases hx : x = a
    · subst hx
      rw [if_pos rfl, alk, alk]
      by_cases h : x = k
      · rw [if_pos h, if_pos h.symm]
      · rw [if_neg h, if_neg (fun e => h e.symm), if_neg h]
    · rw [if_neg hx, alk, alk, alk_aset]
      by_cases h : x = k
      · rw [if_pos h, if_pos h]
        subst h
        rw [if_neg hx]
      · rw [if_neg h, if_neg h]
end
abbrev K3 := Nat × Nat × Nat
def kv3 (l : List (K3 × Int)) : List (List C × D) := l.map fun x => ([.int .u64 x.1.1, .int .u64 x.1.2.1, .int .u64 x.1.2.2], .int .i64 x.2)
theorem mlk_kv3 {a b c : Nat} : ∀ {l : List (K3 × Int)}, mlk [.int .u64 (a : Int), .int .u64 (b : Int), .int .u64 (c : Int)] (kv3 l) = (alk (a, b, c) l).map fun b => .int .i64 b
  | [] => rfl
  | ((x, y, z), v) :: l => by
    show mlk _ (([.int .u64 (x : Int), .int .u64 (y : Int), .int .u64 (z : Int)], _) :: kv3 l) = _
    rw [mlk, alk]
    by_cases h : (x, y, z) = (a, b, c)
    · rw [if_pos h]; cases h; rw [if_pos rfl]; rfl
    · rw [if_neg h, if_neg, mlk_kv3]
      intro e
      simp only [List.cons.injEq, C.int.injEq, true_and, and_true, Int.natCast_inj] at e
      exact h (by rw [e.1, e.2.1, e.2.2])
attribute [go_sem] mlk_kv3
theorem mset_kv3 {a b c : Nat} {v : Int} : ∀ {l : List (K3 × Int)}, mset [.int .u64 (a : Int), .int .u64 (b : Int), .int .u64 (c : Int)] (.int .i64 v) (kv3 l) = kv3 (aset (a, b, c) v l)
  | [] => rfl
  | ((x, y, z), u) :: l => by
    show mset _ _ (([.int .u64 (x : Int), .int .u64 (y : Int), .int .u64 (z : Int)], _) :: kv3 l) = _
    rw [mset, aset]
    by_cases h : (x, y, z) = (a, b, c)
    · rw [if_pos h]; cases h; rw [if_pos rfl]; rfl
    · rw [if_neg h, if_neg, mset_kv3]
      · rfl
      · intro e
        simp only [List.cons.injEq, C.int.injEq, true_and, and_true, Int.natCast_inj] at e
        exact h (by rw [e.1, e.2.1, e.2.2])
attribute [go_sem] mset_kv3
@[go_sem] theorem bel_kv3 {N : Nat} {l : List (K3 × Int)} : mbel N (kv3 l) = true := by
  simp [mbel, kv3, D.bel2, D.bel1, D.bel0]
@[go_sem] theorem mids_kv3 : ∀ {l : List (K3 × Int)}, (kv3 l).map (·.2) = l.map fun x => D.int .i64 x.2 := by
  intro l; simp [kv3]
@[go_sem] theorem midsL_int {α : Type} {k : IntKind} {f : α → Int} : ∀ {l : List α}, midsL (l.map fun x => D.int k (f x)) = []
  | [] => rfl
  | x :: l => by
    rw [List.map_cons, midsL, midsL_int]; rfl
@[go_sem] theorem midsL_mzero {key : List C} {k : IntKind} {n : Int} : ∀ {kv : List (List C × D)}, midsL ((mzero key (.int k n) kv).map (·.2)) = midsL (kv.map (·.2))
  | [] => rfl
  | (k', d) :: l => by
    rw [mzero]
    split
    · rfl
    · rw [List.map_cons, List.map_cons, midsL, midsL, midsL_mzero]
attribute [go_sem] mput_mset
@[go_sem] theorem mpos_nn {k : List C} {kv : List (List C × D)} : (0 ≤ ((mpos k kv : Nat) : Int)) = True := eq_true (by omega)
@[go_sem] theorem mpos_in {k : List C} {z : D} {kv : List (List C × D)} : (((mpos k kv : Nat) : Int) < (((mzero k z kv).length : Nat) : Int)) = True := eq_true (by have := mpos_lt (k := k) (z := z) (kv := kv); omega)
@[go_sem] theorem getD_mi {o : Option Int} : (o.map fun b => D.int .i64 b).getD (.int .i64 0) = .int .i64 (o.getD 0) := by cases o <;> rfl
@[go_sem] theorem rdD_none {P : Program} {s : St} : rdD P s [] = some (.tup []) := rfl
@[go_sem] theorem rdD_4 {P : Program} {s : St} {r r' r'' r3 : ResultVar} : rdD P s [r, r', r'', r3] = match rd1 P s r, rd1 P s r', rd1 P s r'', rd1 P s r3 with | some x, some y, some z, some u => some (.tup [x, y, z, u]) | _, _, _, _ => none := by
  unfold rdD rds rds rds rds rds
  cases rd1 P s r <;> cases rd1 P s r' <;> cases rd1 P s r'' <;> cases rd1 P s r3 <;> rfl
theorem okL_z {o : Option Int} {d : Option Nat} {s : St} {K : St → Prop} : okL (some (o.map fun b => D.int .i64 b, D.int .i64 0)) false d s K = K (s.put d (.int .i64 (o.getD 0))) := by
  cases o <;> rfl
end Dm
namespace Dm
open Go
def mrk (D : Nat) : Deferred := { target := .collected D, args := #[] }
section
variable {δ : List Deferred} {P : Program} {T : Tab} {g g' g'' : G} {s s' s'' : St} {a : Act} {w w' w'' : World} {n N : Nat}

def SWm (P : Program) (n N : Nat) (c : Code) (Q : Exit → St → Prop) (s : St) : Prop :=
  ∀ (δ : List Deferred) (g : G) (a : Act) (w : World), Rel δ g s a w → a.tmps.size = n →
    c.wp P (fun e a' w' => ∃ (Ds : List Nat) (g' : G) (s' : St), Q e s' ∧ Rel (Ds.map mrk ++ δ) g' s' a' w' ∧ (∀ D ∈ Ds, w.heap.size ≤ D ∧ w'.heap[D]? = some (.deferred (some []))) ∧ Ds.Nodup ∧ a'.tmps.size = n ∧ StepN N g s w g' s' w') a w

theorem SWm.of {c : Code} {Q : Exit → St → Prop} (h : SWp P n N c Q s) : SWm P n N c Q s := fun δ g a w hr hn =>
  wp_mono (h δ g a w hr hn) fun e a' w' ⟨g', s', h1, h2, h3, h4⟩ => ⟨[], g', s', h1, h2, fun D hD => (by cases hD), List.nodup_nil, h3, h4⟩

theorem StepN.other (h : StepN N g s w g' s' w') (ho : RelO g s w) {D : Nat} {o : Obj} (hD : w.heap[D]? = some o) (hc : plainOb o = false) : w'.heap[D]? = some o := by
  rw [h.same D (Array.getElem?_eq_some_iff.1 hD).1 fun hown => ?_, hD]
  obtain ⟨o', h1, h2⟩ := Own.cel ho hown
  rw [h1] at hD
  cases hD
  rw [hc] at h2
  cases h2

theorem SWm.seq {x y : Code} {Q : Exit → St → Prop} (h : SWm P n N x (sq (SWm P n N y Q) Q) s) : SWm P n N (.seq x y) Q s := fun δ g a w hr hn => by
  refine wp_seq (wp_mono (h δ g a w hr hn) fun e a' w' ⟨Ds, g', s', h1, h2, h3, h4, h5, h6⟩ => ?_)
  cases e with
  | normal =>
    refine wp_mono (h1 _ g' a' w' h2 h5) fun e a'' w'' ⟨Ds', g'', s'', h7, h8, h9, h10, h11, h12⟩ => ?_
    refine ⟨Ds' ++ Ds, g'', s'', h7, by simpa using h8, fun D hD => ?_, ?_, h11, h6.trans h12⟩
    · rcases List.mem_append.1 hD with hD | hD
      · exact ⟨Nat.le_trans h6.size (h9 D hD).1, (h9 D hD).2⟩
      · exact ⟨(h3 D hD).1, h12.other h2.o (h3 D hD).2 rfl⟩
    · refine List.nodup_append.2 ⟨h10, h4, fun D hD D' hD' e => ?_⟩
      subst e
      have := (h9 D hD).1
      have := (Array.getElem?_eq_some_iff.1 (h3 D hD').2).1
      omega
  | _ => exact ⟨Ds, g', s', h1, h2, h3, h4, h5, h6⟩

theorem SWm.block {id : Nat} {c : Code} {Q : Exit → St → Prop} (h : SWm P n N c (bl id Q) s) : SWm P n N (.block id c) Q s := fun δ g a w hr hn => by
  refine wp_block (wp_mono (h δ g a w hr hn) fun e a' w' ⟨Ds, g', s', h1, h2, h3, h4, h5, h6⟩ => ?_)
  cases e with
  | exit i =>
    simp only [bl] at h1
    simp only [Exit.inBlock]
    split
    · rename_i hi
      rw [if_pos hi] at h1
      exact ⟨Ds, g', s', h1, h2, h3, h4, h5, h6⟩
    · rename_i hi
      rw [if_neg hi] at h1
      exact ⟨Ds, g', s', h1, h2, h3, h4, h5, h6⟩
  | _ => exact ⟨Ds, g', s', h1, h2, h3, h4, h5, h6⟩

theorem SWm.mono {c : Code} {Q Q' : Exit → St → Prop} (h : SWm P n N c Q s) (hq : ∀ e s', Q e s' → Q' e s') : SWm P n N c Q' s :=
  fun δ g a w hr hn => wp_mono (h δ g a w hr hn) fun e a' w' ⟨Ds, g', s', h1, h2⟩ => ⟨Ds, g', s', hq e s' h1, h2⟩

theorem Ext.grown (h : Ext w w') : w.grownBy w' none := ⟨h.2.2.os, h.2.2.tape, h.2.2.out, h.1, fun k hk _ => h.2.1 k hk⟩

theorem RelO.grown {row : Option Nat} (ho : RelO g s w) (hg : w.grownBy w' row) (hrow : ∀ r, row = some r → ∃ o : Obj, w.heap[r]? = some o ∧ plainOb o = false) : RelO g s w' := by
  have hcel : ∀ b, Cel w b → w'.heap[b]? = w.heap[b]? := fun b hb => hg.block b hb.lt fun e => by
    obtain ⟨o, h1, h2⟩ := hrow b e.symm
    obtain ⟨o', h3, h4⟩ := hb
    rw [h3] at h1
    cases h1
    rw [h4] at h2
    cases h2
  have hk : Keeps g.I w w' := fun b hb => hcel b (ho.cel b hb)
  exact ⟨fun id o h => (ho.ok id o h).mono hk (.refl g) (fun b hb => hcel b (Own.cel ho ⟨id, o, h, hb⟩)) rfl, ho.apart, ho.fresh, fun b hb => ⟨Nat.lt_of_lt_of_le (ho.imm b hb).1 hg.size, (ho.imm b hb).2⟩, ho.cel.same fun b hb => hcel b (ho.cel b hb)⟩
theorem Rel.grown {row : Option Nat} (hr : Rel δ g s a w) (hg : w.grownBy w' row) (hrow : ∀ r, row = some r → ∃ o : Obj, w.heap[r]? = some o ∧ plainOb o = false) : Rel δ g s a w' := by
  have hk : Keeps g.I w w' := fun b hb => hg.block b (hr.o.cel b hb).lt fun e => by
    obtain ⟨o, h1, h2⟩ := hrow b e.symm
    obtain ⟨o', h3, h4⟩ := hr.o.cel b hb
    rw [h3] at h1
    cases h1
    rw [h4] at h2
    cases h2
  exact ⟨fun t d ht => let ⟨v, h1, h2⟩ := hr.tm t d ht; ⟨v, h1, h2.mono hk (.refl g)⟩, hr.defers, hr.o.grown hg hrow⟩
theorem StepN.grown {row : Option Nat} (h : StepN N g s w g' s' w') (hg : w'.grownBy w'' row) (hd : w'.drawn ≤ w''.drawn) (hrow : ∀ r, row = some r → w.heap.size ≤ r) : StepN N g s w g' s' w'' :=
  ⟨h.ρ, h.κ, h.I, Nat.le_trans h.size hg.size, fun b hb ho => (hg.block b (Nat.lt_of_lt_of_le hb h.size) fun e => by have := hrow b e.symm; omega).trans (h.same b hb ho), h.own, h.imm, h.env.trans ⟨hg.os, hg.output, hg.tape, hd⟩⟩

theorem StepN.less {M : Nat} (hNM : N ≤ M) (h : StepN M g s w g' s' w') : StepN N g s w g' s' w' :=
  ⟨fun id b hi => h.ρ id b (by omega), fun id a l c hi => h.κ id a l c (by omega), h.I, h.size, h.same, h.own, h.imm, h.env⟩
def SeqG (P : Program) (gf : FuncId) (lb : Array Value) (I : Nat → Prop) {m : Nat} (ys : Fin m → List D) (order : List (Fin m)) (w : World) : Prop :=
  ∀ (l : Nat) (J Jx : List (Fin m) → World → Prop) (W : World), RowKit.Below w.heap.size w W → (∀ pre A B, J pre A → Ext A B → J pre B) → (∀ pre A B, Jx pre A → Ext A B → Jx pre B) →
    (∀ pre x (vs : Array Value) W1, J pre W1 → pre.length < m → vs.size = (ys x).length → (∀ (j : Nat) (v : Value) (d : D), vs[j]? = some v → (ys x)[j]? = some d → VRel (G0 I) W1 v d) → YieldAt Fence.wide 3 P l vs W1 fun e W' =>
      (e = .returned (.bool true) ∧ J (pre ++ [x]) W' ∧ ∀ b, I b → Cel W1 b → W'.heap[b]? = W1.heap[b]?) ∨ (e = .returned (.bool false) ∧ Jx (pre ++ [x]) W' ∧ ∀ b, I b → Cel W1 b → W'.heap[b]? = W1.heap[b]?)) →
    J [] W → CallsIn Fence.wide 4 P gf (#[.func (.yield l) #[] #[]] ++ lb) W fun e W' => (∃ v, e = .returned v) ∧ ((∃ xs, xs = order ∧ J xs W') ∨ (∃ pre, pre <+: order ∧ Jx pre W'))
def IterOk (P : Program) (gf : FuncId) (caps : List D) {m : Nat} (ys : Fin m → List D) (order : List (Fin m)) : Prop :=
  (∀ (args : Array Value) (w : World), (callFunc gf args).run P w = .ok (.enter gf args) w) ∧ ∀ (I : Nat → Prop) (w : World) (lb : Array Value), Cels I w → lb.size = caps.length → (∀ (i : Nat) (v : Value) (d : D), lb[i]? = some v → caps[i]? = some d → VRel (G0 I) w v d) →
    SeqG P gf lb I ys order w

def setps : List Nat → List D → List (Nat × D) → List (Nat × D)
  | p :: l, d :: ds, tm => setps l ds ((p, d) :: tm)
  | _, _, tm => tm
def asg (A : St → Prop) : Exit → St → Prop
  | .normal, s => A s
  | _, _ => False
def rfp (Q : Exit → St → Prop) (s : St) (A : St → Prop) (pfx : Prop) : Exit → St → Prop
  | .normal, s' => A s'
  | .ret, s' => pfx → Q .ret ⟨s.tm, s'.os, s'.nx⟩
  | .exit i, s' => pfx → Q (.exit i) ⟨s.tm, s'.os, s'.nx⟩
  | _, _ => False

theorem setps_rel {δ' : List Deferred} {w : World} : ∀ (ps : List Nat) (ds : List D) (vs : List Value) {tm : List (Nat × D)} {os : List (Nat × Ob)} {nx : Nat} {a : Act}, Rel δ' g ⟨tm, os, nx⟩ a w → vs.length = ds.length → (∀ p ∈ ps, p < a.tmps.size) →
    (∀ (j : Nat) (v : Value) (d : D), vs[j]? = some v → ds[j]? = some d → VRel g w v d) →
    Rel δ' g ⟨setps ps ds tm, os, nx⟩ { tmps := (ps.zip vs).foldl (fun t (p, v) => t.setIfInBounds p v) a.tmps, defers := a.defers } w ∧ ((ps.zip vs).foldl (fun t (p, v) => t.setIfInBounds p v) a.tmps).size = a.tmps.size
  | [], ds, vs, tm, os, nx, a, hr, _, _, _ => ⟨by simpa [setps] using hr, rfl⟩
  | p :: ps, [], [], tm, os, nx, a, hr, _, _, _ => ⟨by simpa [setps] using hr, rfl⟩
  | p :: ps, d :: ds, v :: vs, tm, os, nx, a, hr, hl, hp, hv => by
    have h1 : Rel δ' g ⟨(p, d) :: tm, os, nx⟩ (a.put (some p) v) w := hr.put (some p) (hv 0 v d rfl rfl) (fun x hx => by cases hx; exact hp p (by simp))
    have h2 := setps_rel ps ds vs (a := a.put (some p) v) h1 (by simpa using hl) (fun q hq => by rw [put_size]; exact hp q (by simp [hq])) (fun j u e hu he => hv (j + 1) u e (by simpa using hu) (by simpa using he))
    refine ⟨?_, ?_⟩
    · have := h2.1
      simpa [setps, Act.put] using this
    · have := h2.2
      rw [put_size] at this
      simpa [Act.put] using this

def exOf : Code → Option Exit
  | .ret => some .ret
  | .exit i => some (.exit i)
  | _ => none

def D.pure1 : D → Bool
  | .c _ => true
  | .rp _ => true
  | _ => false
theorem VRel.toG0 {v : Value} {d : D} (hd : d.pure1 = true) (h : VRel g w v d) : VRel (G0 g.I) w v d := by
  cases d <;> simp only [D.pure1, Bool.false_eq_true] at hd
  case c x => cases h with | c _ _ h => exact .c _ _ h
  case rp cs => cases h with | rp b off _ vs hI hc => exact .rp b off cs vs hI hc

theorem SWm.rangeFunc (hT : TabS P T) (lv : Nat → Option (List Nat)) {gop : Operand} {ps : Array Tmp} {assign body : Code} {Q : Exit → St → Prop} {gf : FuncId} {caps : List D} (hev : s.ev gop = .fn (.func gf) [] caps) (hcaps : ∀ d ∈ caps, d.pure1 = true)
    {m : Nat} {ys : Fin m → List D} {order : List (Fin m)} (hit : IterOk P gf caps ys order) (O : List (Fin m) → List (Nat × Ob)) (ok : List (Fin m) → Prop)
    (hps : ∀ x, (ys x).length = ps.size) (hpn : ∀ p ∈ ps.toList, p < n) (hN : N ≤ s.nx)
    (ha1 : plainC assign = true) (ha2 : dstOk n assign = true) (hb1 : plainC body = true) (hb2 : dstOk n body = true)
    (h0 : ok [] ∧ Sub s.nx s ⟨s.tm, O [], s.nx⟩)
    (hround : ∀ pre x, ok pre → pre.length < m → awp P T n s.nx lv assign (asg fun s1 =>
      awp P T n s.nx lv body (rfp Q s (fun s' => ok (pre ++ [x]) ∧ Sub s.nx ⟨s.tm, s'.os, s'.nx⟩ ⟨s.tm, O (pre ++ [x]), s.nx⟩) (pre ++ [x] <+: order)) s1) ⟨setps ps.toList (ys x) s.tm, O pre, s.nx⟩)
    (hdone : ok order → Q .normal ⟨s.tm, O order, s.nx⟩) : SWm P n N (.rangeFunc gop ps assign body) Q s := by
  intro δ g a w hr hn
  have hg := hr.ev gop
  rw [hev] at hg
  generalize hgv : a.eval gop = gv at hg
  cases hg with
  | fn _ fiv lb _ _ h1 h2 h3 h4 =>
  have hfi : fiv = #[] := by
    apply Array.eq_empty_of_size_eq_zero
    simpa using h1
  subst hfi
  obtain ⟨hent, hit⟩ := hit
  have hseq := hit g.I w lb hr.o.cel h2 fun i v d hv hd => (h4 i v d hv hd).toG0 (hcaps d (List.mem_of_getElem? hd))
  have hst0 : ∃ g1, Rel δ g1 ⟨s.tm, O [], s.nx⟩ a w ∧ StepN s.nx g s w g1 ⟨s.tm, O [], s.nx⟩ w := ⟨_, hr.sub h0.2⟩
  refine wpIn_wide (n := 5).1 (wpIn_rangeFunc fun fn _ => ?_)
  obtain ⟨rec, hrec⟩ : ∃ rec : LoopState → Option Code → Loop, rec = fun st pe => { state := st, pending := pe, fn, tmps := a.tmps, params := ps, assign, body, defers := w.heap.size } := ⟨_, rfl⟩
  obtain ⟨W1, hW1⟩ : ∃ W1, (w.alloc (.deferred (some []))).alloc (.loop (rec .ready none)) = W1 := ⟨_, rfl⟩
  have hL1 : W1.heap[w.heap.size + 1]? = some (.loop (rec .ready none)) := by
    rw [← hW1]; have := World.alloc_heap_new (w.alloc (.deferred (some []))) (.loop (rec .ready none)); rwa [World.size_alloc] at this
  have hD1 : W1.heap[w.heap.size]? = some (.deferred (some [])) := by
    rw [← hW1]; exact (RowKit.Below.heap_alloc _ _ _ (by simp)).trans (World.alloc_heap_new w _)
  have hb1' : RowKit.Below w.heap.size w W1 := by
    rw [← hW1]; exact ((RowKit.Below.refl _ w).alloc (Nat.le_refl _) _).alloc (by simp) _
  -- what holds between two rounds
  obtain ⟨J, hJ⟩ : ∃ J : List (Fin m) → World → Prop, J = fun pre W => ok pre ∧ ∃ g1, Rel δ g1 ⟨s.tm, O pre, s.nx⟩ a W ∧ StepN s.nx g s w g1 ⟨s.tm, O pre, s.nx⟩ W := ⟨_, rfl⟩
  obtain ⟨Jx, hJx⟩ : ∃ Jx : Code → List (Fin m) → World → Prop, Jx = fun c pre W => ∃ (e : Exit) (s' : St) (g1 : G), exOf c = some e ∧ (pre <+: order → Q e ⟨s.tm, s'.os, s'.nx⟩) ∧ Rel δ g1 ⟨s.tm, s'.os, s'.nx⟩ a W ∧ StepN s.nx g s w g1 ⟨s.tm, s'.os, s'.nx⟩ W := ⟨_, rfl⟩
  have hJe : ∀ pre W W', J pre W → Ext W W' → J pre W' := by
    intro pre W W' h he
    rw [hJ] at h ⊢
    obtain ⟨h5, g1, h6, h7⟩ := h
    exact ⟨h5, g1, h6.grown he.grown fun r e => (by cases e), h7.grown he.grown he.2.2.drw fun r e => by cases e⟩
  have hJxe : ∀ c pre W W', Jx c pre W → Ext W W' → Jx c pre W' := by
    intro c pre W W' h he
    rw [hJx] at h ⊢
    obtain ⟨e, s', g1, h5, h8, h6, h7⟩ := h
    exact ⟨e, s', g1, h5, h8, h6.grown he.grown fun r e => (by cases e), h7.grown he.grown he.2.2.drw fun r e => by cases e⟩
  have hJg : ∀ pre W W' row, J pre W → W.grownBy W' row → W.drawn ≤ W'.drawn → (∀ r, row = some r → w.heap.size ≤ r ∧ ∃ o : Obj, W.heap[r]? = some o ∧ plainOb o = false) → J pre W' := by
    intro pre W W' row h hgr hdr hrow
    rw [hJ] at h ⊢
    obtain ⟨h5, g1, h6, h7⟩ := h
    exact ⟨h5, g1, h6.grown hgr fun r e => (hrow r e).2, h7.grown hgr hdr fun r e => (hrow r e).1⟩
  have hJxg : ∀ c pre W W' row, Jx c pre W → W.grownBy W' row → W.drawn ≤ W'.drawn → (∀ r, row = some r → w.heap.size ≤ r ∧ ∃ o : Obj, W.heap[r]? = some o ∧ plainOb o = false) → Jx c pre W' := by
    intro c pre W W' row h hgr hdr hrow
    rw [hJx] at h ⊢
    obtain ⟨e, s', g1, h5, h8, h6, h7⟩ := h
    exact ⟨e, s', g1, h5, h8, h6.grown hgr fun r e => (hrow r e).2, h7.grown hgr hdr fun r e => (hrow r e).1⟩
  have hput : ∀ (W : World) (o : Obj), W.heap[w.heap.size + 1]? = some o → plainOb o = false → ∀ r, some (w.heap.size + 1) = some r → w.heap.size ≤ r ∧ ∃ o : Obj, W.heap[r]? = some o ∧ plainOb o = false := fun W o h h' r e => by cases e; exact ⟨by omega, o, h, h'⟩
  have hW1g : ∀ pre, J pre w → J pre W1 := fun pre h => by
    rw [← hW1]
    exact hJg _ _ _ none (hJg _ _ _ none h (World.grownBy_alloc w _ none) (Nat.le_refl _) (fun r e => by cases e)) (World.grownBy_alloc _ _ none) (Nat.le_refl _) fun r e => by cases e
  refine ⟨w.heap.size + 1, [{ target := .collected w.heap.size, args := #[] }], W1, { target := .fn (.func gf) lb, args := #[.func (.yield (w.heap.size + 1)) #[] #[]] }, W1, gf,
    #[.func (.yield (w.heap.size + 1)) #[] #[]] ++ lb, W1, ?_, ?_, ?_, ?_, fun _ => by omega, ?_⟩
  · rw [← hW1, hrec]; exact run_enterLoop_outer _ _ _ _ _
  · simp only [resolve, hgv]
    simp [go_sem]
  · intro f' _; trivial
  · simp [invoke, go_sem, hent]
  · refine (hseq (w.heap.size + 1)
      (fun pre W => J pre W ∧ W.heap[w.heap.size + 1]? = some (.loop (rec .ready none)) ∧ W.heap[w.heap.size]? = some (.deferred (some [])))
      (fun pre W => ∃ c, Jx c pre W ∧ W.heap[w.heap.size + 1]? = some (.loop (rec .done (some c))) ∧ W.heap[w.heap.size]? = some (.deferred (some [])))
      W1 hb1'
      (fun pre A B hs he => ⟨hJe pre A B hs.1 he, (he.2.1 _ (Array.getElem?_eq_some_iff.1 hs.2.1).1).trans hs.2.1, (he.2.1 _ (Array.getElem?_eq_some_iff.1 hs.2.2).1).trans hs.2.2⟩)
      (fun pre A B hs he => by
        obtain ⟨c, hc, hl, hk⟩ := hs
        exact ⟨c, hJxe c pre A B hc he, (he.2.1 _ (Array.getElem?_eq_some_iff.1 hl).1).trans hl, (he.2.1 _ (Array.getElem?_eq_some_iff.1 hk).1).trans hk⟩)
      ?_ ⟨hW1g _ (by rw [hJ]; exact ⟨h0.1, hst0⟩), hL1, hD1⟩).mono ?_
    · -- one round
      rintro pre x vs W ⟨hj, hl, hk⟩ hlen hvs1 hvs2
      rw [hJ] at hj
      obtain ⟨hok, g1, hr1, hs1⟩ := hj
      have hy := run_yield (P := P) (args := vs) hl (by rw [hrec]; exact hvs1.trans (hps x))
      rw [hrec] at hy
      have henc : ∀ (j : Nat) (v : Value) (d : D), vs[j]? = some v → (ys x)[j]? = some d → VRel g1 W v d := fun j v d hv hd =>
        (hvs2 j v d hv hd).of0 (g := g1) fun b hb => hs1.I b hb
      have hset := setps_rel (δ' := []) ps.toList (ys x) vs.toList (a := { tmps := a.tmps, defers := [] }) (g := g1) (w := W) (tm := s.tm) (os := O pre) (nx := s.nx) ⟨hr1.tm, rfl, hr1.o⟩ (by simpa using hvs1) (fun p hp => by show p < a.tmps.size; rw [hn]; exact hpn p hp) (fun j v d hv hd => henc j v d (by simpa using hv) hd)
      have hzip : ((ps.zip vs).foldl (fun t (p, v) => t.setIfInBounds p v) a.tmps) = ((ps.toList.zip vs.toList).foldl (fun t (p, v) => t.setIfInBounds p v) a.tmps) := by
        rw [← Array.foldl_toList, Array.toList_zip]
      refine ⟨fn, _, assign, body, hy, roundIn_of_wpIn trivial ?_⟩
      rw [hzip]
      refine wpIn_mono (awp_in hT lv assign _ _ ha1 ha2 (hround pre x hok hlen) g1 _ W hset.1 (by show _ = n; rw [hset.2]; exact hn)) ?_
      rintro e a2 W2 ⟨g2, s2, h5, h6, h7, h8⟩
      cases e with
      | normal =>
        have h5 : awp P T n s.nx lv body _ s2 := h5
        have hl2 := h8.other hset.1.o hl rfl
        have hk2 := h8.other hset.1.o hk rfl
        refine ⟨_, run_beginRound hl2 (by rw [hrec]), ?_⟩
        obtain ⟨W3, hW3⟩ : ∃ W3, W2.putObj (w.heap.size + 1) (.loop { rec .ready none with state := .busy }) = W3 := ⟨_, rfl⟩
        rw [hW3]
        have hg3 : W2.grownBy W3 (some (w.heap.size + 1)) := by rw [← hW3]; exact grownBy_putObj' _ _ _
        have hlt2 : w.heap.size + 1 < W2.heap.size := (Array.getElem?_eq_some_iff.1 hl2).1
        have hl3 : W3.heap[w.heap.size + 1]? = some (.loop { rec .ready none with state := .busy }) := by rw [← hW3]; exact World.putObj_heap_same hlt2
        have hk3 : W3.heap[w.heap.size]? = some (.deferred (some [])) := by rw [← hW3]; exact (World.putObj_heap_other (by omega)).trans hk2
        have hr3 := h6.grown hg3 fun r e => (hput W2 _ hl2 rfl r e).2
        have hs3 : StepN s.nx g s w g2 ⟨s.tm, s2.os, s2.nx⟩ W3 := ((hs1.tm (tm := s.tm) (tm' := s.tm)).trans (h8.tm (tm := s.tm) (tm' := s.tm))).grown hg3 (by rw [← hW3]; exact Nat.le_refl _) fun r e => (hput W2 _ hl2 rfl r e).1
        refine wpIn_mono (awp_in hT lv body _ _ hb1 hb2 h5 g2 a2 W3 hr3 h7) ?_
        rintro e a4 W4 ⟨g4, s4, h9, h10, h11, h12⟩
        have hl4 := h12.other hr3.o hl3 rfl
        have hk4 := h12.other hr3.o hk3 rfl
        have hs4 : StepN s.nx g s w g4 ⟨s.tm, s4.os, s4.nx⟩ W4 := hs3.trans (h12.tm (tm := s.tm) (tm' := s.tm))
        have hst : Step g s w g4 ⟨s.tm, s4.os, s4.nx⟩ W4 := hs4.step hr.o (Nat.le_refl _)
        have hr4 : Rel δ g4 ⟨s.tm, s4.os, s4.nx⟩ a W4 := ⟨fun t d ht => let ⟨v, h13, h14⟩ := hr.tm t d ht; ⟨v, h13, hst.vrel hr.o h14⟩, hr.defers, h10.o.tm⟩
        have fin : ∀ (jump : Option Code), ∃ W5, (Instr.endRound (w.heap.size + 1) jump).run P W4 = .ok (.bool jump.isNone) W5 ∧ (W4.grownBy W5 (some (w.heap.size + 1)) ∧ W4.drawn ≤ W5.drawn) ∧ W5.heap[w.heap.size + 1]? = some (.loop (rec (if jump.isNone then .ready else .done) jump)) ∧ W5.heap[w.heap.size]? = some (.deferred (some [])) := fun jump => by
          have := run_endRound (P := P) jump hl4
          rw [hrec] at this ⊢
          exact ⟨_, this, ⟨grownBy_putObj' _ _ _, Nat.le_refl _⟩, World.putObj_heap_same (Array.getElem?_eq_some_iff.1 hl4).1, (World.putObj_heap_other (by omega)).trans hk4⟩
        have hkp : ∀ W5, W4.grownBy W5 (some (w.heap.size + 1)) → ∀ b, g.I b → Cel W b → W5.heap[b]? = W.heap[b]? := fun W5 hg5 b hb _ => by
          have h13 : W.heap[b]? = w.heap[b]? := hs1.same b (hr.o.imm b hb).1 (hr.o.imm b hb).2
          have h14 : W4.heap[b]? = w.heap[b]? := hst.same b (hr.o.imm b hb).1 (hr.o.imm b hb).2
          have hlt := (hr.o.imm b hb).1
          rw [h13, ← h14]
          exact hg5.block b (Nat.lt_of_lt_of_le hlt hst.size) fun e => by cases e; omega
        have leave : ∀ (c : Code) (e : Exit), exOf c = some e → (pre ++ [x] <+: order → Q e ⟨s.tm, s4.os, s4.nx⟩) → Jx c (pre ++ [x]) W4 := fun c e h13 h14 => by
          rw [hJx]
          exact ⟨e, s4, g4, h13, h14, hr4, hs4⟩
        cases e with
        | normal =>
          obtain ⟨h13, h14⟩ : ok (pre ++ [x]) ∧ Sub s.nx ⟨s.tm, s4.os, s4.nx⟩ ⟨s.tm, O (pre ++ [x]), s.nx⟩ := h9
          obtain ⟨h15, h16⟩ := hr4.sub h14
          obtain ⟨W5, h17, h18, h19, h20⟩ := fin none
          refine ⟨_, W5, h17, .inl ⟨rfl, ⟨hJg _ W4 W5 _ (by rw [hJ]; exact ⟨h13, _, h15, hs4.trans h16⟩) h18.1 h18.2 (hput W4 _ hl4 rfl), h19, h20⟩, hkp W5 h18.1⟩⟩
        | ret =>
          obtain ⟨W5, h17, h18, h19, h20⟩ := fin (some .ret)
          exact ⟨_, W5, h17, .inr ⟨rfl, ⟨.ret, hJxg _ _ W4 W5 _ (leave .ret .ret rfl h9) h18.1 h18.2 (hput W4 _ hl4 rfl), h19, h20⟩, hkp W5 h18.1⟩⟩
        | exit i =>
          obtain ⟨W5, h17, h18, h19, h20⟩ := fin (some (.exit i))
          exact ⟨_, W5, h17, .inr ⟨rfl, ⟨.exit i, hJxg _ _ W4 W5 _ (leave (.exit i) (.exit i) rfl h9) h18.1 h18.2 (hput W4 _ hl4 rfl), h19, h20⟩, hkp W5 h18.1⟩⟩
        | _ => exact h9.elim
      | _ => exact h5.elim
    · -- behind the iterator
      rintro e W2 ⟨⟨v, rfl⟩, (⟨xs, rfl, hi, hl, hk⟩ | ⟨pre, hSp, c, hi, hl, hk⟩)⟩
      · refine ⟨none, _, by have := run_endLoop (P := P) hl (by rw [hrec]; simp); rw [hrec] at this; exact this, ?_⟩
        have hg3 := grownBy_putObj' W2 (w.heap.size + 1) (.loop { rec .ready none with state := .exhausted })
        have hi3 := hJg _ W2 _ _ hi hg3 (Nat.le_refl _) (hput W2 _ hl rfl)
        have hk3 := (World.putObj_heap_other (w := W2) (r := w.heap.size + 1) (o := .loop { rec .ready none with state := .exhausted }) (k := w.heap.size) (by omega)).trans hk
        rw [hrec] at hi3 hk3
        rw [hJ] at hi3
        obtain ⟨h5, g1, h6, h7⟩ := hi3
        exact ⟨[w.heap.size], g1, _, hdone h5, ⟨h6.tm, by show _ :: a.defers = _; rw [hr.defers]; rfl, h6.o⟩, fun D hD => by simp at hD; subst hD; exact ⟨Nat.le_refl _, hk3⟩, by simp, hn, StepN.less hN h7⟩
      · refine ⟨some c, _, by have := run_endLoop (P := P) hl (by rw [hrec]; simp); rw [hrec] at this; exact this, ?_⟩
        have hg3 := grownBy_putObj' W2 (w.heap.size + 1) (.loop { rec .done (some c) with state := .exhausted })
        have hi3 := hJxg c _ W2 _ _ hi hg3 (Nat.le_refl _) (hput W2 _ hl rfl)
        have hk3 := (World.putObj_heap_other (w := W2) (r := w.heap.size + 1) (o := .loop { rec .done (some c) with state := .exhausted }) (k := w.heap.size) (by omega)).trans hk
        rw [hrec] at hi3 hk3
        rw [hJx] at hi3
        have hfin : ∀ Wf, (∃ (e : Exit) (s' : St) (g1 : G), exOf c = some e ∧ (pre <+: order → Q e ⟨s.tm, s'.os, s'.nx⟩) ∧ Rel δ g1 ⟨s.tm, s'.os, s'.nx⟩ a Wf ∧ StepN s.nx g s w g1 ⟨s.tm, s'.os, s'.nx⟩ Wf) → Wf.heap[w.heap.size]? = some (.deferred (some [])) →
            c.wpIn Fence.wide 5 P (fun e a' w' => ∃ (Ds : List Nat) (g' : G) (s' : St), Q e s' ∧ Rel (Ds.map mrk ++ δ) g' s' a' w' ∧ (∀ D ∈ Ds, w.heap.size ≤ D ∧ w'.heap[D]? = some (.deferred (some []))) ∧ Ds.Nodup ∧ a'.tmps.size = n ∧ StepN N g s w g' s' w') { a with defers := [{ target := .collected w.heap.size, args := #[] }] ++ a.defers } Wf := by
          rintro Wf ⟨e, s', g1, h5, h8, h6, h7⟩ hkf
          have key : ∃ (Ds : List Nat) (g' : G) (s' : St), Q e s' ∧ Rel (Ds.map mrk ++ δ) g' s' { a with defers := [{ target := .collected w.heap.size, args := #[] }] ++ a.defers } Wf ∧ (∀ D ∈ Ds, w.heap.size ≤ D ∧ Wf.heap[D]? = some (.deferred (some []))) ∧ Ds.Nodup ∧ a.tmps.size = n ∧ StepN N g s w g' s' Wf :=
            ⟨[w.heap.size], g1, _, h8 hSp, ⟨h6.tm, by show _ :: a.defers = _; rw [hr.defers]; rfl, h6.o⟩, fun D hD => by simp at hD; subst hD; exact ⟨Nat.le_refl _, hkf⟩, by simp, hn, StepN.less hN h7⟩
          cases c <;> simp only [exOf, reduceCtorEq, Option.some.injEq] at h5
          · subst h5; exact wpIn_exit key
          · subst h5; exact wpIn_ret key
        exact hfin _ hi3 hk3
end
end Dm
