import Derived.Test.YtjgndkmodnppfaaGreatP3

set_option linter.unusedSimpArgs false
set_option linter.unusedVariables false
set_option linter.unusedSectionVars false
namespace Dm
set_option maxRecDepth 20000
def lvL (l : List (Nat × List Nat)) (i : Nat) : Option (List Nat) := lk i l
@[go_sem] theorem lvL_eq (l : List (Nat × List Nat)) (i : Nat) : lvL l i = lk i l := rfl
abbrev lv4 : Nat → Option (List Nat) := lvL [(0, [1, 2]), (1, [1, 2, 22]), (2, [4]), (3, [1, 2, 30]), (4, [4]), (5, [1, 2, 5, 6]), (6, [1, 2, 5, 6, 7, 8, 9, 10]), (7, [1, 2, 5, 6, 7, 8, 9, 45]), (8, [4]), (9, [1, 2, 5, 6, 7, 8, 9, 11, 12, 13]), (10, [1, 2, 5, 6, 7, 8, 9, 11, 12, 13, 14, 15, 16]), (11, [1, 2, 7, 8, 9, 118]), (12, [4]), (13, [1, 2, 7, 9, 119, 120, 121]), (14, [1, 2, 7, 9, 119, 120, 121, 122]), (15, [1, 2, 7, 9, 17, 18, 119, 120, 121]), (16, [1, 2, 7, 9, 17, 18, 19, 20, 119, 120, 121]), (17, [1, 2, 7, 9, 119, 120, 121, 168]), (18, [4]), (19, [1, 2, 7, 9, 119, 120, 121]), (20, [4])]
@[go_sem] def us4_17 : List Nat := [0, 1, 3, 7, 7, 23, 7, 71, 247, 511, 1023, 2047, 4095, 8191, 4095, 4095, 53247, 118783, 249855, 524287, 1048575, 2097151, 4194303, 8388607, 4194303, 4194303, 54525951, 121634815, 255852543, 536870911, 1073741823, 2147483647, 4294967295, 8589934591, 17179869183, 34359738367]
theorem ac4 {T : Tab} (hT : TabOk Go.Proofs.Tryz.prog T) {ds : List D} {os : List (Nat × Ob)} {nx : Nat} {Q : D → List (Nat × Ob) → Nat → Prop} (hl : ds.length ≤ 183) (h : awp Go.Proofs.Tryz.prog T 183 nx lv4 (Go.Proofs.Tryz.f4.body.getD .skip) (fin Go.Proofs.Tryz.prog [.tmp 4] Q) ⟨prm 0 ds, os, nx⟩) : ACall Go.Proofs.Tryz.prog 4 ds os nx Q :=
  acall_intro hT.toS (fn := Go.Proofs.Tryz.f4) lv4 (by kernel_rfl) rfl rfl (by kernel_rfl) rfl hl rfl h
abbrev lv8 : Nat → Option (List Nat) := lvL [(0, []), (1, [1, 2]), (2, [2, 5, 6]), (3, [0])]
theorem ac8 {T : Tab} (hT : TabOk Go.Proofs.Tryz.prog T) {ds : List D} {os : List (Nat × Ob)} {nx : Nat} {Q : D → List (Nat × Ob) → Nat → Prop} (hl : ds.length ≤ 33) (h : awp Go.Proofs.Tryz.prog T 33 nx lv8 (Go.Proofs.Tryz.f8.body.getD .skip) (fin Go.Proofs.Tryz.prog [.tmp 0] Q) ⟨prm 0 ds, os, nx⟩) : ACall Go.Proofs.Tryz.prog 8 ds os nx Q :=
  acall_intro hT.toS (fn := Go.Proofs.Tryz.f8) lv8 (by kernel_rfl) rfl rfl (by kernel_rfl) rfl hl rfl h
abbrev lv9 : Nat → Option (List Nat) := lvL [(0, [1]), (1, [2])]
theorem ac9 {T : Tab} (hT : TabOk Go.Proofs.Tryz.prog T) {ds : List D} {os : List (Nat × Ob)} {nx : Nat} {Q : D → List (Nat × Ob) → Nat → Prop} (hl : ds.length ≤ 43) (h : awp Go.Proofs.Tryz.prog T 43 nx lv9 (Go.Proofs.Tryz.f9.body.getD .skip) (fin Go.Proofs.Tryz.prog [.tmp 2] Q) ⟨prm 0 ds, os, nx⟩) : ACall Go.Proofs.Tryz.prog 9 ds os nx Q :=
  acall_intro hT.toS (fn := Go.Proofs.Tryz.f9) lv9 (by kernel_rfl) rfl rfl (by kernel_rfl) rfl hl rfl h
abbrev lv10 : Nat → Option (List Nat) := lvL [(0, [1, 2, 4]), (1, [1, 2, 4, 9]), (2, [1, 2, 4, 9, 22]), (3, [4, 5, 6, 7]), (4, [1, 2, 4, 10]), (5, [2, 4, 10, 28, 29, 30]), (6, [2, 4, 10, 28, 29, 30, 31]), (7, [2, 4, 10, 11, 12, 28, 29, 30]), (8, [2, 4, 10, 11, 13, 14, 15, 28, 29, 30]), (9, [2, 4, 10, 11, 13, 14, 15, 28, 29, 30, 46]), (10, [4, 5, 6, 7]), (11, [2, 4, 10, 28, 29, 30]), (12, [2, 4, 10, 28, 29, 30]), (13, [4, 5, 6, 7])]
theorem ac10 {T : Tab} (hT : TabOk Go.Proofs.Tryz.prog T) {ds : List D} {os : List (Nat × Ob)} {nx : Nat} {Q : D → List (Nat × Ob) → Nat → Prop} (hl : ds.length ≤ 58) (h : awp Go.Proofs.Tryz.prog T 58 nx lv10 (Go.Proofs.Tryz.f10.body.getD .skip) (fin Go.Proofs.Tryz.prog [.cell 4 31, .tmp 5, .tmp 6, .tmp 7] Q) ⟨prm 0 ds, os, nx⟩) : ACall Go.Proofs.Tryz.prog 10 ds os nx Q :=
  acall_intro hT.toS (fn := Go.Proofs.Tryz.f10) lv10 (by kernel_rfl) rfl rfl (by kernel_rfl) rfl hl rfl h
abbrev lv11 : Nat → Option (List Nat) := lvL [(0, [0, 2]), (1, [0, 2, 4]), (2, [0, 2, 19]), (3, [2, 3]), (4, [2, 20, 21, 22]), (5, [2, 20, 21, 22, 23]), (6, [2, 6, 20, 21, 22]), (7, [2, 3, 20, 21, 22]), (8, [2, 3, 20, 21, 22, 35]), (9, [2, 3]), (10, [2, 20, 21, 22]), (11, [2, 3])]
theorem ac11 {T : Tab} (hT : TabOk Go.Proofs.Tryz.prog T) {ds : List D} {os : List (Nat × Ob)} {nx : Nat} {Q : D → List (Nat × Ob) → Nat → Prop} (hl : ds.length ≤ 39) (h : awp Go.Proofs.Tryz.prog T 39 nx lv11 (Go.Proofs.Tryz.f11.body.getD .skip) (fin Go.Proofs.Tryz.prog [.tmp 2, .tmp 3] Q) ⟨prm 0 ds, os, nx⟩) : ACall Go.Proofs.Tryz.prog 11 ds os nx Q :=
  acall_intro hT.toS (fn := Go.Proofs.Tryz.f11) lv11 (by kernel_rfl) rfl rfl (by kernel_rfl) rfl hl rfl h
abbrev lv12 : Nat → Option (List Nat) := lvL [(0, [3, 4, 5, 6]), (1, [3, 4, 5, 6, 9]), (2, [3, 4, 5, 6, 9]), (3, [3, 4, 5, 6, 9, 10, 11]), (4, [3, 4, 5, 6, 9, 10]), (5, [3, 4, 5, 6, 9, 10]), (6, [3, 5, 6, 9, 10]), (7, [3, 5, 6, 9]), (8, [3, 6, 9]), (9, [3, 6, 9]), (10, [3, 6, 11, 12]), (11, [3, 6, 11, 12, 77]), (12, [6, 7, 8]), (13, [6, 7, 8])]
@[go_sem] def us12_13 : List Nat := [0, 0, 2, 1, 15, 31]
theorem ac12 {T : Tab} (hT : TabOk Go.Proofs.Tryz.prog T) {ds : List D} {os : List (Nat × Ob)} {nx : Nat} {Q : D → List (Nat × Ob) → Nat → Prop} (hl : ds.length ≤ 83) (h : awp Go.Proofs.Tryz.prog T 83 nx lv12 (Go.Proofs.Tryz.f12.body.getD .skip) (fin Go.Proofs.Tryz.prog [.cell 6 31, .tmp 7, .tmp 8] Q) ⟨prm 0 ds, os, nx⟩) : ACall Go.Proofs.Tryz.prog 12 ds os nx Q :=
  acall_intro hT.toS (fn := Go.Proofs.Tryz.f12) lv12 (by kernel_rfl) rfl rfl (by kernel_rfl) rfl hl rfl h
abbrev lv13 : Nat → Option (List Nat) := lvL [(0, [0, 2, 3]), (1, [0, 2, 3, 4]), (2, [0, 2, 3, 4, 12]), (3, [2, 3, 4]), (4, [2, 3, 14, 15, 16]), (5, [2, 3, 14, 15, 16, 17]), (6, [2, 3, 6, 14, 15, 16]), (7, [2, 3, 6, 7, 8, 14, 15, 16]), (8, [2, 3, 6, 7, 8, 14, 15, 16, 26]), (9, [2, 3, 4]), (10, [2, 3, 6, 14, 15, 16]), (11, [2, 3, 6, 14, 15, 16, 32]), (12, [2, 3, 14, 15, 16]), (13, [2, 3, 14, 15, 16]), (14, [2, 3, 4])]
theorem ac13 {T : Tab} (hT : TabOk Go.Proofs.Tryz.prog T) {ds : List D} {os : List (Nat × Ob)} {nx : Nat} {Q : D → List (Nat × Ob) → Nat → Prop} (hl : ds.length ≤ 40) (h : awp Go.Proofs.Tryz.prog T 40 nx lv13 (Go.Proofs.Tryz.f13.body.getD .skip) (fin Go.Proofs.Tryz.prog [.tmp 2, .tmp 3, .tmp 4] Q) ⟨prm 0 ds, os, nx⟩) : ACall Go.Proofs.Tryz.prog 13 ds os nx Q :=
  acall_intro hT.toS (fn := Go.Proofs.Tryz.f13) lv13 (by kernel_rfl) rfl rfl (by kernel_rfl) rfl hl rfl h
abbrev lv14 : Nat → Option (List Nat) := lvL [(0, [1]), (1, [1, 37]), (2, [2]), (3, [1, 3]), (4, [1, 54]), (5, [2]), (6, [4, 5]), (7, [68]), (8, [2]), (9, [2])]
@[go_sem] def us14_4 : List Nat := [0, 1, 3, 7, 15, 7, 39, 127, 255, 511, 7, 1031, 4095, 8191]
theorem ac14 {T : Tab} (hT : TabOk Go.Proofs.Tryz.prog T) {ds : List D} {os : List (Nat × Ob)} {nx : Nat} {Q : D → List (Nat × Ob) → Nat → Prop} (hl : ds.length ≤ 69) (h : awp Go.Proofs.Tryz.prog T 69 nx lv14 (Go.Proofs.Tryz.f14.body.getD .skip) (fin Go.Proofs.Tryz.prog [.tmp 2] Q) ⟨prm 0 ds, os, nx⟩) : ACall Go.Proofs.Tryz.prog 14 ds os nx Q :=
  acall_intro hT.toS (fn := Go.Proofs.Tryz.f14) lv14 (by kernel_rfl) rfl rfl (by kernel_rfl) rfl hl rfl h
abbrev lv15 : Nat → Option (List Nat) := lvL [(0, [0, 1, 4]), (1, [0, 4, 6, 7]), (2, [0, 4, 6, 7, 15]), (3, [4, 5]), (4, [4, 5])]
theorem ac15 {T : Tab} (hT : TabOk Go.Proofs.Tryz.prog T) {ds : List D} {os : List (Nat × Ob)} {nx : Nat} {Q : D → List (Nat × Ob) → Nat → Prop} (hl : ds.length ≤ 22) (h : awp Go.Proofs.Tryz.prog T 22 nx lv15 (Go.Proofs.Tryz.f15.body.getD .skip) (fin Go.Proofs.Tryz.prog [.cell 4 50, .tmp 5] Q) ⟨prm 0 ds, os, nx⟩) : ACall Go.Proofs.Tryz.prog 15 ds os nx Q :=
  acall_intro hT.toS (fn := Go.Proofs.Tryz.f15) lv15 (by kernel_rfl) rfl rfl (by kernel_rfl) rfl hl rfl h
abbrev lv25 : Nat → Option (List Nat) := lvL [(0, [2, 3, 4]), (1, [3, 4, 6]), (2, [3, 4, 6]), (3, [4, 6]), (4, [4, 5])]
theorem ac25 {T : Tab} (hT : TabOk Go.Proofs.Tryz.prog T) {ds : List D} {os : List (Nat × Ob)} {nx : Nat} {Q : D → List (Nat × Ob) → Nat → Prop} (hl : ds.length ≤ 26) (h : awp Go.Proofs.Tryz.prog T 26 nx lv25 (Go.Proofs.Tryz.f25.body.getD .skip) (fin Go.Proofs.Tryz.prog [.cell 4 31, .tmp 5] Q) ⟨prm 0 ds, os, nx⟩) : ACall Go.Proofs.Tryz.prog 25 ds os nx Q :=
  acall_intro hT.toS (fn := Go.Proofs.Tryz.f25) lv25 (by kernel_rfl) rfl rfl (by kernel_rfl) rfl hl rfl h
abbrev lv26 : Nat → Option (List Nat) := lvL [(0, [0]), (1, [0])]
theorem ac26 {T : Tab} (hT : TabOk Go.Proofs.Tryz.prog T) {ds : List D} {os : List (Nat × Ob)} {nx : Nat} {Q : D → List (Nat × Ob) → Nat → Prop} (hl : ds.length ≤ 3) (h : awp Go.Proofs.Tryz.prog T 3 nx lv26 (Go.Proofs.Tryz.f26.body.getD .skip) (fin Go.Proofs.Tryz.prog [.cell 0 31] Q) ⟨prm 0 ds, os, nx⟩) : ACall Go.Proofs.Tryz.prog 26 ds os nx Q :=
  acall_intro hT.toS (fn := Go.Proofs.Tryz.f26) lv26 (by kernel_rfl) rfl rfl (by kernel_rfl) rfl hl rfl h
abbrev lv27 : Nat → Option (List Nat) := lvL [(0, [0]), (1, [0, 5, 6, 7]), (2, [0, 5, 6, 7, 8]), (3, [0, 4, 5, 6, 7]), (4, [0, 5, 6, 7, 14]), (5, [2]), (6, [0, 5, 6, 7]), (7, [2])]
theorem ac27 {T : Tab} (hT : TabOk Go.Proofs.Tryz.prog T) {ds : List D} {os : List (Nat × Ob)} {nx : Nat} {Q : D → List (Nat × Ob) → Nat → Prop} (hl : ds.length ≤ 19) (h : awp Go.Proofs.Tryz.prog T 19 nx lv27 (Go.Proofs.Tryz.f27.body.getD .skip) (fin Go.Proofs.Tryz.prog [.tmp 2] Q) ⟨prm 0 ds, os, nx⟩) : ACall Go.Proofs.Tryz.prog 27 ds os nx Q :=
  acall_intro hT.toS (fn := Go.Proofs.Tryz.f27) lv27 (by kernel_rfl) rfl rfl (by kernel_rfl) rfl hl rfl h
abbrev lv28 : Nat → Option (List Nat) := lvL [(0, [1]), (1, [2])]
theorem ac28 {T : Tab} (hT : TabOk Go.Proofs.Tryz.prog T) {ds : List D} {os : List (Nat × Ob)} {nx : Nat} {Q : D → List (Nat × Ob) → Nat → Prop} (hl : ds.length ≤ 13) (h : awp Go.Proofs.Tryz.prog T 13 nx lv28 (Go.Proofs.Tryz.f28.body.getD .skip) (fin Go.Proofs.Tryz.prog [.tmp 2] Q) ⟨prm 0 ds, os, nx⟩) : ACall Go.Proofs.Tryz.prog 28 ds os nx Q :=
  acall_intro hT.toS (fn := Go.Proofs.Tryz.f28) lv28 (by kernel_rfl) rfl rfl (by kernel_rfl) rfl hl rfl h
abbrev lv29 : Nat → Option (List Nat) := lvL [(0, [0]), (1, [10]), (2, [2]), (3, [2])]
theorem ac29 {T : Tab} (hT : TabOk Go.Proofs.Tryz.prog T) {ds : List D} {os : List (Nat × Ob)} {nx : Nat} {Q : D → List (Nat × Ob) → Nat → Prop} (hl : ds.length ≤ 11) (h : awp Go.Proofs.Tryz.prog T 11 nx lv29 (Go.Proofs.Tryz.f29.body.getD .skip) (fin Go.Proofs.Tryz.prog [.tmp 2] Q) ⟨prm 0 ds, os, nx⟩) : ACall Go.Proofs.Tryz.prog 29 ds os nx Q :=
  acall_intro hT.toS (fn := Go.Proofs.Tryz.f29) lv29 (by kernel_rfl) rfl rfl (by kernel_rfl) rfl hl rfl h
abbrev lv30 : Nat → Option (List Nat) := lvL [(0, [0, 1]), (1, [4])]
theorem ac30 {T : Tab} (hT : TabOk Go.Proofs.Tryz.prog T) {ds : List D} {os : List (Nat × Ob)} {nx : Nat} {Q : D → List (Nat × Ob) → Nat → Prop} (hl : ds.length ≤ 9) (h : awp Go.Proofs.Tryz.prog T 9 nx lv30 (Go.Proofs.Tryz.f30.body.getD .skip) (fin Go.Proofs.Tryz.prog [.tmp 4] Q) ⟨prm 0 ds, os, nx⟩) : ACall Go.Proofs.Tryz.prog 30 ds os nx Q :=
  acall_intro hT.toS (fn := Go.Proofs.Tryz.f30) lv30 (by kernel_rfl) rfl rfl (by kernel_rfl) rfl hl rfl h
abbrev lv31 : Nat → Option (List Nat) := lvL [(0, [0, 2]), (1, [0, 2, 3]), (2, [0, 2, 3, 9]), (3, [2, 3]), (4, [2, 11, 12, 13]), (5, [2, 11, 12, 13, 14]), (6, [2, 5, 11, 12, 13]), (7, [2, 11, 12, 13]), (8, [2, 11, 12, 13, 21]), (9, [2, 3]), (10, [2, 11, 12, 13]), (11, [2, 3])]
theorem ac31 {T : Tab} (hT : TabOk Go.Proofs.Tryz.prog T) {ds : List D} {os : List (Nat × Ob)} {nx : Nat} {Q : D → List (Nat × Ob) → Nat → Prop} (hl : ds.length ≤ 24) (h : awp Go.Proofs.Tryz.prog T 24 nx lv31 (Go.Proofs.Tryz.f31.body.getD .skip) (fin Go.Proofs.Tryz.prog [.tmp 2, .tmp 3] Q) ⟨prm 0 ds, os, nx⟩) : ACall Go.Proofs.Tryz.prog 31 ds os nx Q :=
  acall_intro hT.toS (fn := Go.Proofs.Tryz.f31) lv31 (by kernel_rfl) rfl rfl (by kernel_rfl) rfl hl rfl h
abbrev lv32 : Nat → Option (List Nat) := lvL [(0, [1]), (1, [2])]
@[go_sem] def us32_1 : List Nat := [0, 0, 2, 7, 15, 31]
theorem ac32 {T : Tab} (hT : TabOk Go.Proofs.Tryz.prog T) {ds : List D} {os : List (Nat × Ob)} {nx : Nat} {Q : D → List (Nat × Ob) → Nat → Prop} (hl : ds.length ≤ 8) (h : awp Go.Proofs.Tryz.prog T 8 nx lv32 (Go.Proofs.Tryz.f32.body.getD .skip) (fin Go.Proofs.Tryz.prog [.tmp 2] Q) ⟨prm 0 ds, os, nx⟩) : ACall Go.Proofs.Tryz.prog 32 ds os nx Q :=
  acall_intro hT.toS (fn := Go.Proofs.Tryz.f32) lv32 (by kernel_rfl) rfl rfl (by kernel_rfl) rfl hl rfl h
abbrev lv33 : Nat → Option (List Nat) := lvL [(0, [0, 2, 14]), (1, [])]
theorem ac33 {T : Tab} (hT : TabOk Go.Proofs.Tryz.prog T) {ds : List D} {os : List (Nat × Ob)} {nx : Nat} {Q : D → List (Nat × Ob) → Nat → Prop} (hl : ds.length ≤ 19) (h : awp Go.Proofs.Tryz.prog T 19 nx lv33 (Go.Proofs.Tryz.f33.body.getD .skip) (fin Go.Proofs.Tryz.prog [] Q) ⟨prm 0 ds, os, nx⟩) : ACall Go.Proofs.Tryz.prog 33 ds os nx Q :=
  acall_intro hT.toS (fn := Go.Proofs.Tryz.f33) lv33 (by kernel_rfl) rfl rfl (by kernel_rfl) rfl hl rfl h
abbrev lv34 : Nat → Option (List Nat) := lvL [(0, [0, 1, 2]), (1, [8, 9]), (2, [8, 9, 17]), (3, [6, 7]), (4, [8, 21]), (5, [6, 7]), (6, [6, 7])]
theorem ac34 {T : Tab} (hT : TabOk Go.Proofs.Tryz.prog T) {ds : List D} {os : List (Nat × Ob)} {nx : Nat} {Q : D → List (Nat × Ob) → Nat → Prop} (hl : ds.length ≤ 28) (h : awp Go.Proofs.Tryz.prog T 28 nx lv34 (Go.Proofs.Tryz.f34.body.getD .skip) (fin Go.Proofs.Tryz.prog [.tmp 6, .tmp 7] Q) ⟨prm 0 ds, os, nx⟩) : ACall Go.Proofs.Tryz.prog 34 ds os nx Q :=
  acall_intro hT.toS (fn := Go.Proofs.Tryz.f34) lv34 (by kernel_rfl) rfl rfl (by kernel_rfl) rfl hl rfl h
abbrev lv35 : Nat → Option (List Nat) := lvL [(0, [0, 1, 2, 12]), (1, [0, 1, 6, 7]), (2, [0, 1, 6, 7, 22]), (3, []), (4, [])]
theorem ac35 {T : Tab} (hT : TabOk Go.Proofs.Tryz.prog T) {ds : List D} {os : List (Nat × Ob)} {nx : Nat} {Q : D → List (Nat × Ob) → Nat → Prop} (hl : ds.length ≤ 30) (h : awp Go.Proofs.Tryz.prog T 30 nx lv35 (Go.Proofs.Tryz.f35.body.getD .skip) (fin Go.Proofs.Tryz.prog [] Q) ⟨prm 0 ds, os, nx⟩) : ACall Go.Proofs.Tryz.prog 35 ds os nx Q :=
  acall_intro hT.toS (fn := Go.Proofs.Tryz.f35) lv35 (by kernel_rfl) rfl rfl (by kernel_rfl) rfl hl rfl h
abbrev lv36 : Nat → Option (List Nat) := lvL [(0, [0, 1, 2, 3, 4]), (1, [6, 7])]
theorem ac36 {T : Tab} (hT : TabOk Go.Proofs.Tryz.prog T) {ds : List D} {os : List (Nat × Ob)} {nx : Nat} {Q : D → List (Nat × Ob) → Nat → Prop} (hl : ds.length ≤ 18) (h : awp Go.Proofs.Tryz.prog T 18 nx lv36 (Go.Proofs.Tryz.f36.body.getD .skip) (fin Go.Proofs.Tryz.prog [.tmp 6, .tmp 7] Q) ⟨prm 0 ds, os, nx⟩) : ACall Go.Proofs.Tryz.prog 36 ds os nx Q :=
  acall_intro hT.toS (fn := Go.Proofs.Tryz.f36) lv36 (by kernel_rfl) rfl rfl (by kernel_rfl) rfl hl rfl h
abbrev lv37 : Nat → Option (List Nat) := lvL [(0, [0, 3]), (1, [0, 3, 6, 7]), (2, [0, 3, 6, 7, 16]), (3, [4, 5]), (4, [0, 3, 6, 29]), (5, [4, 5]), (6, [0, 3, 6]), (7, [0, 3, 6, 36]), (8, [0, 3, 6, 8]), (9, [0, 3, 6, 8, 40]), (10, [4, 5]), (11, [0, 3, 6, 8]), (12, [0, 3, 6, 48]), (13, [0, 3, 6]), (14, [4, 5])]
theorem ac37 {T : Tab} (hT : TabOk Go.Proofs.Tryz.prog T) {ds : List D} {os : List (Nat × Ob)} {nx : Nat} {Q : D → List (Nat × Ob) → Nat → Prop} (hl : ds.length ≤ 56) (h : awp Go.Proofs.Tryz.prog T 56 nx lv37 (Go.Proofs.Tryz.f37.body.getD .skip) (fin Go.Proofs.Tryz.prog [.tmp 4, .tmp 5] Q) ⟨prm 0 ds, os, nx⟩) : ACall Go.Proofs.Tryz.prog 37 ds os nx Q :=
  acall_intro hT.toS (fn := Go.Proofs.Tryz.f37) lv37 (by kernel_rfl) rfl rfl (by kernel_rfl) rfl hl rfl h
abbrev lv38 : Nat → Option (List Nat) := lvL [(0, [0, 1, 2, 12]), (1, [0, 1, 6, 7]), (2, [0, 1, 6, 7, 22]), (3, []), (4, [])]
theorem ac38 {T : Tab} (hT : TabOk Go.Proofs.Tryz.prog T) {ds : List D} {os : List (Nat × Ob)} {nx : Nat} {Q : D → List (Nat × Ob) → Nat → Prop} (hl : ds.length ≤ 30) (h : awp Go.Proofs.Tryz.prog T 30 nx lv38 (Go.Proofs.Tryz.f38.body.getD .skip) (fin Go.Proofs.Tryz.prog [] Q) ⟨prm 0 ds, os, nx⟩) : ACall Go.Proofs.Tryz.prog 38 ds os nx Q :=
  acall_intro hT.toS (fn := Go.Proofs.Tryz.f38) lv38 (by kernel_rfl) rfl rfl (by kernel_rfl) rfl hl rfl h
abbrev lv39 : Nat → Option (List Nat) := lvL [(0, [0, 1, 2, 3]), (1, [5, 6])]
theorem ac39 {T : Tab} (hT : TabOk Go.Proofs.Tryz.prog T) {ds : List D} {os : List (Nat × Ob)} {nx : Nat} {Q : D → List (Nat × Ob) → Nat → Prop} (hl : ds.length ≤ 15) (h : awp Go.Proofs.Tryz.prog T 15 nx lv39 (Go.Proofs.Tryz.f39.body.getD .skip) (fin Go.Proofs.Tryz.prog [.tmp 5, .tmp 6] Q) ⟨prm 0 ds, os, nx⟩) : ACall Go.Proofs.Tryz.prog 39 ds os nx Q :=
  acall_intro hT.toS (fn := Go.Proofs.Tryz.f39) lv39 (by kernel_rfl) rfl rfl (by kernel_rfl) rfl hl rfl h
abbrev lv40 : Nat → Option (List Nat) := lvL [(0, [1, 4, 6, 7]), (1, [8, 9])]
theorem ac40 {T : Tab} (hT : TabOk Go.Proofs.Tryz.prog T) {ds : List D} {os : List (Nat × Ob)} {nx : Nat} {Q : D → List (Nat × Ob) → Nat → Prop} (hl : ds.length ≤ 16) (h : awp Go.Proofs.Tryz.prog T 16 nx lv40 (Go.Proofs.Tryz.f40.body.getD .skip) (fin Go.Proofs.Tryz.prog [.tmp 8, .tmp 9] Q) ⟨prm 0 ds, os, nx⟩) : ACall Go.Proofs.Tryz.prog 40 ds os nx Q :=
  acall_intro hT.toS (fn := Go.Proofs.Tryz.f40) lv40 (by kernel_rfl) rfl rfl (by kernel_rfl) rfl hl rfl h
abbrev lv41 : Nat → Option (List Nat) := lvL [(0, [0, 5, 6, 7]), (1, [])]
theorem ac41 {T : Tab} (hT : TabOk Go.Proofs.Tryz.prog T) {ds : List D} {os : List (Nat × Ob)} {nx : Nat} {Q : D → List (Nat × Ob) → Nat → Prop} (hl : ds.length ≤ 15) (h : awp Go.Proofs.Tryz.prog T 15 nx lv41 (Go.Proofs.Tryz.f41.body.getD .skip) (fin Go.Proofs.Tryz.prog [] Q) ⟨prm 0 ds, os, nx⟩) : ACall Go.Proofs.Tryz.prog 41 ds os nx Q :=
  acall_intro hT.toS (fn := Go.Proofs.Tryz.f41) lv41 (by kernel_rfl) rfl rfl (by kernel_rfl) rfl hl rfl h
abbrev lv42 : Nat → Option (List Nat) := lvL [(0, [0, 2]), (1, [0, 2, 8]), (2, [2, 3]), (3, [2, 3])]
@[go_sem] def us42_2 : List Nat := [0, 0, 2, 6, 14, 1, 63]
theorem ac42 {T : Tab} (hT : TabOk Go.Proofs.Tryz.prog T) {ds : List D} {os : List (Nat × Ob)} {nx : Nat} {Q : D → List (Nat × Ob) → Nat → Prop} (hl : ds.length ≤ 19) (h : awp Go.Proofs.Tryz.prog T 19 nx lv42 (Go.Proofs.Tryz.f42.body.getD .skip) (fin Go.Proofs.Tryz.prog [.cell 2 31, .tmp 3] Q) ⟨prm 0 ds, os, nx⟩) : ACall Go.Proofs.Tryz.prog 42 ds os nx Q :=
  acall_intro hT.toS (fn := Go.Proofs.Tryz.f42) lv42 (by kernel_rfl) rfl rfl (by kernel_rfl) rfl hl rfl h
abbrev lv43 : Nat → Option (List Nat) := lvL [(0, [0]), (1, [4]), (2, [2])]
theorem ac43 {T : Tab} (hT : TabOk Go.Proofs.Tryz.prog T) {ds : List D} {os : List (Nat × Ob)} {nx : Nat} {Q : D → List (Nat × Ob) → Nat → Prop} (hl : ds.length ≤ 11) (h : awp Go.Proofs.Tryz.prog T 11 nx lv43 (Go.Proofs.Tryz.f43.body.getD .skip) (fin Go.Proofs.Tryz.prog [.tmp 2] Q) ⟨prm 0 ds, os, nx⟩) : ACall Go.Proofs.Tryz.prog 43 ds os nx Q :=
  acall_intro hT.toS (fn := Go.Proofs.Tryz.f43) lv43 (by kernel_rfl) rfl rfl (by kernel_rfl) rfl hl rfl h
abbrev lv44 : Nat → Option (List Nat) := lvL [(0, [1]), (1, [4, 6]), (2, [2, 3])]
theorem ac44 {T : Tab} (hT : TabOk Go.Proofs.Tryz.prog T) {ds : List D} {os : List (Nat × Ob)} {nx : Nat} {Q : D → List (Nat × Ob) → Nat → Prop} (hl : ds.length ≤ 15) (h : awp Go.Proofs.Tryz.prog T 15 nx lv44 (Go.Proofs.Tryz.f44.body.getD .skip) (fin Go.Proofs.Tryz.prog [.tmp 2, .tmp 3] Q) ⟨prm 0 ds, os, nx⟩) : ACall Go.Proofs.Tryz.prog 44 ds os nx Q :=
  acall_intro hT.toS (fn := Go.Proofs.Tryz.f44) lv44 (by kernel_rfl) rfl rfl (by kernel_rfl) rfl hl rfl h
abbrev lv45 : Nat → Option (List Nat) := lvL [(0, [0]), (1, [0, 7]), (2, [2]), (3, [0, 8, 9, 10]), (4, [0, 8, 9, 10, 11]), (5, [0, 3, 4, 8, 9, 10]), (6, [0, 8, 9, 10, 43]), (7, [2]), (8, [0, 8, 9, 10]), (9, [2])]
@[go_sem] def us45_6 : List Nat := [0, 1, 3, 7, 7, 23, 63, 127, 7, 263, 1023, 2047, 4095, 8191, 16383, 32767, 65535, 131071, 262143, 524287, 1048575, 2097151, 4194303, 8388607, 16777215, 33554431, 67108863, 134217727, 268435455]
theorem ac45 {T : Tab} (hT : TabOk Go.Proofs.Tryz.prog T) {ds : List D} {os : List (Nat × Ob)} {nx : Nat} {Q : D → List (Nat × Ob) → Nat → Prop} (hl : ds.length ≤ 45) (h : awp Go.Proofs.Tryz.prog T 45 nx lv45 (Go.Proofs.Tryz.f45.body.getD .skip) (fin Go.Proofs.Tryz.prog [.tmp 2] Q) ⟨prm 0 ds, os, nx⟩) : ACall Go.Proofs.Tryz.prog 45 ds os nx Q :=
  acall_intro hT.toS (fn := Go.Proofs.Tryz.f45) lv45 (by kernel_rfl) rfl rfl (by kernel_rfl) rfl hl rfl h
abbrev lv46 : Nat → Option (List Nat) := lvL [(0, [1, 2, 31]), (1, [1, 2, 24, 31]), (2, [2]), (3, [1, 2, 3, 31]), (4, [2, 3, 29, 31]), (5, [2, 3, 5, 31]), (6, [2, 3, 5, 31]), (7, [2, 3, 31, 43]), (8, [2]), (9, [2])]
theorem ac46 {T : Tab} (hT : TabOk Go.Proofs.Tryz.prog T) {ds : List D} {os : List (Nat × Ob)} {nx : Nat} {Q : D → List (Nat × Ob) → Nat → Prop} (hl : ds.length ≤ 44) (h : awp Go.Proofs.Tryz.prog T 44 nx lv46 (Go.Proofs.Tryz.f46.body.getD .skip) (fin Go.Proofs.Tryz.prog [.cell 2 36] Q) ⟨prm 0 ds, os, nx⟩) : ACall Go.Proofs.Tryz.prog 46 ds os nx Q :=
  acall_intro hT.toS (fn := Go.Proofs.Tryz.f46) lv46 (by kernel_rfl) rfl rfl (by kernel_rfl) rfl hl rfl h
abbrev lv47 : Nat → Option (List Nat) := lvL [(0, [0, 1]), (1, [0, 1, 22]), (2, [4, 5]), (3, [0, 1, 6, 7, 8]), (4, [0, 6, 7, 8, 25, 26, 27]), (5, [0, 6, 7, 8, 25, 26, 27, 28]), (6, [0, 6, 7, 8, 10, 25, 26, 27]), (7, [0, 6, 7, 8, 10, 25, 26, 27]), (8, [0, 6, 7, 8, 10, 25, 26, 27, 40]), (9, [4, 5]), (10, [0, 6, 7, 8, 10, 25, 26, 27, 42, 43, 44]), (11, [0, 6, 7, 8, 10, 25, 26, 27, 42, 43, 44, 45]), (12, [0, 6, 7, 8, 10, 12, 25, 26, 27, 42, 43, 44]), (13, [0, 6, 7, 8, 10, 25, 26, 27, 42, 43, 44]), (14, [0, 6, 7, 8, 10, 25, 26, 27, 42, 43, 44]), (15, [0, 6, 7, 8, 10, 25, 26, 27, 42, 43, 44]), (16, [0, 6, 7, 8, 25, 26, 27]), (17, [6, 8, 61, 62, 63]), (18, [6, 8, 61, 62, 63, 64]), (19, [6, 8, 14, 61, 62, 63]), (20, [6, 8, 14, 61, 62, 63, 69]), (21, [6, 8, 61, 62, 63, 80]), (22, [4, 5]), (23, [6, 8, 61, 62, 63]), (24, [6, 8, 61, 62, 63]), (25, [4, 5])]
@[go_sem] def us47_13 : List Nat := [0, 0, 2, 0, 14, 31, 63, 31, 159, 511]
theorem ac47 {T : Tab} (hT : TabOk Go.Proofs.Tryz.prog T) {ds : List D} {os : List (Nat × Ob)} {nx : Nat} {Q : D → List (Nat × Ob) → Nat → Prop} (hl : ds.length ≤ 86) (h : awp Go.Proofs.Tryz.prog T 86 nx lv47 (Go.Proofs.Tryz.f47.body.getD .skip) (fin Go.Proofs.Tryz.prog [.tmp 4, .tmp 5] Q) ⟨prm 0 ds, os, nx⟩) : ACall Go.Proofs.Tryz.prog 47 ds os nx Q :=
  acall_intro hT.toS (fn := Go.Proofs.Tryz.f47) lv47 (by kernel_rfl) rfl rfl (by kernel_rfl) rfl hl rfl h
abbrev lv48 : Nat → Option (List Nat) := lvL [(0, [0, 1]), (1, [0, 1, 6]), (2, [0, 1, 6, 12]), (3, [4, 5]), (4, [7, 8]), (5, [7, 21]), (6, [4, 5]), (7, [4, 5])]
theorem ac48 {T : Tab} (hT : TabOk Go.Proofs.Tryz.prog T) {ds : List D} {os : List (Nat × Ob)} {nx : Nat} {Q : D → List (Nat × Ob) → Nat → Prop} (hl : ds.length ≤ 24) (h : awp Go.Proofs.Tryz.prog T 24 nx lv48 (Go.Proofs.Tryz.f48.body.getD .skip) (fin Go.Proofs.Tryz.prog [.tmp 4, .tmp 5] Q) ⟨prm 0 ds, os, nx⟩) : ACall Go.Proofs.Tryz.prog 48 ds os nx Q :=
  acall_intro hT.toS (fn := Go.Proofs.Tryz.f48) lv48 (by kernel_rfl) rfl rfl (by kernel_rfl) rfl hl rfl h
abbrev lv67 : Nat → Option (List Nat) := lvL [(0, [0, 1]), (1, [3, 4])]
theorem ac67 {T : Tab} (hT : TabOk Go.Proofs.Tryz.prog T) {ds : List D} {os : List (Nat × Ob)} {nx : Nat} {Q : D → List (Nat × Ob) → Nat → Prop} (hl : ds.length ≤ 10) (h : awp Go.Proofs.Tryz.prog T 10 nx lv67 (Go.Proofs.Tryz.f67.body.getD .skip) (fin Go.Proofs.Tryz.prog [.tmp 3, .tmp 4] Q) ⟨prm 0 ds, os, nx⟩) : ACall Go.Proofs.Tryz.prog 67 ds os nx Q :=
  acall_intro hT.toS (fn := Go.Proofs.Tryz.f67) lv67 (by kernel_rfl) rfl rfl (by kernel_rfl) rfl hl rfl h
abbrev lv68 : Nat → Option (List Nat) := lvL [(0, [0, 3]), (1, [0, 3, 26]), (2, [4, 5]), (3, [0, 3, 6, 7]), (4, [0, 3, 6, 34]), (5, [4, 5]), (6, [0, 3, 6, 36]), (7, [4, 5]), (8, [0]), (9, [0, 49]), (10, [4, 5]), (11, [4, 5])]
@[go_sem] def us68_8 : List Nat := [0, 1, 0, 0, 11, 27, 63, 127]
theorem ac68 {T : Tab} (hT : TabOk Go.Proofs.Tryz.prog T) {ds : List D} {os : List (Nat × Ob)} {nx : Nat} {Q : D → List (Nat × Ob) → Nat → Prop} (hl : ds.length ≤ 51) (h : awp Go.Proofs.Tryz.prog T 51 nx lv68 (Go.Proofs.Tryz.f68.body.getD .skip) (fin Go.Proofs.Tryz.prog [.tmp 4, .tmp 5] Q) ⟨prm 0 ds, os, nx⟩) : ACall Go.Proofs.Tryz.prog 68 ds os nx Q :=
  acall_intro hT.toS (fn := Go.Proofs.Tryz.f68) lv68 (by kernel_rfl) rfl rfl (by kernel_rfl) rfl hl rfl h
abbrev lv69 : Nat → Option (List Nat) := lvL [(0, [0]), (1, [0])]
theorem ac69 {T : Tab} (hT : TabOk Go.Proofs.Tryz.prog T) {ds : List D} {os : List (Nat × Ob)} {nx : Nat} {Q : D → List (Nat × Ob) → Nat → Prop} (hl : ds.length ≤ 2) (h : awp Go.Proofs.Tryz.prog T 2 nx lv69 (Go.Proofs.Tryz.f69.body.getD .skip) (fin Go.Proofs.Tryz.prog [.cell 0 29] Q) ⟨prm 0 ds, os, nx⟩) : ACall Go.Proofs.Tryz.prog 69 ds os nx Q :=
  acall_intro hT.toS (fn := Go.Proofs.Tryz.f69) lv69 (by kernel_rfl) rfl rfl (by kernel_rfl) rfl hl rfl h
abbrev lv70 : Nat → Option (List Nat) := lvL [(0, [0]), (1, [0, 7]), (2, [0]), (3, [0, 3]), (4, [0, 3, 4]), (5, [0, 3, 4, 15]), (6, [0, 3, 4]), (7, [0, 3, 4]), (8, [2])]
theorem ac70 {T : Tab} (hT : TabOk Go.Proofs.Tryz.prog T) {ds : List D} {os : List (Nat × Ob)} {nx : Nat} {Q : D → List (Nat × Ob) → Nat → Prop} (hl : ds.length ≤ 25) (h : awp Go.Proofs.Tryz.prog T 25 nx lv70 (Go.Proofs.Tryz.f70.body.getD .skip) (fin Go.Proofs.Tryz.prog [.tmp 2] Q) ⟨prm 0 ds, os, nx⟩) : ACall Go.Proofs.Tryz.prog 70 ds os nx Q :=
  acall_intro hT.toS (fn := Go.Proofs.Tryz.f70) lv70 (by kernel_rfl) rfl rfl (by kernel_rfl) rfl hl rfl h
abbrev lv71 : Nat → Option (List Nat) := lvL [(0, [0, 1]), (1, [0, 1, 7, 8]), (2, [0, 1, 7, 8, 9]), (3, [0, 1, 5, 7, 8]), (4, [0, 1, 5, 7, 8, 16]), (5, [4]), (6, [0, 1, 7, 8]), (7, [4])]
theorem ac71 {T : Tab} (hT : TabOk Go.Proofs.Tryz.prog T) {ds : List D} {os : List (Nat × Ob)} {nx : Nat} {Q : D → List (Nat × Ob) → Nat → Prop} (hl : ds.length ≤ 19) (h : awp Go.Proofs.Tryz.prog T 19 nx lv71 (Go.Proofs.Tryz.f71.body.getD .skip) (fin Go.Proofs.Tryz.prog [.tmp 4] Q) ⟨prm 0 ds, os, nx⟩) : ACall Go.Proofs.Tryz.prog 71 ds os nx Q :=
  acall_intro hT.toS (fn := Go.Proofs.Tryz.f71) lv71 (by kernel_rfl) rfl rfl (by kernel_rfl) rfl hl rfl h
abbrev lv72 : Nat → Option (List Nat) := lvL [(0, [0, 1, 2]), (1, [0, 1, 2, 8]), (2, [0, 1, 2, 8, 21]), (3, [6, 7]), (4, [0, 1, 2, 9]), (5, [1, 2, 9, 23, 24, 25]), (6, [1, 2, 9, 23, 24, 25, 26]), (7, [1, 2, 9, 11, 23, 24, 25]), (8, [1, 2, 9, 11, 12, 13, 23, 24, 25]), (9, [1, 2, 9, 11, 23, 24, 25, 46]), (10, [1, 2, 9, 11, 13, 14, 23, 24, 25]), (11, [1, 2, 9, 11, 13, 14, 23, 24, 25, 59]), (12, [6, 7]), (13, [1, 2, 9, 11, 14, 23, 24, 25, 62]), (14, [1, 2, 9, 11, 14, 23, 24, 25]), (15, [1, 2, 9, 23, 24, 25]), (16, [1, 2, 9, 23, 24, 25]), (17, [9]), (18, [9, 15]), (19, [15, 77, 78, 79]), (20, [15, 77, 78, 79, 80]), (21, [15, 16, 17, 77, 78, 79]), (22, [15, 77, 78, 79]), (23, [15, 77, 78, 79]), (24, [6, 7])]
@[go_sem] def us72_10 : List Nat := [0, 0, 0, 4, 14, 0, 32, 127, 255, 511, 511, 1023, 4095]
theorem ac72 {T : Tab} (hT : TabOk Go.Proofs.Tryz.prog T) {ds : List D} {os : List (Nat × Ob)} {nx : Nat} {Q : D → List (Nat × Ob) → Nat → Prop} (hl : ds.length ≤ 91) (h : awp Go.Proofs.Tryz.prog T 91 nx lv72 (Go.Proofs.Tryz.f72.body.getD .skip) (fin Go.Proofs.Tryz.prog [.tmp 6, .tmp 7] Q) ⟨prm 0 ds, os, nx⟩) : ACall Go.Proofs.Tryz.prog 72 ds os nx Q :=
  acall_intro hT.toS (fn := Go.Proofs.Tryz.f72) lv72 (by kernel_rfl) rfl rfl (by kernel_rfl) rfl hl rfl h
abbrev lv73 : Nat → Option (List Nat) := lvL [(0, [1]), (1, [2])]
theorem ac73 {T : Tab} (hT : TabOk Go.Proofs.Tryz.prog T) {ds : List D} {os : List (Nat × Ob)} {nx : Nat} {Q : D → List (Nat × Ob) → Nat → Prop} (hl : ds.length ≤ 23) (h : awp Go.Proofs.Tryz.prog T 23 nx lv73 (Go.Proofs.Tryz.f73.body.getD .skip) (fin Go.Proofs.Tryz.prog [.tmp 2] Q) ⟨prm 0 ds, os, nx⟩) : ACall Go.Proofs.Tryz.prog 73 ds os nx Q :=
  acall_intro hT.toS (fn := Go.Proofs.Tryz.f73) lv73 (by kernel_rfl) rfl rfl (by kernel_rfl) rfl hl rfl h
abbrev lv74 : Nat → Option (List Nat) := lvL [(0, [0]), (1, [0, 4]), (2, [2]), (3, [2])]
theorem ac74 {T : Tab} (hT : TabOk Go.Proofs.Tryz.prog T) {ds : List D} {os : List (Nat × Ob)} {nx : Nat} {Q : D → List (Nat × Ob) → Nat → Prop} (hl : ds.length ≤ 8) (h : awp Go.Proofs.Tryz.prog T 8 nx lv74 (Go.Proofs.Tryz.f74.body.getD .skip) (fin Go.Proofs.Tryz.prog [.tmp 2] Q) ⟨prm 0 ds, os, nx⟩) : ACall Go.Proofs.Tryz.prog 74 ds os nx Q :=
  acall_intro hT.toS (fn := Go.Proofs.Tryz.f74) lv74 (by kernel_rfl) rfl rfl (by kernel_rfl) rfl hl rfl h
abbrev lv75 : Nat → Option (List Nat) := lvL [(0, [0, 1]), (1, [0, 1, 7, 8]), (2, [0, 1, 7, 8, 9]), (3, [0, 1, 5, 7, 8]), (4, [0, 1, 5, 7, 8, 16]), (5, [4]), (6, [0, 1, 7, 8]), (7, [4])]
theorem ac75 {T : Tab} (hT : TabOk Go.Proofs.Tryz.prog T) {ds : List D} {os : List (Nat × Ob)} {nx : Nat} {Q : D → List (Nat × Ob) → Nat → Prop} (hl : ds.length ≤ 19) (h : awp Go.Proofs.Tryz.prog T 19 nx lv75 (Go.Proofs.Tryz.f75.body.getD .skip) (fin Go.Proofs.Tryz.prog [.tmp 4] Q) ⟨prm 0 ds, os, nx⟩) : ACall Go.Proofs.Tryz.prog 75 ds os nx Q :=
  acall_intro hT.toS (fn := Go.Proofs.Tryz.f75) lv75 (by kernel_rfl) rfl rfl (by kernel_rfl) rfl hl rfl h
abbrev lv76 : Nat → Option (List Nat) := lvL [(0, [1]), (1, [2])]
theorem ac76 {T : Tab} (hT : TabOk Go.Proofs.Tryz.prog T) {ds : List D} {os : List (Nat × Ob)} {nx : Nat} {Q : D → List (Nat × Ob) → Nat → Prop} (hl : ds.length ≤ 6) (h : awp Go.Proofs.Tryz.prog T 6 nx lv76 (Go.Proofs.Tryz.f76.body.getD .skip) (fin Go.Proofs.Tryz.prog [.tmp 2] Q) ⟨prm 0 ds, os, nx⟩) : ACall Go.Proofs.Tryz.prog 76 ds os nx Q :=
  acall_intro hT.toS (fn := Go.Proofs.Tryz.f76) lv76 (by kernel_rfl) rfl rfl (by kernel_rfl) rfl hl rfl h
abbrev lv77 : Nat → Option (List Nat) := lvL [(0, [0, 1, 2]), (1, [0, 1, 2]), (2, [0, 1, 2, 16]), (3, [6]), (4, [0, 1, 2, 7]), (5, [0, 7]), (6, [0]), (7, [6])]
@[go_sem] def us77_5 : List Nat := [0, 0, 3, 0, 0, 24, 63, 127]
theorem ac77 {T : Tab} (hT : TabOk Go.Proofs.Tryz.prog T) {ds : List D} {os : List (Nat × Ob)} {nx : Nat} {Q : D → List (Nat × Ob) → Nat → Prop} (hl : ds.length ≤ 33) (h : awp Go.Proofs.Tryz.prog T 33 nx lv77 (Go.Proofs.Tryz.f77.body.getD .skip) (fin Go.Proofs.Tryz.prog [.tmp 6] Q) ⟨prm 0 ds, os, nx⟩) : ACall Go.Proofs.Tryz.prog 77 ds os nx Q :=
  acall_intro hT.toS (fn := Go.Proofs.Tryz.f77) lv77 (by kernel_rfl) rfl rfl (by kernel_rfl) rfl hl rfl h
abbrev lv78 : Nat → Option (List Nat) := lvL [(0, [0, 1, 2]), (1, [0, 1, 2]), (2, [0, 1, 2, 7]), (3, [0, 1, 2, 7, 16]), (4, [6]), (5, [0, 1, 2, 7, 8]), (6, [0, 1, 2, 7, 8, 22]), (7, [6]), (8, [0, 1, 2, 7, 8, 31]), (9, [0, 1, 2, 7, 9]), (10, [0, 1, 7, 9]), (11, [9]), (12, [6]), (13, [0, 1, 2, 7, 8]), (14, [0, 1, 2, 7, 8, 68]), (15, [0, 1, 2]), (16, [0]), (17, [6]), (18, [0, 1, 7]), (19, [0]), (20, [6])]
@[go_sem] def us78_11 : List Nat := [0, 0, 0, 6, 15, 0, 0, 96, 255]
@[go_sem] def us78_15 : List Nat := [0, 0, 0, 6, 15, 0, 0, 96, 255]
theorem ac78 {T : Tab} (hT : TabOk Go.Proofs.Tryz.prog T) {ds : List D} {os : List (Nat × Ob)} {nx : Nat} {Q : D → List (Nat × Ob) → Nat → Prop} (hl : ds.length ≤ 95) (h : awp Go.Proofs.Tryz.prog T 95 nx lv78 (Go.Proofs.Tryz.f78.body.getD .skip) (fin Go.Proofs.Tryz.prog [.tmp 6] Q) ⟨prm 0 ds, os, nx⟩) : ACall Go.Proofs.Tryz.prog 78 ds os nx Q :=
  acall_intro hT.toS (fn := Go.Proofs.Tryz.f78) lv78 (by kernel_rfl) rfl rfl (by kernel_rfl) rfl hl rfl h
abbrev lv79 : Nat → Option (List Nat) := lvL [(0, [0, 1, 2]), (1, [0, 2, 8, 9]), (2, [0, 2, 8, 9, 18]), (3, [6, 7]), (4, [0, 8, 9, 10]), (5, [0, 8, 9, 10, 30]), (6, [6, 7]), (7, [0, 8, 10]), (8, [0]), (9, [6, 7])]
theorem ac79 {T : Tab} (hT : TabOk Go.Proofs.Tryz.prog T) {ds : List D} {os : List (Nat × Ob)} {nx : Nat} {Q : D → List (Nat × Ob) → Nat → Prop} (hl : ds.length ≤ 39) (h : awp Go.Proofs.Tryz.prog T 39 nx lv79 (Go.Proofs.Tryz.f79.body.getD .skip) (fin Go.Proofs.Tryz.prog [.tmp 6, .tmp 7] Q) ⟨prm 0 ds, os, nx⟩) : ACall Go.Proofs.Tryz.prog 79 ds os nx Q :=
  acall_intro hT.toS (fn := Go.Proofs.Tryz.f79) lv79 (by kernel_rfl) rfl rfl (by kernel_rfl) rfl hl rfl h
abbrev lv80 : Nat → Option (List Nat) := lvL [(0, [1, 2, 3, 4, 5]), (1, [2, 3, 4, 5, 8]), (2, [2, 3, 4, 5, 16]), (3, [5, 6]), (4, [5, 6])]
theorem ac80 {T : Tab} (hT : TabOk Go.Proofs.Tryz.prog T) {ds : List D} {os : List (Nat × Ob)} {nx : Nat} {Q : D → List (Nat × Ob) → Nat → Prop} (hl : ds.length ≤ 24) (h : awp Go.Proofs.Tryz.prog T 24 nx lv80 (Go.Proofs.Tryz.f80.body.getD .skip) (fin Go.Proofs.Tryz.prog [.cell 5 67, .tmp 6] Q) ⟨prm 0 ds, os, nx⟩) : ACall Go.Proofs.Tryz.prog 80 ds os nx Q :=
  acall_intro hT.toS (fn := Go.Proofs.Tryz.f80) lv80 (by kernel_rfl) rfl rfl (by kernel_rfl) rfl hl rfl h
abbrev lv81 : Nat → Option (List Nat) := lvL [(0, [0, 1]), (1, [0, 1, 6, 7]), (2, [0, 1, 6, 7, 16]), (3, [4, 5]), (4, [0, 8, 9]), (5, [0, 8, 25]), (6, [4, 5]), (7, [4, 5])]
theorem ac81 {T : Tab} (hT : TabOk Go.Proofs.Tryz.prog T) {ds : List D} {os : List (Nat × Ob)} {nx : Nat} {Q : D → List (Nat × Ob) → Nat → Prop} (hl : ds.length ≤ 31) (h : awp Go.Proofs.Tryz.prog T 31 nx lv81 (Go.Proofs.Tryz.f81.body.getD .skip) (fin Go.Proofs.Tryz.prog [.tmp 4, .tmp 5] Q) ⟨prm 0 ds, os, nx⟩) : ACall Go.Proofs.Tryz.prog 81 ds os nx Q :=
  acall_intro hT.toS (fn := Go.Proofs.Tryz.f81) lv81 (by kernel_rfl) rfl rfl (by kernel_rfl) rfl hl rfl h
abbrev lv82 : Nat → Option (List Nat) := lvL [(0, [1, 2, 3, 6]), (1, [1, 2, 3, 6, 8, 10]), (2, [1, 2, 3, 6, 8, 10, 11, 12]), (3, [1, 2, 3, 6, 8, 11, 12, 26]), (4, [6, 7]), (5, [1, 2, 3, 6, 8, 11, 12, 40]), (6, [6, 7]), (7, [1, 2, 3, 6, 8, 11, 45]), (8, [6, 7]), (9, [1, 2, 3, 6, 8, 11, 48]), (10, [6, 7]), (11, [1, 2, 3, 6, 8, 11, 54]), (12, [6, 7]), (13, [1, 2, 3, 6, 11, 70]), (14, [6, 7]), (15, [1, 2, 3, 6, 11]), (16, [3, 6]), (17, [6, 7])]
theorem ac82 {T : Tab} (hT : TabOk Go.Proofs.Tryz.prog T) {ds : List D} {os : List (Nat × Ob)} {nx : Nat} {Q : D → List (Nat × Ob) → Nat → Prop} (hl : ds.length ≤ 94) (h : awp Go.Proofs.Tryz.prog T 94 nx lv82 (Go.Proofs.Tryz.f82.body.getD .skip) (fin Go.Proofs.Tryz.prog [.cell 6 67, .tmp 7] Q) ⟨prm 0 ds, os, nx⟩) : ACall Go.Proofs.Tryz.prog 82 ds os nx Q :=
  acall_intro hT.toS (fn := Go.Proofs.Tryz.f82) lv82 (by kernel_rfl) rfl rfl (by kernel_rfl) rfl hl rfl h
abbrev lv83 : Nat → Option (List Nat) := lvL [(0, [0, 1, 2, 12]), (1, [0, 1, 6, 7]), (2, [0, 1, 6, 7, 22]), (3, []), (4, [])]
theorem ac83 {T : Tab} (hT : TabOk Go.Proofs.Tryz.prog T) {ds : List D} {os : List (Nat × Ob)} {nx : Nat} {Q : D → List (Nat × Ob) → Nat → Prop} (hl : ds.length ≤ 30) (h : awp Go.Proofs.Tryz.prog T 30 nx lv83 (Go.Proofs.Tryz.f83.body.getD .skip) (fin Go.Proofs.Tryz.prog [] Q) ⟨prm 0 ds, os, nx⟩) : ACall Go.Proofs.Tryz.prog 83 ds os nx Q :=
  acall_intro hT.toS (fn := Go.Proofs.Tryz.f83) lv83 (by kernel_rfl) rfl rfl (by kernel_rfl) rfl hl rfl h
abbrev lv84 : Nat → Option (List Nat) := lvL [(0, [1, 2, 3, 4, 5]), (1, [4, 5, 8]), (2, [5, 6])]
theorem ac84 {T : Tab} (hT : TabOk Go.Proofs.Tryz.prog T) {ds : List D} {os : List (Nat × Ob)} {nx : Nat} {Q : D → List (Nat × Ob) → Nat → Prop} (hl : ds.length ≤ 20) (h : awp Go.Proofs.Tryz.prog T 20 nx lv84 (Go.Proofs.Tryz.f84.body.getD .skip) (fin Go.Proofs.Tryz.prog [.cell 5 29, .tmp 6] Q) ⟨prm 0 ds, os, nx⟩) : ACall Go.Proofs.Tryz.prog 84 ds os nx Q :=
  acall_intro hT.toS (fn := Go.Proofs.Tryz.f84) lv84 (by kernel_rfl) rfl rfl (by kernel_rfl) rfl hl rfl h
abbrev lv85 : Nat → Option (List Nat) := lvL [(0, [1, 2, 3, 4, 8]), (1, [1, 2, 3, 4, 8, 13]), (2, [8, 9, 10]), (3, [1, 2, 3, 4, 8, 23]), (4, [8, 9, 10]), (5, [1, 2, 3, 4, 8, 11]), (6, [8, 11, 12]), (7, [8, 9, 10])]
theorem ac85 {T : Tab} (hT : TabOk Go.Proofs.Tryz.prog T) {ds : List D} {os : List (Nat × Ob)} {nx : Nat} {Q : D → List (Nat × Ob) → Nat → Prop} (hl : ds.length ≤ 50) (h : awp Go.Proofs.Tryz.prog T 50 nx lv85 (Go.Proofs.Tryz.f85.body.getD .skip) (fin Go.Proofs.Tryz.prog [.cell 8 29, .tmp 9, .tmp 10] Q) ⟨prm 0 ds, os, nx⟩) : ACall Go.Proofs.Tryz.prog 85 ds os nx Q :=
  acall_intro hT.toS (fn := Go.Proofs.Tryz.f85) lv85 (by kernel_rfl) rfl rfl (by kernel_rfl) rfl hl rfl h
abbrev lv86 : Nat → Option (List Nat) := lvL [(0, [1, 2]), (1, [1, 2]), (2, [1, 2, 28, 29, 30]), (3, [1, 2, 28, 29, 30, 31]), (4, [1, 2, 3, 4, 28, 29, 30]), (5, [1, 2, 28, 29, 30]), (6, [1, 2, 28, 29, 30]), (7, [2])]
@[go_sem] def us86_1 : List Nat := [0, 1, 3, 0, 8, 31, 0, 64, 255, 0, 512, 2047, 0, 4096, 12288, 32767, 30431, 131071, 262143, 524287, 1048575, 2097151, 4194303, 8388607, 16777215, 33554431, 67108863]
@[go_sem] def us86_5 : List Nat := [0, 1, 0, 0, 8, 24, 63, 127, 255]
theorem ac86 {T : Tab} (hT : TabOk Go.Proofs.Tryz.prog T) {ds : List D} {os : List (Nat × Ob)} {nx : Nat} {Q : D → List (Nat × Ob) → Nat → Prop} (hl : ds.length ≤ 45) (h : awp Go.Proofs.Tryz.prog T 45 nx lv86 (Go.Proofs.Tryz.f86.body.getD .skip) (fin Go.Proofs.Tryz.prog [.cell 2 31] Q) ⟨prm 0 ds, os, nx⟩) : ACall Go.Proofs.Tryz.prog 86 ds os nx Q :=
  acall_intro hT.toS (fn := Go.Proofs.Tryz.f86) lv86 (by kernel_rfl) rfl rfl (by kernel_rfl) rfl hl rfl h
abbrev lv87 : Nat → Option (List Nat) := lvL [(0, [0]), (1, [0, 16]), (2, [2, 3]), (3, [0, 4, 5]), (4, [0, 4, 5, 18, 19, 20]), (5, [0, 4, 5, 18, 19, 20, 21]), (6, [0, 4, 5, 6, 7, 18, 19, 20]), (7, [0, 4, 5, 6, 7, 8, 9, 18, 19, 20]), (8, [0, 4, 5, 6, 7, 8, 18, 19, 20, 46]), (9, [2, 3]), (10, [0, 4, 5, 6, 7, 9, 18, 19, 20]), (11, [0, 4, 5, 6, 7, 18, 19, 20, 55]), (12, [2, 3]), (13, [0, 4, 5, 6, 18, 19, 20, 57, 58, 59]), (14, [0, 4, 5, 6, 18, 19, 20, 57, 58, 59, 60]), (15, [0, 4, 5, 6, 11, 18, 19, 20, 57, 58, 59]), (16, [0, 4, 5, 6, 11, 13, 18, 19, 20, 57, 58, 59]), (17, [0, 4, 5, 6, 11, 18, 19, 20, 57, 58, 59, 70]), (18, [2, 3]), (19, [0, 4, 5, 6, 18, 19, 20, 57, 58, 59]), (20, [0, 4, 5, 6, 18, 19, 20, 57, 58, 59]), (21, [0, 4, 5, 18, 19, 20]), (22, [2, 3])]
@[go_sem] def us87_8 : List Nat := [0, 1, 3, 7, 15, 31, 63, 63, 191, 511, 1023, 63, 2111, 8191, 16383, 32767, 65535]
theorem ac87 {T : Tab} (hT : TabOk Go.Proofs.Tryz.prog T) {ds : List D} {os : List (Nat × Ob)} {nx : Nat} {Q : D → List (Nat × Ob) → Nat → Prop} (hl : ds.length ≤ 78) (h : awp Go.Proofs.Tryz.prog T 78 nx lv87 (Go.Proofs.Tryz.f87.body.getD .skip) (fin Go.Proofs.Tryz.prog [.tmp 2, .tmp 3] Q) ⟨prm 0 ds, os, nx⟩) : ACall Go.Proofs.Tryz.prog 87 ds os nx Q :=
  acall_intro hT.toS (fn := Go.Proofs.Tryz.f87) lv87 (by kernel_rfl) rfl rfl (by kernel_rfl) rfl hl rfl h
abbrev lv88 : Nat → Option (List Nat) := lvL [(0, [1, 2]), (1, [1, 2, 30]), (2, [2, 3, 4]), (3, [1, 2, 32, 33, 34]), (4, [1, 2, 32, 33, 34, 35]), (5, [1, 2, 5, 6, 32, 33, 34]), (6, [1, 2, 6, 32, 33, 34, 57]), (7, [2, 3, 4]), (8, [1, 2, 4, 32, 33, 34]), (9, [1, 2, 32, 33, 34, 73]), (10, [2, 3, 4]), (11, [1, 2, 32, 33, 34]), (12, [2, 3, 4]), (13, [2, 3, 86]), (14, [2, 3, 4]), (15, [2, 3, 4])]
@[go_sem] def us88_6 : List Nat := [0, 1, 3, 7, 15, 31, 63, 127, 255, 127, 639, 2047, 4095, 127, 8319, 32767, 65535, 131071, 262143]
theorem ac88 {T : Tab} (hT : TabOk Go.Proofs.Tryz.prog T) {ds : List D} {os : List (Nat × Ob)} {nx : Nat} {Q : D → List (Nat × Ob) → Nat → Prop} (hl : ds.length ≤ 89) (h : awp Go.Proofs.Tryz.prog T 89 nx lv88 (Go.Proofs.Tryz.f88.body.getD .skip) (fin Go.Proofs.Tryz.prog [.tmp 2, .tmp 3, .tmp 4] Q) ⟨prm 0 ds, os, nx⟩) : ACall Go.Proofs.Tryz.prog 88 ds os nx Q :=
  acall_intro hT.toS (fn := Go.Proofs.Tryz.f88) lv88 (by kernel_rfl) rfl rfl (by kernel_rfl) rfl hl rfl h
abbrev lv89 : Nat → Option (List Nat) := lvL [(0, [1, 2]), (1, [4])]
theorem ac89 {T : Tab} (hT : TabOk Go.Proofs.Tryz.prog T) {ds : List D} {os : List (Nat × Ob)} {nx : Nat} {Q : D → List (Nat × Ob) → Nat → Prop} (hl : ds.length ≤ 9) (h : awp Go.Proofs.Tryz.prog T 9 nx lv89 (Go.Proofs.Tryz.f89.body.getD .skip) (fin Go.Proofs.Tryz.prog [.tmp 4] Q) ⟨prm 0 ds, os, nx⟩) : ACall Go.Proofs.Tryz.prog 89 ds os nx Q :=
  acall_intro hT.toS (fn := Go.Proofs.Tryz.f89) lv89 (by kernel_rfl) rfl rfl (by kernel_rfl) rfl hl rfl h
abbrev lv90 : Nat → Option (List Nat) := lvL [(0, [0]), (1, [2])]
theorem ac90 {T : Tab} (hT : TabOk Go.Proofs.Tryz.prog T) {ds : List D} {os : List (Nat × Ob)} {nx : Nat} {Q : D → List (Nat × Ob) → Nat → Prop} (hl : ds.length ≤ 11) (h : awp Go.Proofs.Tryz.prog T 11 nx lv90 (Go.Proofs.Tryz.f90.body.getD .skip) (fin Go.Proofs.Tryz.prog [.tmp 2] Q) ⟨prm 0 ds, os, nx⟩) : ACall Go.Proofs.Tryz.prog 90 ds os nx Q :=
  acall_intro hT.toS (fn := Go.Proofs.Tryz.f90) lv90 (by kernel_rfl) rfl rfl (by kernel_rfl) rfl hl rfl h
abbrev lv91 : Nat → Option (List Nat) := lvL [(0, [1]), (1, [2])]
theorem ac91 {T : Tab} (hT : TabOk Go.Proofs.Tryz.prog T) {ds : List D} {os : List (Nat × Ob)} {nx : Nat} {Q : D → List (Nat × Ob) → Nat → Prop} (hl : ds.length ≤ 4) (h : awp Go.Proofs.Tryz.prog T 4 nx lv91 (Go.Proofs.Tryz.f91.body.getD .skip) (fin Go.Proofs.Tryz.prog [.tmp 2] Q) ⟨prm 0 ds, os, nx⟩) : ACall Go.Proofs.Tryz.prog 91 ds os nx Q :=
  acall_intro hT.toS (fn := Go.Proofs.Tryz.f91) lv91 (by kernel_rfl) rfl rfl (by kernel_rfl) rfl hl rfl h
abbrev lv92 : Nat → Option (List Nat) := lvL [(0, [0]), (1, [2])]
theorem ac92 {T : Tab} (hT : TabOk Go.Proofs.Tryz.prog T) {ds : List D} {os : List (Nat × Ob)} {nx : Nat} {Q : D → List (Nat × Ob) → Nat → Prop} (hl : ds.length ≤ 9) (h : awp Go.Proofs.Tryz.prog T 9 nx lv92 (Go.Proofs.Tryz.f92.body.getD .skip) (fin Go.Proofs.Tryz.prog [.tmp 2] Q) ⟨prm 0 ds, os, nx⟩) : ACall Go.Proofs.Tryz.prog 92 ds os nx Q :=
  acall_intro hT.toS (fn := Go.Proofs.Tryz.f92) lv92 (by kernel_rfl) rfl rfl (by kernel_rfl) rfl hl rfl h
abbrev lv93 : Nat → Option (List Nat) := lvL [(0, [0]), (1, [0, 7]), (2, [2]), (3, [0, 8, 9, 10]), (4, [0, 8, 9, 10, 11]), (5, [0, 3, 4, 8, 9, 10]), (6, [0, 8, 9, 10, 32]), (7, [2]), (8, [0, 8, 9, 10]), (9, [2])]
@[go_sem] def us93_6 : List Nat := [0, 1, 3, 7, 15, 31, 63, 127, 127, 383, 1023, 2047, 127, 4223, 16383, 32767, 65535, 131071]
theorem ac93 {T : Tab} (hT : TabOk Go.Proofs.Tryz.prog T) {ds : List D} {os : List (Nat × Ob)} {nx : Nat} {Q : D → List (Nat × Ob) → Nat → Prop} (hl : ds.length ≤ 34) (h : awp Go.Proofs.Tryz.prog T 34 nx lv93 (Go.Proofs.Tryz.f93.body.getD .skip) (fin Go.Proofs.Tryz.prog [.tmp 2] Q) ⟨prm 0 ds, os, nx⟩) : ACall Go.Proofs.Tryz.prog 93 ds os nx Q :=
  acall_intro hT.toS (fn := Go.Proofs.Tryz.f93) lv93 (by kernel_rfl) rfl rfl (by kernel_rfl) rfl hl rfl h
abbrev lv94 : Nat → Option (List Nat) := lvL [(0, [0, 1, 2]), (1, [0, 1, 2, 8]), (2, [0, 1, 2, 8, 9, 10]), (3, [0, 1, 2, 8, 9, 10, 17]), (4, [0, 1, 2, 8, 9, 10, 11]), (5, [0, 1, 2, 8, 9, 10, 11, 31]), (6, [0, 1, 2, 8, 9, 10]), (7, [0, 1, 2, 8, 9, 10]), (8, [6, 7])]
theorem ac94 {T : Tab} (hT : TabOk Go.Proofs.Tryz.prog T) {ds : List D} {os : List (Nat × Ob)} {nx : Nat} {Q : D → List (Nat × Ob) → Nat → Prop} (hl : ds.length ≤ 49) (h : awp Go.Proofs.Tryz.prog T 49 nx lv94 (Go.Proofs.Tryz.f94.body.getD .skip) (fin Go.Proofs.Tryz.prog [.tmp 6, .tmp 7] Q) ⟨prm 0 ds, os, nx⟩) : ACall Go.Proofs.Tryz.prog 94 ds os nx Q :=
  acall_intro hT.toS (fn := Go.Proofs.Tryz.f94) lv94 (by kernel_rfl) rfl rfl (by kernel_rfl) rfl hl rfl h
abbrev lv95 : Nat → Option (List Nat) := lvL [(0, [1, 2]), (1, [4])]
theorem ac95 {T : Tab} (hT : TabOk Go.Proofs.Tryz.prog T) {ds : List D} {os : List (Nat × Ob)} {nx : Nat} {Q : D → List (Nat × Ob) → Nat → Prop} (hl : ds.length ≤ 9) (h : awp Go.Proofs.Tryz.prog T 9 nx lv95 (Go.Proofs.Tryz.f95.body.getD .skip) (fin Go.Proofs.Tryz.prog [.tmp 4] Q) ⟨prm 0 ds, os, nx⟩) : ACall Go.Proofs.Tryz.prog 95 ds os nx Q :=
  acall_intro hT.toS (fn := Go.Proofs.Tryz.f95) lv95 (by kernel_rfl) rfl rfl (by kernel_rfl) rfl hl rfl h
abbrev lv98 : Nat → Option (List Nat) := lvL [(0, [0, 1]), (1, [0, 1, 5]), (2, [0, 1, 5, 6]), (3, [0, 1, 6, 11]), (4, [12]), (5, [4]), (6, [4]), (7, [0, 1, 13]), (8, [4]), (9, [0, 1, 16]), (10, [4]), (11, [19]), (12, [4]), (13, [4])]
theorem ac98 {T : Tab} (hT : TabOk Go.Proofs.Tryz.prog T) {ds : List D} {os : List (Nat × Ob)} {nx : Nat} {Q : D → List (Nat × Ob) → Nat → Prop} (hl : ds.length ≤ 20) (h : awp Go.Proofs.Tryz.prog T 20 nx lv98 (Go.Proofs.Tryz.f98.body.getD .skip) (fin Go.Proofs.Tryz.prog [.tmp 4] Q) ⟨prm 0 ds, os, nx⟩) : ACall Go.Proofs.Tryz.prog 98 ds os nx Q :=
  acall_intro hT.toS (fn := Go.Proofs.Tryz.f98) lv98 (by kernel_rfl) rfl rfl (by kernel_rfl) rfl hl rfl h
abbrev lv119 : Nat → Option (List Nat) := lvL [(0, [1]), (1, [5]), (2, [2])]
theorem ac119 {T : Tab} (hT : TabOk Go.Proofs.Tryz.prog T) {ds : List D} {os : List (Nat × Ob)} {nx : Nat} {Q : D → List (Nat × Ob) → Nat → Prop} (hl : ds.length ≤ 13) (h : awp Go.Proofs.Tryz.prog T 13 nx lv119 (Go.Proofs.Tryz.f119.body.getD .skip) (fin Go.Proofs.Tryz.prog [.tmp 2] Q) ⟨prm 0 ds, os, nx⟩) : ACall Go.Proofs.Tryz.prog 119 ds os nx Q :=
  acall_intro hT.toS (fn := Go.Proofs.Tryz.f119) lv119 (by kernel_rfl) rfl rfl (by kernel_rfl) rfl hl rfl h
abbrev lv120 : Nat → Option (List Nat) := lvL [(0, [0, 1, 2]), (1, [0, 1, 2, 8]), (2, [0, 1, 2, 8, 9, 10]), (3, [0, 1, 2, 8, 9, 10, 17]), (4, [0, 1, 2, 8, 9, 10, 11]), (5, [0, 1, 2, 8, 9, 10, 11, 31]), (6, [0, 1, 2, 8, 9, 10]), (7, [0, 1, 2, 8, 9, 10]), (8, [6, 7])]
theorem ac120 {T : Tab} (hT : TabOk Go.Proofs.Tryz.prog T) {ds : List D} {os : List (Nat × Ob)} {nx : Nat} {Q : D → List (Nat × Ob) → Nat → Prop} (hl : ds.length ≤ 49) (h : awp Go.Proofs.Tryz.prog T 49 nx lv120 (Go.Proofs.Tryz.f120.body.getD .skip) (fin Go.Proofs.Tryz.prog [.tmp 6, .tmp 7] Q) ⟨prm 0 ds, os, nx⟩) : ACall Go.Proofs.Tryz.prog 120 ds os nx Q :=
  acall_intro hT.toS (fn := Go.Proofs.Tryz.f120) lv120 (by kernel_rfl) rfl rfl (by kernel_rfl) rfl hl rfl h
abbrev lv121 : Nat → Option (List Nat) := lvL [(0, [1, 2]), (1, [4])]
theorem ac121 {T : Tab} (hT : TabOk Go.Proofs.Tryz.prog T) {ds : List D} {os : List (Nat × Ob)} {nx : Nat} {Q : D → List (Nat × Ob) → Nat → Prop} (hl : ds.length ≤ 9) (h : awp Go.Proofs.Tryz.prog T 9 nx lv121 (Go.Proofs.Tryz.f121.body.getD .skip) (fin Go.Proofs.Tryz.prog [.tmp 4] Q) ⟨prm 0 ds, os, nx⟩) : ACall Go.Proofs.Tryz.prog 121 ds os nx Q :=
  acall_intro hT.toS (fn := Go.Proofs.Tryz.f121) lv121 (by kernel_rfl) rfl rfl (by kernel_rfl) rfl hl rfl h
abbrev lv122 : Nat → Option (List Nat) := lvL [(0, [0, 1, 2]), (1, [0, 1, 2]), (2, [0, 1, 2, 7]), (3, [0, 1, 2, 7, 16]), (4, [6]), (5, [0, 1, 2, 7, 8]), (6, [0, 1, 2, 7, 8, 22]), (7, [6]), (8, [0, 1, 2, 7, 8, 31]), (9, [0, 1, 2, 7, 9]), (10, [0, 1, 7, 9]), (11, [9]), (12, [6]), (13, [0, 1, 2, 7, 8]), (14, [0, 1, 2, 7, 8, 68]), (15, [0, 1, 2]), (16, [0]), (17, [6]), (18, [0, 1, 7]), (19, [0]), (20, [6])]
@[go_sem] def us122_11 : List Nat := [0, 0, 0, 6, 15, 0, 0, 96, 255]
@[go_sem] def us122_15 : List Nat := [0, 0, 0, 6, 15, 0, 0, 96, 255]
theorem ac122 {T : Tab} (hT : TabOk Go.Proofs.Tryz.prog T) {ds : List D} {os : List (Nat × Ob)} {nx : Nat} {Q : D → List (Nat × Ob) → Nat → Prop} (hl : ds.length ≤ 95) (h : awp Go.Proofs.Tryz.prog T 95 nx lv122 (Go.Proofs.Tryz.f122.body.getD .skip) (fin Go.Proofs.Tryz.prog [.tmp 6] Q) ⟨prm 0 ds, os, nx⟩) : ACall Go.Proofs.Tryz.prog 122 ds os nx Q :=
  acall_intro hT.toS (fn := Go.Proofs.Tryz.f122) lv122 (by kernel_rfl) rfl rfl (by kernel_rfl) rfl hl rfl h
abbrev lv123 : Nat → Option (List Nat) := lvL [(0, [0]), (1, [0]), (2, [0, 7, 8, 9]), (3, [0, 7, 8, 9, 10]), (4, [0, 3, 4, 7, 8, 9]), (5, [0, 7, 8, 9]), (6, [0, 7, 8, 9]), (7, [2])]
theorem ac123 {T : Tab} (hT : TabOk Go.Proofs.Tryz.prog T) {ds : List D} {os : List (Nat × Ob)} {nx : Nat} {Q : D → List (Nat × Ob) → Nat → Prop} (hl : ds.length ≤ 21) (h : awp Go.Proofs.Tryz.prog T 21 nx lv123 (Go.Proofs.Tryz.f123.body.getD .skip) (fin Go.Proofs.Tryz.prog [.tmp 2] Q) ⟨prm 0 ds, os, nx⟩) : ACall Go.Proofs.Tryz.prog 123 ds os nx Q :=
  acall_intro hT.toS (fn := Go.Proofs.Tryz.f123) lv123 (by kernel_rfl) rfl rfl (by kernel_rfl) rfl hl rfl h
abbrev lv124 : Nat → Option (List Nat) := lvL [(0, [1, 2]), (1, [1, 2]), (2, [2])]
theorem ac124 {T : Tab} (hT : TabOk Go.Proofs.Tryz.prog T) {ds : List D} {os : List (Nat × Ob)} {nx : Nat} {Q : D → List (Nat × Ob) → Nat → Prop} (hl : ds.length ≤ 8) (h : awp Go.Proofs.Tryz.prog T 8 nx lv124 (Go.Proofs.Tryz.f124.body.getD .skip) (fin Go.Proofs.Tryz.prog [.cell 2 67] Q) ⟨prm 0 ds, os, nx⟩) : ACall Go.Proofs.Tryz.prog 124 ds os nx Q :=
  acall_intro hT.toS (fn := Go.Proofs.Tryz.f124) lv124 (by kernel_rfl) rfl rfl (by kernel_rfl) rfl hl rfl h
abbrev lv125 : Nat → Option (List Nat) := lvL [(0, [1]), (1, [1, 4, 6]), (2, [1, 4, 6, 26]), (3, [2, 3]), (4, [1, 4, 6, 7]), (5, [1, 4, 6, 7, 37]), (6, [2, 3]), (7, [2, 3])]
theorem ac125 {T : Tab} (hT : TabOk Go.Proofs.Tryz.prog T) {ds : List D} {os : List (Nat × Ob)} {nx : Nat} {Q : D → List (Nat × Ob) → Nat → Prop} (hl : ds.length ≤ 45) (h : awp Go.Proofs.Tryz.prog T 45 nx lv125 (Go.Proofs.Tryz.f125.body.getD .skip) (fin Go.Proofs.Tryz.prog [.tmp 2, .tmp 3] Q) ⟨prm 0 ds, os, nx⟩) : ACall Go.Proofs.Tryz.prog 125 ds os nx Q :=
  acall_intro hT.toS (fn := Go.Proofs.Tryz.f125) lv125 (by kernel_rfl) rfl rfl (by kernel_rfl) rfl hl rfl h
abbrev lv126 : Nat → Option (List Nat) := lvL [(0, [1, 2, 3]), (1, [1, 2, 3, 8, 9]), (2, [1, 2, 3, 8, 9, 19]), (3, [6, 7]), (4, [1, 2, 8, 9, 10]), (5, [1, 2, 8, 9, 10, 27]), (6, [6, 7]), (7, [1, 10, 11]), (8, [1, 12]), (9, [6, 7])]
theorem ac126 {T : Tab} (hT : TabOk Go.Proofs.Tryz.prog T) {ds : List D} {os : List (Nat × Ob)} {nx : Nat} {Q : D → List (Nat × Ob) → Nat → Prop} (hl : ds.length ≤ 40) (h : awp Go.Proofs.Tryz.prog T 40 nx lv126 (Go.Proofs.Tryz.f126.body.getD .skip) (fin Go.Proofs.Tryz.prog [.tmp 6, .tmp 7] Q) ⟨prm 0 ds, os, nx⟩) : ACall Go.Proofs.Tryz.prog 126 ds os nx Q :=
  acall_intro hT.toS (fn := Go.Proofs.Tryz.f126) lv126 (by kernel_rfl) rfl rfl (by kernel_rfl) rfl hl rfl h
abbrev lv127 : Nat → Option (List Nat) := lvL [(0, [0, 3]), (1, [0, 5]), (2, [0, 5, 10]), (3, [4]), (4, [4])]
theorem ac127 {T : Tab} (hT : TabOk Go.Proofs.Tryz.prog T) {ds : List D} {os : List (Nat × Ob)} {nx : Nat} {Q : D → List (Nat × Ob) → Nat → Prop} (hl : ds.length ≤ 16) (h : awp Go.Proofs.Tryz.prog T 16 nx lv127 (Go.Proofs.Tryz.f127.body.getD .skip) (fin Go.Proofs.Tryz.prog [.tmp 4] Q) ⟨prm 0 ds, os, nx⟩) : ACall Go.Proofs.Tryz.prog 127 ds os nx Q :=
  acall_intro hT.toS (fn := Go.Proofs.Tryz.f127) lv127 (by kernel_rfl) rfl rfl (by kernel_rfl) rfl hl rfl h
abbrev lv128 : Nat → Option (List Nat) := lvL [(0, [0]), (1, [2])]
theorem ac128 {T : Tab} (hT : TabOk Go.Proofs.Tryz.prog T) {ds : List D} {os : List (Nat × Ob)} {nx : Nat} {Q : D → List (Nat × Ob) → Nat → Prop} (hl : ds.length ≤ 6) (h : awp Go.Proofs.Tryz.prog T 6 nx lv128 (Go.Proofs.Tryz.f128.body.getD .skip) (fin Go.Proofs.Tryz.prog [.tmp 2] Q) ⟨prm 0 ds, os, nx⟩) : ACall Go.Proofs.Tryz.prog 128 ds os nx Q :=
  acall_intro hT.toS (fn := Go.Proofs.Tryz.f128) lv128 (by kernel_rfl) rfl rfl (by kernel_rfl) rfl hl rfl h
abbrev lv129 : Nat → Option (List Nat) := lvL [(0, []), (1, [0])]
theorem ac129 {T : Tab} (hT : TabOk Go.Proofs.Tryz.prog T) {ds : List D} {os : List (Nat × Ob)} {nx : Nat} {Q : D → List (Nat × Ob) → Nat → Prop} (hl : ds.length ≤ 2) (h : awp Go.Proofs.Tryz.prog T 2 nx lv129 (Go.Proofs.Tryz.f129.body.getD .skip) (fin Go.Proofs.Tryz.prog [.tmp 0] Q) ⟨prm 0 ds, os, nx⟩) : ACall Go.Proofs.Tryz.prog 129 ds os nx Q :=
  acall_intro hT.toS (fn := Go.Proofs.Tryz.f129) lv129 (by kernel_rfl) rfl rfl (by kernel_rfl) rfl hl rfl h
abbrev lv131 : Nat → Option (List Nat) := lvL [(0, [2, 3]), (1, [4])]
@[go_sem] def us131_1 : List Nat := [0, 1, 0, 4, 15, 0, 32, 0, 128, 511, 1023, 2047, 4095]
theorem ac131 {T : Tab} (hT : TabOk Go.Proofs.Tryz.prog T) {ds : List D} {os : List (Nat × Ob)} {nx : Nat} {Q : D → List (Nat × Ob) → Nat → Prop} (hl : ds.length ≤ 17) (h : awp Go.Proofs.Tryz.prog T 17 nx lv131 (Go.Proofs.Tryz.f131.body.getD .skip) (fin Go.Proofs.Tryz.prog [.tmp 4] Q) ⟨prm 0 ds, os, nx⟩) : ACall Go.Proofs.Tryz.prog 131 ds os nx Q :=
  acall_intro hT.toS (fn := Go.Proofs.Tryz.f131) lv131 (by kernel_rfl) rfl rfl (by kernel_rfl) rfl hl rfl h
abbrev lv132 : Nat → Option (List Nat) := lvL [(0, [0]), (1, [0, 3]), (2, [3, 6, 7, 8]), (3, [3, 6, 7, 8, 9]), (4, [3, 5, 6, 7, 8]), (5, [3, 5, 6, 7, 8, 14]), (6, [2]), (7, [3, 6, 7, 8]), (8, [2])]
theorem ac132 {T : Tab} (hT : TabOk Go.Proofs.Tryz.prog T) {ds : List D} {os : List (Nat × Ob)} {nx : Nat} {Q : D → List (Nat × Ob) → Nat → Prop} (hl : ds.length ≤ 18) (h : awp Go.Proofs.Tryz.prog T 18 nx lv132 (Go.Proofs.Tryz.f132.body.getD .skip) (fin Go.Proofs.Tryz.prog [.tmp 2] Q) ⟨prm 0 ds, os, nx⟩) : ACall Go.Proofs.Tryz.prog 132 ds os nx Q :=
  acall_intro hT.toS (fn := Go.Proofs.Tryz.f132) lv132 (by kernel_rfl) rfl rfl (by kernel_rfl) rfl hl rfl h
abbrev lv133 : Nat → Option (List Nat) := lvL [(0, [0, 1]), (1, [0, 1, 5]), (2, [0, 1, 5, 6]), (3, [0, 1, 6, 11]), (4, [12]), (5, [4]), (6, [4]), (7, [0, 1, 13]), (8, [4]), (9, [0, 1, 16]), (10, [4]), (11, [19]), (12, [4]), (13, [4])]
theorem ac133 {T : Tab} (hT : TabOk Go.Proofs.Tryz.prog T) {ds : List D} {os : List (Nat × Ob)} {nx : Nat} {Q : D → List (Nat × Ob) → Nat → Prop} (hl : ds.length ≤ 20) (h : awp Go.Proofs.Tryz.prog T 20 nx lv133 (Go.Proofs.Tryz.f133.body.getD .skip) (fin Go.Proofs.Tryz.prog [.tmp 4] Q) ⟨prm 0 ds, os, nx⟩) : ACall Go.Proofs.Tryz.prog 133 ds os nx Q :=
  acall_intro hT.toS (fn := Go.Proofs.Tryz.f133) lv133 (by kernel_rfl) rfl rfl (by kernel_rfl) rfl hl rfl h
abbrev lv136 : Nat → Option (List Nat) := lvL [(0, [0, 1]), (1, [0, 1, 6]), (2, [0, 1, 6, 12]), (3, [4, 5]), (4, [7, 8]), (5, [7, 21]), (6, [4, 5]), (7, [4, 5])]
theorem ac136 {T : Tab} (hT : TabOk Go.Proofs.Tryz.prog T) {ds : List D} {os : List (Nat × Ob)} {nx : Nat} {Q : D → List (Nat × Ob) → Nat → Prop} (hl : ds.length ≤ 23) (h : awp Go.Proofs.Tryz.prog T 23 nx lv136 (Go.Proofs.Tryz.f136.body.getD .skip) (fin Go.Proofs.Tryz.prog [.tmp 4, .tmp 5] Q) ⟨prm 0 ds, os, nx⟩) : ACall Go.Proofs.Tryz.prog 136 ds os nx Q :=
  acall_intro hT.toS (fn := Go.Proofs.Tryz.f136) lv136 (by kernel_rfl) rfl rfl (by kernel_rfl) rfl hl rfl h
abbrev lv137 : Nat → Option (List Nat) := lvL [(0, [0, 1, 2]), (1, [0, 1, 2, 8]), (2, [0, 1, 2, 8, 9, 10]), (3, [0, 1, 2, 8, 9, 10, 17]), (4, [0, 1, 2, 8, 9, 10, 11]), (5, [0, 1, 2, 8, 9, 10, 11, 31]), (6, [0, 1, 2, 8, 9, 10]), (7, [0, 1, 2, 8, 9, 10]), (8, [6, 7])]
theorem ac137 {T : Tab} (hT : TabOk Go.Proofs.Tryz.prog T) {ds : List D} {os : List (Nat × Ob)} {nx : Nat} {Q : D → List (Nat × Ob) → Nat → Prop} (hl : ds.length ≤ 49) (h : awp Go.Proofs.Tryz.prog T 49 nx lv137 (Go.Proofs.Tryz.f137.body.getD .skip) (fin Go.Proofs.Tryz.prog [.tmp 6, .tmp 7] Q) ⟨prm 0 ds, os, nx⟩) : ACall Go.Proofs.Tryz.prog 137 ds os nx Q :=
  acall_intro hT.toS (fn := Go.Proofs.Tryz.f137) lv137 (by kernel_rfl) rfl rfl (by kernel_rfl) rfl hl rfl h
abbrev lv138 : Nat → Option (List Nat) := lvL [(0, [1, 2]), (1, [4])]
theorem ac138 {T : Tab} (hT : TabOk Go.Proofs.Tryz.prog T) {ds : List D} {os : List (Nat × Ob)} {nx : Nat} {Q : D → List (Nat × Ob) → Nat → Prop} (hl : ds.length ≤ 9) (h : awp Go.Proofs.Tryz.prog T 9 nx lv138 (Go.Proofs.Tryz.f138.body.getD .skip) (fin Go.Proofs.Tryz.prog [.tmp 4] Q) ⟨prm 0 ds, os, nx⟩) : ACall Go.Proofs.Tryz.prog 138 ds os nx Q :=
  acall_intro hT.toS (fn := Go.Proofs.Tryz.f138) lv138 (by kernel_rfl) rfl rfl (by kernel_rfl) rfl hl rfl h
abbrev lv139 : Nat → Option (List Nat) := lvL [(0, [0, 1, 2]), (1, [0, 1, 2]), (2, [0, 1, 2, 7]), (3, [0, 1, 2, 7, 16]), (4, [6]), (5, [0, 1, 2, 7, 8]), (6, [0, 1, 2, 7, 8, 22]), (7, [6]), (8, [0, 1, 2, 7, 8, 31]), (9, [0, 1, 2, 7, 9]), (10, [0, 1, 7, 9]), (11, [9]), (12, [6]), (13, [0, 1, 2, 7, 8]), (14, [0, 1, 2, 7, 8, 68]), (15, [0, 1, 2]), (16, [0]), (17, [6]), (18, [0, 1, 7]), (19, [0]), (20, [6])]
@[go_sem] def us139_11 : List Nat := [0, 0, 0, 6, 15, 0, 0, 96, 255]
@[go_sem] def us139_15 : List Nat := [0, 0, 0, 6, 15, 0, 0, 96, 255]
theorem ac139 {T : Tab} (hT : TabOk Go.Proofs.Tryz.prog T) {ds : List D} {os : List (Nat × Ob)} {nx : Nat} {Q : D → List (Nat × Ob) → Nat → Prop} (hl : ds.length ≤ 95) (h : awp Go.Proofs.Tryz.prog T 95 nx lv139 (Go.Proofs.Tryz.f139.body.getD .skip) (fin Go.Proofs.Tryz.prog [.tmp 6] Q) ⟨prm 0 ds, os, nx⟩) : ACall Go.Proofs.Tryz.prog 139 ds os nx Q :=
  acall_intro hT.toS (fn := Go.Proofs.Tryz.f139) lv139 (by kernel_rfl) rfl rfl (by kernel_rfl) rfl hl rfl h
abbrev lv140 : Nat → Option (List Nat) := lvL [(0, [0]), (1, [0, 4]), (2, [2]), (3, [2])]
theorem ac140 {T : Tab} (hT : TabOk Go.Proofs.Tryz.prog T) {ds : List D} {os : List (Nat × Ob)} {nx : Nat} {Q : D → List (Nat × Ob) → Nat → Prop} (hl : ds.length ≤ 8) (h : awp Go.Proofs.Tryz.prog T 8 nx lv140 (Go.Proofs.Tryz.f140.body.getD .skip) (fin Go.Proofs.Tryz.prog [.tmp 2] Q) ⟨prm 0 ds, os, nx⟩) : ACall Go.Proofs.Tryz.prog 140 ds os nx Q :=
  acall_intro hT.toS (fn := Go.Proofs.Tryz.f140) lv140 (by kernel_rfl) rfl rfl (by kernel_rfl) rfl hl rfl h
abbrev lv141 : Nat → Option (List Nat) := lvL [(0, [0]), (1, [0, 4]), (2, [2]), (3, [2])]
theorem ac141 {T : Tab} (hT : TabOk Go.Proofs.Tryz.prog T) {ds : List D} {os : List (Nat × Ob)} {nx : Nat} {Q : D → List (Nat × Ob) → Nat → Prop} (hl : ds.length ≤ 8) (h : awp Go.Proofs.Tryz.prog T 8 nx lv141 (Go.Proofs.Tryz.f141.body.getD .skip) (fin Go.Proofs.Tryz.prog [.tmp 2] Q) ⟨prm 0 ds, os, nx⟩) : ACall Go.Proofs.Tryz.prog 141 ds os nx Q :=
  acall_intro hT.toS (fn := Go.Proofs.Tryz.f141) lv141 (by kernel_rfl) rfl rfl (by kernel_rfl) rfl hl rfl h
abbrev lv142 : Nat → Option (List Nat) := lvL [(0, [0]), (1, [0, 4]), (2, [2]), (3, [2])]
theorem ac142 {T : Tab} (hT : TabOk Go.Proofs.Tryz.prog T) {ds : List D} {os : List (Nat × Ob)} {nx : Nat} {Q : D → List (Nat × Ob) → Nat → Prop} (hl : ds.length ≤ 8) (h : awp Go.Proofs.Tryz.prog T 8 nx lv142 (Go.Proofs.Tryz.f142.body.getD .skip) (fin Go.Proofs.Tryz.prog [.tmp 2] Q) ⟨prm 0 ds, os, nx⟩) : ACall Go.Proofs.Tryz.prog 142 ds os nx Q :=
  acall_intro hT.toS (fn := Go.Proofs.Tryz.f142) lv142 (by kernel_rfl) rfl rfl (by kernel_rfl) rfl hl rfl h
abbrev lv143 : Nat → Option (List Nat) := lvL [(0, [0]), (1, [0, 4]), (2, [2]), (3, [2])]
theorem ac143 {T : Tab} (hT : TabOk Go.Proofs.Tryz.prog T) {ds : List D} {os : List (Nat × Ob)} {nx : Nat} {Q : D → List (Nat × Ob) → Nat → Prop} (hl : ds.length ≤ 8) (h : awp Go.Proofs.Tryz.prog T 8 nx lv143 (Go.Proofs.Tryz.f143.body.getD .skip) (fin Go.Proofs.Tryz.prog [.tmp 2] Q) ⟨prm 0 ds, os, nx⟩) : ACall Go.Proofs.Tryz.prog 143 ds os nx Q :=
  acall_intro hT.toS (fn := Go.Proofs.Tryz.f143) lv143 (by kernel_rfl) rfl rfl (by kernel_rfl) rfl hl rfl h
abbrev lv144 : Nat → Option (List Nat) := lvL [(0, [0]), (1, [0, 4]), (2, [2]), (3, [2])]
theorem ac144 {T : Tab} (hT : TabOk Go.Proofs.Tryz.prog T) {ds : List D} {os : List (Nat × Ob)} {nx : Nat} {Q : D → List (Nat × Ob) → Nat → Prop} (hl : ds.length ≤ 8) (h : awp Go.Proofs.Tryz.prog T 8 nx lv144 (Go.Proofs.Tryz.f144.body.getD .skip) (fin Go.Proofs.Tryz.prog [.tmp 2] Q) ⟨prm 0 ds, os, nx⟩) : ACall Go.Proofs.Tryz.prog 144 ds os nx Q :=
  acall_intro hT.toS (fn := Go.Proofs.Tryz.f144) lv144 (by kernel_rfl) rfl rfl (by kernel_rfl) rfl hl rfl h
abbrev lv145 : Nat → Option (List Nat) := lvL [(0, [1]), (1, [5, 6]), (2, [2, 3])]
theorem ac145 {T : Tab} (hT : TabOk Go.Proofs.Tryz.prog T) {ds : List D} {os : List (Nat × Ob)} {nx : Nat} {Q : D → List (Nat × Ob) → Nat → Prop} (hl : ds.length ≤ 15) (h : awp Go.Proofs.Tryz.prog T 15 nx lv145 (Go.Proofs.Tryz.f145.body.getD .skip) (fin Go.Proofs.Tryz.prog [.tmp 2, .tmp 3] Q) ⟨prm 0 ds, os, nx⟩) : ACall Go.Proofs.Tryz.prog 145 ds os nx Q :=
  acall_intro hT.toS (fn := Go.Proofs.Tryz.f145) lv145 (by kernel_rfl) rfl rfl (by kernel_rfl) rfl hl rfl h
abbrev lv148 : Nat → Option (List Nat) := lvL [(0, [0]), (1, [2])]
theorem ac148 {T : Tab} (hT : TabOk Go.Proofs.Tryz.prog T) {ds : List D} {os : List (Nat × Ob)} {nx : Nat} {Q : D → List (Nat × Ob) → Nat → Prop} (hl : ds.length ≤ 6) (h : awp Go.Proofs.Tryz.prog T 6 nx lv148 (Go.Proofs.Tryz.f148.body.getD .skip) (fin Go.Proofs.Tryz.prog [.tmp 2] Q) ⟨prm 0 ds, os, nx⟩) : ACall Go.Proofs.Tryz.prog 148 ds os nx Q :=
  acall_intro hT.toS (fn := Go.Proofs.Tryz.f148) lv148 (by kernel_rfl) rfl rfl (by kernel_rfl) rfl hl rfl h
abbrev lv170 : Nat → Option (List Nat) := lvL [(0, [0, 1]), (1, [0, 1, 6, 7]), (2, [6, 7, 14]), (3, [4, 5]), (4, [6, 20]), (5, [4, 5]), (6, [4, 5])]
theorem ac170 {T : Tab} (hT : TabOk Go.Proofs.Tryz.prog T) {ds : List D} {os : List (Nat × Ob)} {nx : Nat} {Q : D → List (Nat × Ob) → Nat → Prop} (hl : ds.length ≤ 24) (h : awp Go.Proofs.Tryz.prog T 24 nx lv170 (Go.Proofs.Tryz.f170.body.getD .skip) (fin Go.Proofs.Tryz.prog [.tmp 4, .tmp 5] Q) ⟨prm 0 ds, os, nx⟩) : ACall Go.Proofs.Tryz.prog 170 ds os nx Q :=
  acall_intro hT.toS (fn := Go.Proofs.Tryz.f170) lv170 (by kernel_rfl) rfl rfl (by kernel_rfl) rfl hl rfl h
abbrev lv171 : Nat → Option (List Nat) := lvL [(0, [0, 1]), (1, [0, 1, 7, 8]), (2, [0, 1, 7, 8, 9]), (3, [0, 1, 5, 7, 8]), (4, [0, 1, 5, 7, 8, 16]), (5, [4]), (6, [0, 1, 7, 8]), (7, [4])]
theorem ac171 {T : Tab} (hT : TabOk Go.Proofs.Tryz.prog T) {ds : List D} {os : List (Nat × Ob)} {nx : Nat} {Q : D → List (Nat × Ob) → Nat → Prop} (hl : ds.length ≤ 19) (h : awp Go.Proofs.Tryz.prog T 19 nx lv171 (Go.Proofs.Tryz.f171.body.getD .skip) (fin Go.Proofs.Tryz.prog [.tmp 4] Q) ⟨prm 0 ds, os, nx⟩) : ACall Go.Proofs.Tryz.prog 171 ds os nx Q :=
  acall_intro hT.toS (fn := Go.Proofs.Tryz.f171) lv171 (by kernel_rfl) rfl rfl (by kernel_rfl) rfl hl rfl h
abbrev lv172 : Nat → Option (List Nat) := lvL [(0, [1, 2]), (1, [3])]
theorem ac172 {T : Tab} (hT : TabOk Go.Proofs.Tryz.prog T) {ds : List D} {os : List (Nat × Ob)} {nx : Nat} {Q : D → List (Nat × Ob) → Nat → Prop} (hl : ds.length ≤ 8) (h : awp Go.Proofs.Tryz.prog T 8 nx lv172 (Go.Proofs.Tryz.f172.body.getD .skip) (fin Go.Proofs.Tryz.prog [.tmp 3] Q) ⟨prm 0 ds, os, nx⟩) : ACall Go.Proofs.Tryz.prog 172 ds os nx Q :=
  acall_intro hT.toS (fn := Go.Proofs.Tryz.f172) lv172 (by kernel_rfl) rfl rfl (by kernel_rfl) rfl hl rfl h
abbrev lv176 : Nat → Option (List Nat) := lvL [(0, [0]), (1, [2])]
theorem ac176 {T : Tab} (hT : TabOk Go.Proofs.Tryz.prog T) {ds : List D} {os : List (Nat × Ob)} {nx : Nat} {Q : D → List (Nat × Ob) → Nat → Prop} (hl : ds.length ≤ 6) (h : awp Go.Proofs.Tryz.prog T 6 nx lv176 (Go.Proofs.Tryz.f176.body.getD .skip) (fin Go.Proofs.Tryz.prog [.tmp 2] Q) ⟨prm 0 ds, os, nx⟩) : ACall Go.Proofs.Tryz.prog 176 ds os nx Q :=
  acall_intro hT.toS (fn := Go.Proofs.Tryz.f176) lv176 (by kernel_rfl) rfl rfl (by kernel_rfl) rfl hl rfl h
end Dm
namespace Dm
open Go Go.Proofs Go.IntWalk
theorem follows_mixed : Tryz.prog.follows .mixedOrders = true := by kernel_rfl
@[go_sem] def isnan_r (x : Nat) : D := .bool false
@[go_sem] abbrev n_isnan : FuncId := 176
@[go_sem] def isnan_T : Tab := []
theorem isnan_T_ok : TabOk Tryz.prog isnan_T := TabOk.nil
set_option maxRecDepth 8000 in
set_option maxHeartbeats 1000000 in
theorem isnan_ok (x : Nat)  : PureFn Tryz.prog 176 [.c (.int .u64 (x : Int))] (isnan_r x) := by
  refine .of (ac176 isnan_T_ok (Nat.le_of_ble_eq_true rfl) ?_)
  simp -implicitDefEqProofs only [cd_t, cd_f, cd_dec, cd_not, cd_and, cd_or, grd_tt, grd_ff, grd_tf, grd_ft, grd_dt, grd_df, grd_nt, grd_nf, go_sem, Go.Proofs.Tryz.f176, reduceIte, reduceCtorEq, Nat.reduceEqDiff, Nat.reduceAdd, Nat.reduceLeDiff, Nat.reduceSub, Nat.reduceMul, Nat.reduceLT, Nat.reduceShiftRight, Nat.reduceMod, Int.reduceLE, Int.reduceLT, Int.reduceToNat, decide_true, Bool.and_self, Bool.true_and, Ob.map.injEq, Ob.it.injEq, List.cons.injEq, true_and, and_true]
def sp_isnan : List D → Option (Prop × D × Fr)
  | [.c (.int .u64 z1)] => some (z1 = (z1.toNat : Int), isnan_r z1.toNat, [])
  | _ => none
attribute [go_sem] sp_isnan
theorem sp_isnan_ok : ∀ rs p r fr, sp_isnan rs = some (p, r, fr) → p → FnOk Tryz.prog 176 rs r fr := by
  intro rs p r fr h hp
  unfold sp_isnan at h
  split at h <;> cases h
  have hc0 := hp
  rename_i z1
  obtain ⟨z1, rfl⟩ : ∃ m : Nat, z1 = m := ⟨_, hc0⟩
  simp only [Int.toNat_natCast]
  exact isnan_ok z1
@[go_sem] def cmp_r (x : Nat) (y : Nat) : D := .int .i64 (cmpS x y)
@[go_sem] abbrev n_cmp : FuncId := 133
@[go_sem] def cmp_T : Tab := [(176, sp_isnan)]
theorem cmp_T_ok : TabOk Tryz.prog cmp_T := (TabOk.cons sp_isnan_ok TabOk.nil)
set_option maxRecDepth 8000 in
set_option maxHeartbeats 1000000 in
theorem cmp_ok (x : Nat) (y : Nat)  : PureFn Tryz.prog 133 [.c (.int .u64 (x : Int)), .c (.int .u64 (y : Int))] (cmp_r x y) := by
  refine .of (ac133 cmp_T_ok (Nat.le_of_ble_eq_true rfl) ?_)
  simp -implicitDefEqProofs only [cd_t, cd_f, cd_dec, cd_not, cd_and, cd_or, grd_tt, grd_ff, grd_tf, grd_ft, grd_dt, grd_df, grd_nt, grd_nf, go_sem, Go.Proofs.Tryz.f133, reduceIte, reduceCtorEq, Nat.reduceEqDiff, Nat.reduceAdd, Nat.reduceLeDiff, Nat.reduceSub, Nat.reduceMul, Nat.reduceLT, Nat.reduceShiftRight, Nat.reduceMod, Int.reduceLE, Int.reduceLT, Int.reduceToNat, decide_true, Bool.and_self, Bool.true_and, Ob.map.injEq, Ob.it.injEq, List.cons.injEq, true_and, and_true]
  refine ⟨fun h => ?_, fun h => ⟨fun h1 => ?_, fun h1 => ?_⟩⟩ <;> simp [cmpS] <;> omega
def sp_cmp : List D → Option (Prop × D × Fr)
  | [.c (.int .u64 z2), .c (.int .u64 z3)] => some (z2 = (z2.toNat : Int) ∧ z3 = (z3.toNat : Int), cmp_r z2.toNat z3.toNat, [])
  | _ => none
attribute [go_sem] sp_cmp
theorem sp_cmp_ok : ∀ rs p r fr, sp_cmp rs = some (p, r, fr) → p → FnOk Tryz.prog 133 rs r fr := by
  intro rs p r fr h hp
  unfold sp_cmp at h
  split at h <;> cases h
  obtain ⟨hc0, hc1⟩ := hp
  rename_i z2 z3
  obtain ⟨z2, rfl⟩ : ∃ m : Nat, z2 = m := ⟨_, hc0⟩
  obtain ⟨z3, rfl⟩ : ∃ m : Nat, z3 = m := ⟨_, hc1⟩
  simp only [Int.toNat_natCast]
  exact cmp_ok z2 z3
def orS (l : List Int) : Int := (l.find? fun x => decide (¬ x = 0)).getD 0
@[go_sem] def cmpor_r (l : List Int) : D := .int .i64 (orS l)
@[go_sem] abbrev n_cmpor : FuncId := 132
@[go_sem] def cmpor_T : Tab := []
theorem cmpor_T_ok : TabOk Tryz.prog cmpor_T := TabOk.nil
set_option maxRecDepth 8000 in
set_option maxHeartbeats 1000000 in
theorem cmpor_ok (l : List Int)  : PureFn Tryz.prog 132 [.sl (i64s l)] (cmpor_r l) := by
  refine .of (ac132 cmpor_T_ok (Nat.le_of_ble_eq_true rfl) ?_)
  simp -implicitDefEqProofs only [cd_t, cd_f, cd_dec, cd_not, cd_and, cd_or, grd_tt, grd_ff, grd_tf, grd_ft, grd_dt, grd_df, grd_nt, grd_nf, go_sem, Go.Proofs.Tryz.f132, reduceIte, reduceCtorEq, Nat.reduceEqDiff, Nat.reduceAdd, Nat.reduceLeDiff, Nat.reduceSub, Nat.reduceMul, Nat.reduceLT, Nat.reduceShiftRight, Nat.reduceMod, Int.reduceLE, Int.reduceLT, Int.reduceToNat, decide_true, Bool.and_self, Bool.true_and, Ob.map.injEq, Ob.it.injEq, List.cons.injEq, true_and, and_true]
  refine fun hl => SWp.loop (ι := { i : Nat // i ≤ l.length ∧ ∀ j, j < i → l.getD j default = 0 }) (fun i => ⟨[(3, .int .i64 0), (6, .sl (i64s l)), (7, .int .i64 l.length), (8, .int .i64 i.1)], [], 0⟩) (fun i => l.length - i.1) ⟨0, by simp⟩ ?_ ?_
  · simp [go_sem]
  · rintro ⟨i, hi, hall⟩
    refine awp_sound cmpor_T_ok.toS lv132 _ _ _ rfl ?_
    simp -implicitDefEqProofs only [cd_t, cd_f, cd_dec, cd_not, cd_and, cd_or, grd_tt, grd_ff, grd_tf, grd_ft, grd_dt, grd_df, grd_nt, grd_nf, go_sem, reduceIte, reduceCtorEq, Nat.reduceEqDiff, Nat.reduceAdd, Nat.reduceLeDiff, Nat.reduceSub, Nat.reduceMul, Nat.reduceLT, Nat.reduceShiftRight, Nat.reduceMod, Int.reduceLE, Int.reduceLT, Int.reduceToNat, decide_true, Bool.and_self, Bool.true_and, Ob.map.injEq, Ob.it.injEq, List.cons.injEq, true_and, and_true]
    refine ⟨fun h => ⟨by omega, fun h1 => ⟨⟨i + 1, by omega, fun j hj => ?_⟩, by dsimp only; omega, i64_in _ (by omega)⟩, fun h1 => ?_⟩, fun h => ?_⟩
    · by_cases hji : j = i
      · subst hji; exact h1
      · exact hall j (by omega)
    · have hi' : i < l.length := by omega
      have : l.find? (fun x => decide (¬ x = 0)) = some (l.getD i default) := by
        rw [List.find?_eq_some_iff_getElem]
        refine ⟨by simpa using h1, i, hi', (getD_lt hi').symm, fun j hj => ?_⟩
        have := hall j hj
        rw [getD_lt (by omega)] at this
        simpa using this
      rw [orS, this]; rfl
    · have : l.find? (fun x => decide (¬ x = 0)) = none := by
        rw [List.find?_eq_none]
        intro x hx
        obtain ⟨j, hj, rfl⟩ := mem_getD.1 hx
        simpa using hall j (by omega)
      rw [orS, this]; rfl
def sp_cmpor : List D → Option (Prop × D × Fr)
  | [.c (.sl z4)] => some (z4 = i64s (di64s z4), cmpor_r (di64s z4), [])
  | _ => none
attribute [go_sem] sp_cmpor
theorem sp_cmpor_ok : ∀ rs p r fr, sp_cmpor rs = some (p, r, fr) → p → FnOk Tryz.prog 132 rs r fr := by
  intro rs p r fr h hp
  unfold sp_cmpor at h
  split at h <;> cases h
  have hc0 := hp
  rename_i z4
  obtain ⟨z4, rfl⟩ : ∃ m, z4 = i64s m := ⟨_, hc0⟩
  simp only [di64s_i64s]
  exact cmpor_ok z4
def maxS (l : List Nat) : Nat := l.foldl max 0
theorem maxS_succ {l : List Nat} {i : Nat} (h : i < l.length) : maxS (l.take (i + 1)) = max (maxS (l.take i)) (l.getD i default) := by
  rw [take_succ h, maxS, List.foldl_append]; rfl
@[go_sem] def smax_r (l : List Nat) : D := .int .u64 (maxS l : Int)
@[go_sem] abbrev n_smax : FuncId := 70
@[go_sem] def smax_T : Tab := [(176, sp_isnan)]
theorem smax_T_ok : TabOk Tryz.prog smax_T := (TabOk.cons sp_isnan_ok TabOk.nil)
set_option maxRecDepth 8000 in
set_option maxHeartbeats 1000000 in
theorem smax_ok (l : List Nat) (h : 0 < l.length) : PureFn Tryz.prog 70 [.sl (u64s l)] (smax_r l) := by
  refine .of (ac70 smax_T_ok (Nat.le_of_ble_eq_true rfl) ?_)
  simp -implicitDefEqProofs only [cd_t, cd_f, cd_dec, cd_not, cd_and, cd_or, grd_tt, grd_ff, grd_tf, grd_ft, grd_dt, grd_df, grd_nt, grd_nf, go_sem, Go.Proofs.Tryz.f70, reduceIte, reduceCtorEq, Nat.reduceEqDiff, Nat.reduceAdd, Nat.reduceLeDiff, Nat.reduceSub, Nat.reduceMul, Nat.reduceLT, Nat.reduceShiftRight, Nat.reduceMod, Int.reduceLE, Int.reduceLT, Int.reduceToNat, decide_true, Bool.and_self, Bool.true_and, Ob.map.injEq, Ob.it.injEq, List.cons.injEq, true_and, and_true]
  refine fun hl => ⟨fun h1 => by omega, fun h1 => ⟨by omega, ?_⟩⟩
  refine SWp.loop (ι := { i : Nat // 0 < i ∧ i ≤ l.length }) (fun i => ⟨[(0, .sl (u64s l)), (3, .int .u64 (maxS (l.take i.1) : Nat)), (4, .int .i64 i.1)], [], 0⟩) (fun i => l.length - i.1) ⟨1, by omega⟩ ?_ ?_
  · have : maxS (l.take 1) = l.getD 0 default := by rw [maxS_succ h]; simp [maxS]
    simp [go_sem, this]
  · rintro ⟨i, hi0, hi⟩
    refine awp_sound smax_T_ok.toS lv70 _ _ _ rfl ?_
    simp -implicitDefEqProofs only [cd_t, cd_f, cd_dec, cd_not, cd_and, cd_or, grd_tt, grd_ff, grd_tf, grd_ft, grd_dt, grd_df, grd_nt, grd_nf, go_sem, reduceIte, reduceCtorEq, Nat.reduceEqDiff, Nat.reduceAdd, Nat.reduceLeDiff, Nat.reduceSub, Nat.reduceMul, Nat.reduceLT, Nat.reduceShiftRight, Nat.reduceMod, Int.reduceLE, Int.reduceLT, Int.reduceToNat, decide_true, Bool.and_self, Bool.true_and, Ob.map.injEq, Ob.it.injEq, List.cons.injEq, true_and, and_true]
    refine fun _ => ⟨fun h2 => ⟨by omega, ⟨i + 1, by omega, by omega⟩, by dsimp only; omega, ?_, i64_in _ (by omega)⟩, fun h2 => ?_⟩
    · rw [maxS_succ (by omega)]; omega
    · rw [List.take_of_length_le (by omega)]
@[go_sem] def smax_p (l : List Nat) : Prop := (0 < l.length)
def sp_smax : List D → Option (Prop × D × Fr)
  | [.c (.sl z5)] => some (z5 = u64s (du64s z5) ∧ smax_p (du64s z5), smax_r (du64s z5), [])
  | _ => none
attribute [go_sem] sp_smax
theorem sp_smax_ok : ∀ rs p r fr, sp_smax rs = some (p, r, fr) → p → FnOk Tryz.prog 70 rs r fr := by
  intro rs p r fr h hp
  unfold sp_smax at h
  split at h <;> cases h
  obtain ⟨hc0, hp⟩ := hp
  rename_i z5
  obtain ⟨z5, rfl⟩ : ∃ m, z5 = u64s m := ⟨_, hc0⟩
  simp only [du64s_u64s]
  simp only [du64s_u64s, smax_p] at hp
  exact smax_ok z5 hp
def monS (l : List Nat) : Int := if l.all (fun n => decide (n ≤ 4611686018427387904)) = true then 0 else 1
theorem max_all {l : List Nat} {m : Nat} : l.foldl max m ≤ 4611686018427387904 ↔ m ≤ 4611686018427387904 ∧ l.all (fun n => decide (n ≤ 4611686018427387904)) = true := by
  induction l generalizing m with
  | nil => simp
  | cons x l ih =>
    rw [List.foldl_cons, ih, List.all_cons]
    simp only [Bool.and_eq_true, decide_eq_true_eq, ← and_assoc]
    refine and_congr_left fun _ => ?_
    omega
@[go_sem] def moncheck_r (l : List Nat) : D := .int .i64 (monS l)
@[go_sem] abbrev n_moncheck : FuncId := 29
@[go_sem] def moncheck_T : Tab := [(70, sp_smax)]
theorem moncheck_T_ok : TabOk Tryz.prog moncheck_T := (TabOk.cons sp_smax_ok TabOk.nil)
set_option maxRecDepth 8000 in
set_option maxHeartbeats 1000000 in
theorem moncheck_ok (l : List Nat)  : PureFn Tryz.prog 29 [.sl (u64s l)] (moncheck_r l) := by
  refine .of (ac29 moncheck_T_ok (Nat.le_of_ble_eq_true rfl) ?_)
  simp -implicitDefEqProofs only [cd_t, cd_f, cd_dec, cd_not, cd_and, cd_or, grd_tt, grd_ff, grd_tf, grd_ft, grd_dt, grd_df, grd_nt, grd_nf, go_sem, Go.Proofs.Tryz.f29, reduceIte, reduceCtorEq, Nat.reduceEqDiff, Nat.reduceAdd, Nat.reduceLeDiff, Nat.reduceSub, Nat.reduceMul, Nat.reduceLT, Nat.reduceShiftRight, Nat.reduceMod, Int.reduceLE, Int.reduceLT, Int.reduceToNat, decide_true, Bool.and_self, Bool.true_and, Ob.map.injEq, Ob.it.injEq, List.cons.injEq, true_and, and_true]
  have hm := max_all (l := l) (m := 0)
  refine fun h => ⟨fun h1 => ⟨by omega, fun h2 => ?_, fun h2 => ?_⟩, fun h1 => ?_⟩
  · rw [monS, if_neg]; intro h3; have := hm.2 ⟨by omega, h3⟩; unfold maxS at h2; omega
  · rw [monS, if_pos]; unfold maxS at h2; exact (hm.1 (by omega)).2
  · have : l = [] := List.eq_nil_of_length_eq_zero (by omega)
    subst this; rfl
def sp_moncheck : List D → Option (Prop × D × Fr)
  | [.c (.sl z6)] => some (z6 = u64s (du64s z6), moncheck_r (du64s z6), [])
  | _ => none
attribute [go_sem] sp_moncheck
theorem sp_moncheck_ok : ∀ rs p r fr, sp_moncheck rs = some (p, r, fr) → p → FnOk Tryz.prog 29 rs r fr := by
  intro rs p r fr h hp
  unfold sp_moncheck at h
  split at h <;> cases h
  have hc0 := hp
  rename_i z6
  obtain ⟨z6, rfl⟩ : ∃ m, z6 = u64s m := ⟨_, hc0⟩
  simp only [du64s_u64s]
  exact moncheck_ok z6
def addM (l : List Nat) : Nat × Int := if monS l = 0 then (if l.sum ≤ 4611686018427387904 then (l.sum, 0) else (0, 8)) else (0, 1)
theorem sum_take {l : List Nat} {i : Nat} (h : i < l.length) : (l.take (i + 1)).sum = (l.take i).sum + l.getD i default := by
  rw [take_succ h]; simp
theorem sum_le {l : List Nat} {i : Nat} : (l.take i).sum ≤ l.sum := by
  conv => rhs; rw [← List.take_append_drop i l]
  rw [List.sum_append]
  omega
theorem monS_get {l : List Nat} (h : monS l = 0) {i : Nat} (hi : i < l.length) : l.getD i default ≤ 4611686018427387904 := by
  unfold monS at h
  split at h
  · rename_i h1
    have := List.all_eq_true.1 h1 _ (mem_getD.2 ⟨i, hi, rfl⟩)
    simpa using this
  · cases h
theorem monS_1 {l : List Nat} (h : ¬ monS l = 0) : monS l = 1 := by
  unfold monS at *; split <;> simp_all
@[go_sem] def monadd_r (l : List Nat) : D := .tup [.int .u64 ((addM l).1 : Int), .int .i64 (addM l).2]
@[go_sem] abbrev n_monadd : FuncId := 31
@[go_sem] def monadd_T : Tab := [(29, sp_moncheck)]
theorem monadd_T_ok : TabOk Tryz.prog monadd_T := (TabOk.cons sp_moncheck_ok TabOk.nil)
set_option maxRecDepth 8000 in
set_option maxHeartbeats 1000000 in
theorem monadd_ok (l : List Nat)  : PureFn Tryz.prog 31 [.sl (u64s l)] (monadd_r l) := by
  refine .of (ac31 monadd_T_ok (Nat.le_of_ble_eq_true rfl) ?_)
  simp -implicitDefEqProofs only [cd_t, cd_f, cd_dec, cd_not, cd_and, cd_or, grd_tt, grd_ff, grd_tf, grd_ft, grd_dt, grd_df, grd_nt, grd_nf, go_sem, Go.Proofs.Tryz.f31, reduceIte, reduceCtorEq, Nat.reduceEqDiff, Nat.reduceAdd, Nat.reduceLeDiff, Nat.reduceSub, Nat.reduceMul, Nat.reduceLT, Nat.reduceShiftRight, Nat.reduceMod, Int.reduceLE, Int.reduceLT, Int.reduceToNat, decide_true, Bool.and_self, Bool.true_and, Ob.map.injEq, Ob.it.injEq, List.cons.injEq, true_and, and_true]
  refine ⟨fun h hl => ?_, fun h => ?_⟩
  · refine SWp.loop (ι := { i : Nat // i ≤ l.length ∧ (l.take i).sum ≤ 4611686018427387904 }) (fun i => ⟨[(2, .int .u64 ((l.take i.1).sum : Nat)), (11, .sl (u64s l)), (12, .int .i64 l.length), (13, .int .i64 i.1)], [], 0⟩) (fun i => l.length - i.1) ⟨0, by simp⟩ ?_ ?_
    · simp [go_sem]
    · rintro ⟨i, hi, hs⟩
      refine awp_sound monadd_T_ok.toS lv31 _ _ _ rfl ?_
      simp -implicitDefEqProofs only [cd_t, cd_f, cd_dec, cd_not, cd_and, cd_or, grd_tt, grd_ff, grd_tf, grd_ft, grd_dt, grd_df, grd_nt, grd_nf, go_sem, reduceIte, reduceCtorEq, Nat.reduceEqDiff, Nat.reduceAdd, Nat.reduceLeDiff, Nat.reduceSub, Nat.reduceMul, Nat.reduceLT, Nat.reduceShiftRight, Nat.reduceMod, Int.reduceLE, Int.reduceLT, Int.reduceToNat, decide_true, Bool.and_self, Bool.true_and, Ob.map.injEq, Ob.it.injEq, List.cons.injEq, true_and, and_true]
      refine ⟨fun h1 => ?_, fun h1 => ?_⟩
      · have hi' : i < l.length := by omega
        have hg := monS_get h hi'
        have hst := sum_take hi'
        have hle := sum_le (l := l) (i := i + 1)
        rw [u64_in _ (by omega)]
        refine ⟨by omega, fun h2 => ?_, fun h2 => ⟨⟨i + 1, by omega, by omega⟩, by dsimp only; omega, by dsimp only; omega, i64_in _ (by omega)⟩⟩
        rw [addM, if_pos h, if_neg (by omega)]; exact ⟨rfl, rfl⟩
      · rw [List.take_of_length_le (by omega)] at hs ⊢
        rw [addM, if_pos h, if_pos hs]; exact ⟨rfl, rfl⟩
  · rw [addM, if_neg h]
    exact ⟨rfl, monS_1 h⟩
def sp_monadd : List D → Option (Prop × D × Fr)
  | [.c (.sl z7)] => some (z7 = u64s (du64s z7), monadd_r (du64s z7), [])
  | _ => none
attribute [go_sem] sp_monadd
theorem sp_monadd_ok : ∀ rs p r fr, sp_monadd rs = some (p, r, fr) → p → FnOk Tryz.prog 31 rs r fr := by
  intro rs p r fr h hp
  unfold sp_monadd at h
  split at h <;> cases h
  have hc0 := hp
  rename_i z7
  obtain ⟨z7, rfl⟩ : ∃ m, z7 = u64s m := ⟨_, hc0⟩
  simp only [du64s_u64s]
  exact monadd_ok z7
theorem mon1 (n : Nat) : monS [n] = if n ≤ 4611686018427387904 then 0 else 1 := by simp [monS]
theorem mon1_0 {n : Nat} : monS [n] = 0 ↔ n ≤ 4611686018427387904 := by rw [mon1]; split <;> simp_all
theorem mon2 (a b : Nat) : monS [a, b] = if a ≤ 4611686018427387904 ∧ b ≤ 4611686018427387904 then 0 else 1 := by simp [monS]
theorem addM_0 {l : List Nat} : (addM l).2 = 0 ↔ (∀ x ∈ l, x ≤ 4611686018427387904) ∧ l.sum ≤ 4611686018427387904 := by
  unfold addM monS
  simp only [List.all_eq_true, decide_eq_true_eq]
  by_cases h : ∀ x ∈ l, x ≤ 4611686018427387904
  · rw [if_pos h]
    by_cases h2 : l.sum ≤ 4611686018427387904
    · simp [h2]; exact h
    · simp [h2]
  · rw [if_neg h]; simp [h]
theorem addM_1 {l : List Nat} (h : (addM l).2 = 0) : (addM l).1 = l.sum := by
  have h1 := addM_0.1 h
  unfold addM monS
  simp only [List.all_eq_true, decide_eq_true_eq]
  rw [if_pos h1.1, if_pos rfl, if_pos h1.2]
def subM (a b : Nat) : Nat × Int := if a ≤ 4611686018427387904 ∧ b ≤ 4611686018427387904 then (if b ≤ a then (a - b, 0) else (0, 9)) else (0, 1)
@[go_sem] def monsub_r (a : Nat) (b : Nat) : D := .tup [.int .u64 ((subM a b).1 : Int), .int .i64 (subM a b).2]
@[go_sem] abbrev n_monsub : FuncId := 170
@[go_sem] def monsub_T : Tab := [ovk 191, (29, sp_moncheck)]
theorem monsub_T_ok : TabOk Tryz.prog monsub_T := (TabOk.cons (ov_ok 191) (TabOk.cons sp_moncheck_ok TabOk.nil))
set_option maxRecDepth 8000 in
set_option maxHeartbeats 1000000 in
theorem monsub_ok (a : Nat) (b : Nat)  : PureFn Tryz.prog 170 [.c (.int .u64 (a : Int)), .c (.int .u64 (b : Int))] (monsub_r a b) := by
  refine .of (ac170 monsub_T_ok (Nat.le_of_ble_eq_true rfl) ?_)
  simp -implicitDefEqProofs only [cd_t, cd_f, cd_dec, cd_not, cd_and, cd_or, grd_tt, grd_ff, grd_tf, grd_ft, grd_dt, grd_df, grd_nt, grd_nf, go_sem, Go.Proofs.Tryz.f170, reduceIte, reduceCtorEq, Nat.reduceEqDiff, Nat.reduceAdd, Nat.reduceLeDiff, Nat.reduceSub, Nat.reduceMul, Nat.reduceLT, Nat.reduceShiftRight, Nat.reduceMod, Int.reduceLE, Int.reduceLT, Int.reduceToNat, decide_true, Bool.and_self, Bool.true_and, Ob.map.injEq, Ob.it.injEq, List.cons.injEq, true_and, and_true]
  refine ⟨⟨_, rfl, rfl, rfl, rfl, by kernel_rfl⟩, ?_⟩
  rw [mon2, subM]
  by_cases h : a ≤ 4611686018427387904 ∧ b ≤ 4611686018427387904
  · simp only [if_pos h]
    refine ⟨fun _ => ⟨fun h1 => ?_, fun h1 => ?_⟩, fun h1 => absurd trivial h1⟩
    · have : ¬ b ≤ a := fun h2 => by rw [if_neg (by omega)] at h1; omega
      rw [if_neg this]; exact ⟨rfl, rfl⟩
    · have : b ≤ a := by
        refine Classical.byContradiction fun h2 => ?_
        rw [if_pos (by omega)] at h1; omega
      rw [if_pos this]; exact ⟨by dsimp only; omega, rfl⟩
  · simp only [if_neg h]
    refine ⟨fun h => ?_, fun _ => by simp⟩
    first | exact absurd h (by decide) | cases h
def sp_monsub : List D → Option (Prop × D × Fr)
  | [.c (.int .u64 z8), .c (.int .u64 z9)] => some (z8 = (z8.toNat : Int) ∧ z9 = (z9.toNat : Int), monsub_r z8.toNat z9.toNat, [])
  | _ => none
attribute [go_sem] sp_monsub
theorem sp_monsub_ok : ∀ rs p r fr, sp_monsub rs = some (p, r, fr) → p → FnOk Tryz.prog 170 rs r fr := by
  intro rs p r fr h hp
  unfold sp_monsub at h
  split at h <;> cases h
  obtain ⟨hc0, hc1⟩ := hp
  rename_i z8 z9
  obtain ⟨z8, rfl⟩ : ∃ m : Nat, z8 = m := ⟨_, hc0⟩
  obtain ⟨z9, rfl⟩ : ∃ m : Nat, z9 = m := ⟨_, hc1⟩
  simp only [Int.toNat_natCast]
  exact monsub_ok z8 z9
end Dm
