import Derived.Test.YthcioaapafehhaaGreatDoorP3

set_option linter.unusedSimpArgs false
set_option linter.unusedVariables false
set_option linter.unusedSectionVars false
namespace Dm
set_option maxRecDepth 20000
def lvL (l : List (Nat × List Nat)) (i : Nat) : Option (List Nat) := lk i l
@[go_sem] theorem lvL_eq (l : List (Nat × List Nat)) (i : Nat) : lvL l i = lk i l := rfl
abbrev lv6 : Nat → Option (List Nat) := lvL [(0, [2, 3, 4, 5, 6]), (1, [2, 3, 4, 5, 6, 25]), (2, [10]), (3, [2, 3, 4, 5, 6, 33]), (4, [10]), (5, [2, 3, 4, 5, 6, 11, 12]), (6, [2, 3, 4, 5, 6, 11, 42]), (7, [10]), (8, [2, 3, 4, 5, 6, 11, 13, 14]), (9, [2, 3, 4, 5, 6, 11, 13, 52]), (10, [2, 3, 4, 5, 6, 11, 15, 16]), (11, [2, 3, 4, 5, 6, 11, 83]), (12, [10]), (13, [2, 4, 6, 11, 17, 18, 19]), (14, [2, 4, 6, 11, 17, 18, 93]), (15, [10]), (16, [2, 4, 6, 11, 17, 18, 20, 21]), (17, [4, 6, 17, 18, 131]), (18, [10]), (19, [4, 6, 17]), (20, [22, 23]), (21, [10])]
theorem ac6 {T : Tab} (hT : TabOk Go.Proofs.Tryz.prog T) {ds : List D} {os : List (Nat × Ob)} {nx : Nat} {Q : D → List (Nat × Ob) → Nat → Prop} (hl : ds.length ≤ 146) (h : awp Go.Proofs.Tryz.prog T 146 nx lv6 (Go.Proofs.Tryz.f6.body.getD .skip) (fin Go.Proofs.Tryz.prog [.tmp 10] Q) ⟨prm 0 ds, os, nx⟩) : ACall Go.Proofs.Tryz.prog 6 ds os nx Q :=
  acall_intro hT.toS (fn := Go.Proofs.Tryz.f6) lv6 (by kernel_rfl) rfl rfl (by kernel_rfl) rfl hl rfl h
abbrev lv8 : Nat → Option (List Nat) := lvL [(0, []), (1, [1, 2, 3]), (2, [1, 2, 25]), (3, [0]), (4, [1, 4, 5, 6]), (5, [1, 5, 6]), (6, [1, 5, 6, 7, 8]), (7, [1, 5, 6, 7, 8, 9, 10]), (8, [1, 5, 6, 7, 8, 10]), (9, [6, 7, 8, 10, 11, 12]), (10, [0])]
@[go_sem] def us8_4 : List Nat := [0, 1, 0, 4, 12, 0, 63, 127, 255, 255, 255, 0, 0, 6655, 15359, 32767]
theorem ac8 {T : Tab} (hT : TabOk Go.Proofs.Tryz.prog T) {ds : List D} {os : List (Nat × Ob)} {nx : Nat} {Q : D → List (Nat × Ob) → Nat → Prop} (hl : ds.length ≤ 82) (h : awp Go.Proofs.Tryz.prog T 82 nx lv8 (Go.Proofs.Tryz.f8.body.getD .skip) (fin Go.Proofs.Tryz.prog [.tmp 0] Q) ⟨prm 0 ds, os, nx⟩) : ACall Go.Proofs.Tryz.prog 8 ds os nx Q :=
  acall_intro hT.toS (fn := Go.Proofs.Tryz.f8) lv8 (by kernel_rfl) rfl rfl (by kernel_rfl) rfl hl rfl h
abbrev lv9 : Nat → Option (List Nat) := lvL [(0, [1]), (1, [2])]
theorem ac9 {T : Tab} (hT : TabOk Go.Proofs.Tryz.prog T) {ds : List D} {os : List (Nat × Ob)} {nx : Nat} {Q : D → List (Nat × Ob) → Nat → Prop} (hl : ds.length ≤ 20) (h : awp Go.Proofs.Tryz.prog T 20 nx lv9 (Go.Proofs.Tryz.f9.body.getD .skip) (fin Go.Proofs.Tryz.prog [.tmp 2] Q) ⟨prm 0 ds, os, nx⟩) : ACall Go.Proofs.Tryz.prog 9 ds os nx Q :=
  acall_intro hT.toS (fn := Go.Proofs.Tryz.f9) lv9 (by kernel_rfl) rfl rfl (by kernel_rfl) rfl hl rfl h
abbrev lv10 : Nat → Option (List Nat) := lvL [(0, [0, 2]), (1, [0, 2, 5, 6]), (2, [2, 5, 6, 17, 18, 19]), (3, [2, 5, 6, 17, 18, 19, 20]), (4, [2, 5, 6, 7, 8, 17, 18, 19]), (5, [2, 5, 6, 7, 9, 10, 11, 17, 18, 19]), (6, [2, 5, 6, 7, 9, 10, 11, 17, 18, 19, 35]), (7, [2, 3, 4]), (8, [2, 5, 6, 17, 18, 19]), (9, [2, 5, 6, 17, 18, 19]), (10, [2, 3, 4])]
@[go_sem] def us10_1 : List Nat := [0, 1, 0, 4, 12, 0, 35, 127]
@[go_sem] def us10_8 : List Nat := [0, 0, 0, 0, 4, 31, 63]
theorem ac10 {T : Tab} (hT : TabOk Go.Proofs.Tryz.prog T) {ds : List D} {os : List (Nat × Ob)} {nx : Nat} {Q : D → List (Nat × Ob) → Nat → Prop} (hl : ds.length ≤ 46) (h : awp Go.Proofs.Tryz.prog T 46 nx lv10 (Go.Proofs.Tryz.f10.body.getD .skip) (fin Go.Proofs.Tryz.prog [.cell 2 48, .tmp 3, .tmp 4] Q) ⟨prm 0 ds, os, nx⟩) : ACall Go.Proofs.Tryz.prog 10 ds os nx Q :=
  acall_intro hT.toS (fn := Go.Proofs.Tryz.f10) lv10 (by kernel_rfl) rfl rfl (by kernel_rfl) rfl hl rfl h
abbrev lv14 : Nat → Option (List Nat) := lvL [(0, [2, 3, 4]), (1, [3, 4, 8, 9]), (2, [3, 4, 8, 9, 23]), (3, [6, 7]), (4, [3, 4, 8, 9, 10]), (5, [3, 4, 8, 10, 35]), (6, [6, 7]), (7, [42, 43]), (8, [42, 43, 44]), (9, [12, 42, 43]), (10, [13, 14, 42, 43]), (11, [14, 42, 43, 57]), (12, [6, 7]), (13, [42, 43]), (14, [6, 7])]
theorem ac14 {T : Tab} (hT : TabOk Go.Proofs.Tryz.prog T) {ds : List D} {os : List (Nat × Ob)} {nx : Nat} {Q : D → List (Nat × Ob) → Nat → Prop} (hl : ds.length ≤ 60) (h : awp Go.Proofs.Tryz.prog T 60 nx lv14 (Go.Proofs.Tryz.f14.body.getD .skip) (fin Go.Proofs.Tryz.prog [.tmp 6, .tmp 7] Q) ⟨prm 0 ds, os, nx⟩) : ACall Go.Proofs.Tryz.prog 14 ds os nx Q :=
  acall_intro hT.toS (fn := Go.Proofs.Tryz.f14) lv14 (by kernel_rfl) rfl rfl (by kernel_rfl) rfl hl rfl h
abbrev lv15 : Nat → Option (List Nat) := lvL [(0, [1]), (1, [2])]
theorem ac15 {T : Tab} (hT : TabOk Go.Proofs.Tryz.prog T) {ds : List D} {os : List (Nat × Ob)} {nx : Nat} {Q : D → List (Nat × Ob) → Nat → Prop} (hl : ds.length ≤ 28) (h : awp Go.Proofs.Tryz.prog T 28 nx lv15 (Go.Proofs.Tryz.f15.body.getD .skip) (fin Go.Proofs.Tryz.prog [.tmp 2] Q) ⟨prm 0 ds, os, nx⟩) : ACall Go.Proofs.Tryz.prog 15 ds os nx Q :=
  acall_intro hT.toS (fn := Go.Proofs.Tryz.f15) lv15 (by kernel_rfl) rfl rfl (by kernel_rfl) rfl hl rfl h
abbrev lv16 : Nat → Option (List Nat) := lvL [(0, [3, 4, 5, 6, 7]), (1, [3, 4, 5, 6, 7, 9, 10]), (2, [3, 4, 5, 6, 7, 9, 17]), (3, [6, 7, 8]), (4, [3, 4, 5, 6, 7, 9, 32]), (5, [6, 7, 8]), (6, [3, 4, 5, 6, 7, 10, 11]), (7, [3, 4, 5, 6, 7, 10, 11, 49]), (8, [6, 7, 8]), (9, [3, 4, 6, 7]), (10, [6, 7, 8])]
@[go_sem] def us16_9 : List Nat := [0, 1, 3, 0, 8, 31, 0, 63, 191, 511, 1023]
@[go_sem] def us16_10 : List Nat := [0, 0, 1, 7, 15]
theorem ac16 {T : Tab} (hT : TabOk Go.Proofs.Tryz.prog T) {ds : List D} {os : List (Nat × Ob)} {nx : Nat} {Q : D → List (Nat × Ob) → Nat → Prop} (hl : ds.length ≤ 64) (h : awp Go.Proofs.Tryz.prog T 64 nx lv16 (Go.Proofs.Tryz.f16.body.getD .skip) (fin Go.Proofs.Tryz.prog [.cell 6 43, .cell 7 26, .tmp 8] Q) ⟨prm 0 ds, os, nx⟩) : ACall Go.Proofs.Tryz.prog 16 ds os nx Q :=
  acall_intro hT.toS (fn := Go.Proofs.Tryz.f16) lv16 (by kernel_rfl) rfl rfl (by kernel_rfl) rfl hl rfl h
abbrev lv17 : Nat → Option (List Nat) := lvL [(0, [2, 3, 4, 6]), (1, [2, 3, 4, 6, 8, 9]), (2, [2, 3, 4, 6, 8, 21]), (3, [6, 7]), (4, [6, 7])]
theorem ac17 {T : Tab} (hT : TabOk Go.Proofs.Tryz.prog T) {ds : List D} {os : List (Nat × Ob)} {nx : Nat} {Q : D → List (Nat × Ob) → Nat → Prop} (hl : ds.length ≤ 31) (h : awp Go.Proofs.Tryz.prog T 31 nx lv17 (Go.Proofs.Tryz.f17.body.getD .skip) (fin Go.Proofs.Tryz.prog [.cell 6 64, .tmp 7] Q) ⟨prm 0 ds, os, nx⟩) : ACall Go.Proofs.Tryz.prog 17 ds os nx Q :=
  acall_intro hT.toS (fn := Go.Proofs.Tryz.f17) lv17 (by kernel_rfl) rfl rfl (by kernel_rfl) rfl hl rfl h
abbrev lv18 : Nat → Option (List Nat) := lvL [(0, [2, 3, 4]), (1, [2, 3, 4, 13]), (2, [4, 5]), (3, [2, 3, 4, 15]), (4, [2, 3, 4, 15, 16]), (5, [2, 3, 4, 15, 18]), (6, [2, 3, 4, 15, 20]), (7, [2, 3, 4, 15, 22]), (8, [2, 3, 4, 24]), (9, [4]), (10, [4]), (11, [4]), (12, [4]), (13, [4, 5])]
theorem ac18 {T : Tab} (hT : TabOk Go.Proofs.Tryz.prog T) {ds : List D} {os : List (Nat × Ob)} {nx : Nat} {Q : D → List (Nat × Ob) → Nat → Prop} (hl : ds.length ≤ 49) (h : awp Go.Proofs.Tryz.prog T 49 nx lv18 (Go.Proofs.Tryz.f18.body.getD .skip) (fin Go.Proofs.Tryz.prog [.tmp 4, .tmp 5] Q) ⟨prm 0 ds, os, nx⟩) : ACall Go.Proofs.Tryz.prog 18 ds os nx Q :=
  acall_intro hT.toS (fn := Go.Proofs.Tryz.f18) lv18 (by kernel_rfl) rfl rfl (by kernel_rfl) rfl hl rfl h
abbrev lv19 : Nat → Option (List Nat) := lvL [(0, [1, 2, 3, 6, 7]), (1, [1, 3, 6, 7, 9, 10]), (2, [1, 3, 6, 7, 9, 10, 22]), (3, [6, 7, 8]), (4, [6, 7, 8])]
@[go_sem] def us19_1 : List Nat := [0, 0, 0, 4, 12, 31, 63, 127, 127, 127, 255, 1535, 4095]
theorem ac19 {T : Tab} (hT : TabOk Go.Proofs.Tryz.prog T) {ds : List D} {os : List (Nat × Ob)} {nx : Nat} {Q : D → List (Nat × Ob) → Nat → Prop} (hl : ds.length ≤ 30) (h : awp Go.Proofs.Tryz.prog T 30 nx lv19 (Go.Proofs.Tryz.f19.body.getD .skip) (fin Go.Proofs.Tryz.prog [.cell 6 43, .cell 7 26, .tmp 8] Q) ⟨prm 0 ds, os, nx⟩) : ACall Go.Proofs.Tryz.prog 19 ds os nx Q :=
  acall_intro hT.toS (fn := Go.Proofs.Tryz.f19) lv19 (by kernel_rfl) rfl rfl (by kernel_rfl) rfl hl rfl h
abbrev lv21 : Nat → Option (List Nat) := lvL [(0, [1, 2, 4]), (1, [1, 2, 4, 6]), (2, [1, 2, 4, 6, 12]), (3, [4, 5]), (4, [2, 4, 7, 8]), (5, [2, 4, 7, 8, 23]), (6, [4, 5]), (7, [2, 4]), (8, [4, 5])]
theorem ac21 {T : Tab} (hT : TabOk Go.Proofs.Tryz.prog T) {ds : List D} {os : List (Nat × Ob)} {nx : Nat} {Q : D → List (Nat × Ob) → Nat → Prop} (hl : ds.length ≤ 30) (h : awp Go.Proofs.Tryz.prog T 30 nx lv21 (Go.Proofs.Tryz.f21.body.getD .skip) (fin Go.Proofs.Tryz.prog [.cell 4 48, .tmp 5] Q) ⟨prm 0 ds, os, nx⟩) : ACall Go.Proofs.Tryz.prog 21 ds os nx Q :=
  acall_intro hT.toS (fn := Go.Proofs.Tryz.f21) lv21 (by kernel_rfl) rfl rfl (by kernel_rfl) rfl hl rfl h
abbrev lv22 : Nat → Option (List Nat) := lvL [(0, [1, 2, 3, 6, 7]), (1, [6, 7, 8])]
theorem ac22 {T : Tab} (hT : TabOk Go.Proofs.Tryz.prog T) {ds : List D} {os : List (Nat × Ob)} {nx : Nat} {Q : D → List (Nat × Ob) → Nat → Prop} (hl : ds.length ≤ 16) (h : awp Go.Proofs.Tryz.prog T 16 nx lv22 (Go.Proofs.Tryz.f22.body.getD .skip) (fin Go.Proofs.Tryz.prog [.cell 6 48, .cell 7 26, .tmp 8] Q) ⟨prm 0 ds, os, nx⟩) : ACall Go.Proofs.Tryz.prog 22 ds os nx Q :=
  acall_intro hT.toS (fn := Go.Proofs.Tryz.f22) lv22 (by kernel_rfl) rfl rfl (by kernel_rfl) rfl hl rfl h
abbrev lv26 : Nat → Option (List Nat) := lvL [(0, [1, 2, 3, 6, 7]), (1, [6, 7, 8])]
theorem ac26 {T : Tab} (hT : TabOk Go.Proofs.Tryz.prog T) {ds : List D} {os : List (Nat × Ob)} {nx : Nat} {Q : D → List (Nat × Ob) → Nat → Prop} (hl : ds.length ≤ 16) (h : awp Go.Proofs.Tryz.prog T 16 nx lv26 (Go.Proofs.Tryz.f26.body.getD .skip) (fin Go.Proofs.Tryz.prog [.cell 6 48, .cell 7 26, .tmp 8] Q) ⟨prm 0 ds, os, nx⟩) : ACall Go.Proofs.Tryz.prog 26 ds os nx Q :=
  acall_intro hT.toS (fn := Go.Proofs.Tryz.f26) lv26 (by kernel_rfl) rfl rfl (by kernel_rfl) rfl hl rfl h
abbrev lv31 : Nat → Option (List Nat) := lvL [(0, [1]), (1, [20, 21]), (2, [20, 21, 22]), (3, [4, 20, 21]), (4, [4, 20, 21, 25]), (5, [2]), (6, [20, 21]), (7, [2])]
@[go_sem] def us31_1 : List Nat := [0, 1, 3, 0, 8, 31, 0, 64, 255, 0, 512, 2047, 0, 4096, 16383, 32767, 0]
theorem ac31 {T : Tab} (hT : TabOk Go.Proofs.Tryz.prog T) {ds : List D} {os : List (Nat × Ob)} {nx : Nat} {Q : D → List (Nat × Ob) → Nat → Prop} (hl : ds.length ≤ 28) (h : awp Go.Proofs.Tryz.prog T 28 nx lv31 (Go.Proofs.Tryz.f31.body.getD .skip) (fin Go.Proofs.Tryz.prog [.tmp 2] Q) ⟨prm 0 ds, os, nx⟩) : ACall Go.Proofs.Tryz.prog 31 ds os nx Q :=
  acall_intro hT.toS (fn := Go.Proofs.Tryz.f31) lv31 (by kernel_rfl) rfl rfl (by kernel_rfl) rfl hl rfl h
abbrev lv34 : Nat → Option (List Nat) := lvL [(0, [2, 3, 4]), (1, [2, 3, 4, 6]), (2, [3, 4, 6]), (3, [3, 4, 6]), (4, [4, 6]), (5, [4, 5])]
theorem ac34 {T : Tab} (hT : TabOk Go.Proofs.Tryz.prog T) {ds : List D} {os : List (Nat × Ob)} {nx : Nat} {Q : D → List (Nat × Ob) → Nat → Prop} (hl : ds.length ≤ 31) (h : awp Go.Proofs.Tryz.prog T 31 nx lv34 (Go.Proofs.Tryz.f34.body.getD .skip) (fin Go.Proofs.Tryz.prog [.cell 4 40, .tmp 5] Q) ⟨prm 0 ds, os, nx⟩) : ACall Go.Proofs.Tryz.prog 34 ds os nx Q :=
  acall_intro hT.toS (fn := Go.Proofs.Tryz.f34) lv34 (by kernel_rfl) rfl rfl (by kernel_rfl) rfl hl rfl h
abbrev lv35 : Nat → Option (List Nat) := lvL [(0, [0]), (1, [0])]
theorem ac35 {T : Tab} (hT : TabOk Go.Proofs.Tryz.prog T) {ds : List D} {os : List (Nat × Ob)} {nx : Nat} {Q : D → List (Nat × Ob) → Nat → Prop} (hl : ds.length ≤ 3) (h : awp Go.Proofs.Tryz.prog T 3 nx lv35 (Go.Proofs.Tryz.f35.body.getD .skip) (fin Go.Proofs.Tryz.prog [.cell 0 40] Q) ⟨prm 0 ds, os, nx⟩) : ACall Go.Proofs.Tryz.prog 35 ds os nx Q :=
  acall_intro hT.toS (fn := Go.Proofs.Tryz.f35) lv35 (by kernel_rfl) rfl rfl (by kernel_rfl) rfl hl rfl h
abbrev lv42 : Nat → Option (List Nat) := lvL [(0, [0, 1]), (1, [0, 6, 7]), (2, [0, 6, 7, 15]), (3, [4, 5]), (4, [4, 5])]
theorem ac42 {T : Tab} (hT : TabOk Go.Proofs.Tryz.prog T) {ds : List D} {os : List (Nat × Ob)} {nx : Nat} {Q : D → List (Nat × Ob) → Nat → Prop} (hl : ds.length ≤ 22) (h : awp Go.Proofs.Tryz.prog T 22 nx lv42 (Go.Proofs.Tryz.f42.body.getD .skip) (fin Go.Proofs.Tryz.prog [.tmp 4, .tmp 5] Q) ⟨prm 0 ds, os, nx⟩) : ACall Go.Proofs.Tryz.prog 42 ds os nx Q :=
  acall_intro hT.toS (fn := Go.Proofs.Tryz.f42) lv42 (by kernel_rfl) rfl rfl (by kernel_rfl) rfl hl rfl h
abbrev lv43 : Nat → Option (List Nat) := lvL [(0, [0, 1, 2]), (1, [3, 4])]
theorem ac43 {T : Tab} (hT : TabOk Go.Proofs.Tryz.prog T) {ds : List D} {os : List (Nat × Ob)} {nx : Nat} {Q : D → List (Nat × Ob) → Nat → Prop} (hl : ds.length ≤ 13) (h : awp Go.Proofs.Tryz.prog T 13 nx lv43 (Go.Proofs.Tryz.f43.body.getD .skip) (fin Go.Proofs.Tryz.prog [.tmp 3, .tmp 4] Q) ⟨prm 0 ds, os, nx⟩) : ACall Go.Proofs.Tryz.prog 43 ds os nx Q :=
  acall_intro hT.toS (fn := Go.Proofs.Tryz.f43) lv43 (by kernel_rfl) rfl rfl (by kernel_rfl) rfl hl rfl h
abbrev lv44 : Nat → Option (List Nat) := lvL [(0, [1, 3, 5]), (1, [1, 3, 5, 17]), (2, [6, 7]), (3, [5, 8, 9]), (4, [6, 7])]
@[go_sem] def us44_3 : List Nat := [0, 0, 0, 4, 12, 28, 0, 124, 255, 511, 1023, 1023, 2047, 8191]
theorem ac44 {T : Tab} (hT : TabOk Go.Proofs.Tryz.prog T) {ds : List D} {os : List (Nat × Ob)} {nx : Nat} {Q : D → List (Nat × Ob) → Nat → Prop} (hl : ds.length ≤ 38) (h : awp Go.Proofs.Tryz.prog T 38 nx lv44 (Go.Proofs.Tryz.f44.body.getD .skip) (fin Go.Proofs.Tryz.prog [.tmp 6, .tmp 7] Q) ⟨prm 0 ds, os, nx⟩) : ACall Go.Proofs.Tryz.prog 44 ds os nx Q :=
  acall_intro hT.toS (fn := Go.Proofs.Tryz.f44) lv44 (by kernel_rfl) rfl rfl (by kernel_rfl) rfl hl rfl h
abbrev lv45 : Nat → Option (List Nat) := lvL [(0, [0, 1]), (1, [2, 3])]
theorem ac45 {T : Tab} (hT : TabOk Go.Proofs.Tryz.prog T) {ds : List D} {os : List (Nat × Ob)} {nx : Nat} {Q : D → List (Nat × Ob) → Nat → Prop} (hl : ds.length ≤ 11) (h : awp Go.Proofs.Tryz.prog T 11 nx lv45 (Go.Proofs.Tryz.f45.body.getD .skip) (fin Go.Proofs.Tryz.prog [.tmp 2, .tmp 3] Q) ⟨prm 0 ds, os, nx⟩) : ACall Go.Proofs.Tryz.prog 45 ds os nx Q :=
  acall_intro hT.toS (fn := Go.Proofs.Tryz.f45) lv45 (by kernel_rfl) rfl rfl (by kernel_rfl) rfl hl rfl h
abbrev lv46 : Nat → Option (List Nat) := lvL [(0, [0, 3]), (1, [0, 3, 18]), (2, [4, 5]), (3, [0, 3, 6]), (4, [3, 6, 19, 20, 21]), (5, [3, 6, 19, 20, 21, 22]), (6, [3, 6, 8, 19, 20, 21]), (7, [3, 6, 9, 10, 19, 20, 21]), (8, [3, 6, 9, 10, 19, 20, 21, 32]), (9, [4, 5]), (10, [3, 6, 19, 20, 21]), (11, [3, 6, 19, 20, 21]), (12, [4, 5])]
theorem ac46 {T : Tab} (hT : TabOk Go.Proofs.Tryz.prog T) {ds : List D} {os : List (Nat × Ob)} {nx : Nat} {Q : D → List (Nat × Ob) → Nat → Prop} (hl : ds.length ≤ 40) (h : awp Go.Proofs.Tryz.prog T 40 nx lv46 (Go.Proofs.Tryz.f46.body.getD .skip) (fin Go.Proofs.Tryz.prog [.tmp 4, .tmp 5] Q) ⟨prm 0 ds, os, nx⟩) : ACall Go.Proofs.Tryz.prog 46 ds os nx Q :=
  acall_intro hT.toS (fn := Go.Proofs.Tryz.f46) lv46 (by kernel_rfl) rfl rfl (by kernel_rfl) rfl hl rfl h
abbrev lv47 : Nat → Option (List Nat) := lvL [(0, [0, 1, 2]), (1, [3, 4])]
theorem ac47 {T : Tab} (hT : TabOk Go.Proofs.Tryz.prog T) {ds : List D} {os : List (Nat × Ob)} {nx : Nat} {Q : D → List (Nat × Ob) → Nat → Prop} (hl : ds.length ≤ 18) (h : awp Go.Proofs.Tryz.prog T 18 nx lv47 (Go.Proofs.Tryz.f47.body.getD .skip) (fin Go.Proofs.Tryz.prog [.tmp 3, .tmp 4] Q) ⟨prm 0 ds, os, nx⟩) : ACall Go.Proofs.Tryz.prog 47 ds os nx Q :=
  acall_intro hT.toS (fn := Go.Proofs.Tryz.f47) lv47 (by kernel_rfl) rfl rfl (by kernel_rfl) rfl hl rfl h
abbrev lv48 : Nat → Option (List Nat) := lvL [(0, [0, 1, 2, 3]), (1, [11]), (2, [11, 21]), (3, [8, 9]), (4, [8, 9])]
theorem ac48 {T : Tab} (hT : TabOk Go.Proofs.Tryz.prog T) {ds : List D} {os : List (Nat × Ob)} {nx : Nat} {Q : D → List (Nat × Ob) → Nat → Prop} (hl : ds.length ≤ 25) (h : awp Go.Proofs.Tryz.prog T 25 nx lv48 (Go.Proofs.Tryz.f48.body.getD .skip) (fin Go.Proofs.Tryz.prog [.tmp 8, .tmp 9] Q) ⟨prm 0 ds, os, nx⟩) : ACall Go.Proofs.Tryz.prog 48 ds os nx Q :=
  acall_intro hT.toS (fn := Go.Proofs.Tryz.f48) lv48 (by kernel_rfl) rfl rfl (by kernel_rfl) rfl hl rfl h
abbrev lv49 : Nat → Option (List Nat) := lvL [(0, [1]), (1, [2])]
theorem ac49 {T : Tab} (hT : TabOk Go.Proofs.Tryz.prog T) {ds : List D} {os : List (Nat × Ob)} {nx : Nat} {Q : D → List (Nat × Ob) → Nat → Prop} (hl : ds.length ≤ 43) (h : awp Go.Proofs.Tryz.prog T 43 nx lv49 (Go.Proofs.Tryz.f49.body.getD .skip) (fin Go.Proofs.Tryz.prog [.tmp 2] Q) ⟨prm 0 ds, os, nx⟩) : ACall Go.Proofs.Tryz.prog 49 ds os nx Q :=
  acall_intro hT.toS (fn := Go.Proofs.Tryz.f49) lv49 (by kernel_rfl) rfl rfl (by kernel_rfl) rfl hl rfl h
abbrev lv50 : Nat → Option (List Nat) := lvL [(0, [1]), (1, [1, 6, 7, 8]), (2, [1, 6, 7, 8, 9]), (3, [1, 4, 6, 7, 8]), (4, [1, 6, 7, 8, 15]), (5, [2]), (6, [1, 6, 7, 8]), (7, [2])]
theorem ac50 {T : Tab} (hT : TabOk Go.Proofs.Tryz.prog T) {ds : List D} {os : List (Nat × Ob)} {nx : Nat} {Q : D → List (Nat × Ob) → Nat → Prop} (hl : ds.length ≤ 21) (h : awp Go.Proofs.Tryz.prog T 21 nx lv50 (Go.Proofs.Tryz.f50.body.getD .skip) (fin Go.Proofs.Tryz.prog [.tmp 2] Q) ⟨prm 0 ds, os, nx⟩) : ACall Go.Proofs.Tryz.prog 50 ds os nx Q :=
  acall_intro hT.toS (fn := Go.Proofs.Tryz.f50) lv50 (by kernel_rfl) rfl rfl (by kernel_rfl) rfl hl rfl h
abbrev lv51 : Nat → Option (List Nat) := lvL [(0, [0]), (1, [0, 5, 6, 7]), (2, [0, 5, 6, 7, 8]), (3, [0, 4, 5, 6, 7]), (4, [0, 5, 6, 7, 44]), (5, [2]), (6, [0, 5, 6, 7]), (7, [2])]
theorem ac51 {T : Tab} (hT : TabOk Go.Proofs.Tryz.prog T) {ds : List D} {os : List (Nat × Ob)} {nx : Nat} {Q : D → List (Nat × Ob) → Nat → Prop} (hl : ds.length ≤ 59) (h : awp Go.Proofs.Tryz.prog T 59 nx lv51 (Go.Proofs.Tryz.f51.body.getD .skip) (fin Go.Proofs.Tryz.prog [.tmp 2] Q) ⟨prm 0 ds, os, nx⟩) : ACall Go.Proofs.Tryz.prog 51 ds os nx Q :=
  acall_intro hT.toS (fn := Go.Proofs.Tryz.f51) lv51 (by kernel_rfl) rfl rfl (by kernel_rfl) rfl hl rfl h
abbrev lv52 : Nat → Option (List Nat) := lvL [(0, [1]), (1, [1, 4]), (2, [1, 4, 9]), (3, [2, 3]), (4, [1, 5]), (5, [5, 21]), (6, [5]), (7, [2, 3])]
theorem ac52 {T : Tab} (hT : TabOk Go.Proofs.Tryz.prog T) {ds : List D} {os : List (Nat × Ob)} {nx : Nat} {Q : D → List (Nat × Ob) → Nat → Prop} (hl : ds.length ≤ 26) (h : awp Go.Proofs.Tryz.prog T 26 nx lv52 (Go.Proofs.Tryz.f52.body.getD .skip) (fin Go.Proofs.Tryz.prog [.tmp 2, .tmp 3] Q) ⟨prm 0 ds, os, nx⟩) : ACall Go.Proofs.Tryz.prog 52 ds os nx Q :=
  acall_intro hT.toS (fn := Go.Proofs.Tryz.f52) lv52 (by kernel_rfl) rfl rfl (by kernel_rfl) rfl hl rfl h
abbrev lv53 : Nat → Option (List Nat) := lvL [(0, [1]), (1, [1, 3]), (2, [23]), (3, [2]), (4, [2])]
theorem ac53 {T : Tab} (hT : TabOk Go.Proofs.Tryz.prog T) {ds : List D} {os : List (Nat × Ob)} {nx : Nat} {Q : D → List (Nat × Ob) → Nat → Prop} (hl : ds.length ≤ 24) (h : awp Go.Proofs.Tryz.prog T 24 nx lv53 (Go.Proofs.Tryz.f53.body.getD .skip) (fin Go.Proofs.Tryz.prog [.tmp 2] Q) ⟨prm 0 ds, os, nx⟩) : ACall Go.Proofs.Tryz.prog 53 ds os nx Q :=
  acall_intro hT.toS (fn := Go.Proofs.Tryz.f53) lv53 (by kernel_rfl) rfl rfl (by kernel_rfl) rfl hl rfl h
abbrev lv54 : Nat → Option (List Nat) := lvL [(0, [1]), (1, [4]), (2, [2])]
theorem ac54 {T : Tab} (hT : TabOk Go.Proofs.Tryz.prog T) {ds : List D} {os : List (Nat × Ob)} {nx : Nat} {Q : D → List (Nat × Ob) → Nat → Prop} (hl : ds.length ≤ 11) (h : awp Go.Proofs.Tryz.prog T 11 nx lv54 (Go.Proofs.Tryz.f54.body.getD .skip) (fin Go.Proofs.Tryz.prog [.tmp 2] Q) ⟨prm 0 ds, os, nx⟩) : ACall Go.Proofs.Tryz.prog 54 ds os nx Q :=
  acall_intro hT.toS (fn := Go.Proofs.Tryz.f54) lv54 (by kernel_rfl) rfl rfl (by kernel_rfl) rfl hl rfl h
abbrev lv55 : Nat → Option (List Nat) := lvL [(0, [1, 2, 3, 6]), (1, [1, 2, 3, 6, 10]), (2, [6, 7, 8]), (3, [6, 7, 8])]
theorem ac55 {T : Tab} (hT : TabOk Go.Proofs.Tryz.prog T) {ds : List D} {os : List (Nat × Ob)} {nx : Nat} {Q : D → List (Nat × Ob) → Nat → Prop} (hl : ds.length ≤ 20) (h : awp Go.Proofs.Tryz.prog T 20 nx lv55 (Go.Proofs.Tryz.f55.body.getD .skip) (fin Go.Proofs.Tryz.prog [.cell 6 43, .tmp 7, .tmp 8] Q) ⟨prm 0 ds, os, nx⟩) : ACall Go.Proofs.Tryz.prog 55 ds os nx Q :=
  acall_intro hT.toS (fn := Go.Proofs.Tryz.f55) lv55 (by kernel_rfl) rfl rfl (by kernel_rfl) rfl hl rfl h
abbrev lv56 : Nat → Option (List Nat) := lvL [(0, [0]), (1, [2])]
theorem ac56 {T : Tab} (hT : TabOk Go.Proofs.Tryz.prog T) {ds : List D} {os : List (Nat × Ob)} {nx : Nat} {Q : D → List (Nat × Ob) → Nat → Prop} (hl : ds.length ≤ 9) (h : awp Go.Proofs.Tryz.prog T 9 nx lv56 (Go.Proofs.Tryz.f56.body.getD .skip) (fin Go.Proofs.Tryz.prog [.tmp 2] Q) ⟨prm 0 ds, os, nx⟩) : ACall Go.Proofs.Tryz.prog 56 ds os nx Q :=
  acall_intro hT.toS (fn := Go.Proofs.Tryz.f56) lv56 (by kernel_rfl) rfl rfl (by kernel_rfl) rfl hl rfl h
abbrev lv57 : Nat → Option (List Nat) := lvL [(0, [1]), (1, [1, 4]), (2, [1, 4, 7]), (3, [2, 3]), (4, [1, 11]), (5, [2, 3]), (6, [1, 17]), (7, [2, 3]), (8, [2, 3])]
theorem ac57 {T : Tab} (hT : TabOk Go.Proofs.Tryz.prog T) {ds : List D} {os : List (Nat × Ob)} {nx : Nat} {Q : D → List (Nat × Ob) → Nat → Prop} (hl : ds.length ≤ 26) (h : awp Go.Proofs.Tryz.prog T 26 nx lv57 (Go.Proofs.Tryz.f57.body.getD .skip) (fin Go.Proofs.Tryz.prog [.tmp 2, .tmp 3] Q) ⟨prm 0 ds, os, nx⟩) : ACall Go.Proofs.Tryz.prog 57 ds os nx Q :=
  acall_intro hT.toS (fn := Go.Proofs.Tryz.f57) lv57 (by kernel_rfl) rfl rfl (by kernel_rfl) rfl hl rfl h
abbrev lv58 : Nat → Option (List Nat) := lvL [(0, [1]), (1, [1, 4]), (2, [2]), (3, [1, 4, 5]), (4, [2]), (5, [1, 4, 11]), (6, [1, 17]), (7, [2]), (8, [1, 4, 18]), (9, [1, 23]), (10, [2]), (11, [1, 4, 24]), (12, [1, 24]), (13, [29]), (14, [2]), (15, [2])]
theorem ac58 {T : Tab} (hT : TabOk Go.Proofs.Tryz.prog T) {ds : List D} {os : List (Nat × Ob)} {nx : Nat} {Q : D → List (Nat × Ob) → Nat → Prop} (hl : ds.length ≤ 30) (h : awp Go.Proofs.Tryz.prog T 30 nx lv58 (Go.Proofs.Tryz.f58.body.getD .skip) (fin Go.Proofs.Tryz.prog [.tmp 2] Q) ⟨prm 0 ds, os, nx⟩) : ACall Go.Proofs.Tryz.prog 58 ds os nx Q :=
  acall_intro hT.toS (fn := Go.Proofs.Tryz.f58) lv58 (by kernel_rfl) rfl rfl (by kernel_rfl) rfl hl rfl h
abbrev lv59 : Nat → Option (List Nat) := lvL [(0, [1]), (1, [2])]
theorem ac59 {T : Tab} (hT : TabOk Go.Proofs.Tryz.prog T) {ds : List D} {os : List (Nat × Ob)} {nx : Nat} {Q : D → List (Nat × Ob) → Nat → Prop} (hl : ds.length ≤ 18) (h : awp Go.Proofs.Tryz.prog T 18 nx lv59 (Go.Proofs.Tryz.f59.body.getD .skip) (fin Go.Proofs.Tryz.prog [.tmp 2] Q) ⟨prm 0 ds, os, nx⟩) : ACall Go.Proofs.Tryz.prog 59 ds os nx Q :=
  acall_intro hT.toS (fn := Go.Proofs.Tryz.f59) lv59 (by kernel_rfl) rfl rfl (by kernel_rfl) rfl hl rfl h
abbrev lv60 : Nat → Option (List Nat) := lvL [(0, [1, 2, 3, 6]), (1, [6, 7, 8])]
theorem ac60 {T : Tab} (hT : TabOk Go.Proofs.Tryz.prog T) {ds : List D} {os : List (Nat × Ob)} {nx : Nat} {Q : D → List (Nat × Ob) → Nat → Prop} (hl : ds.length ≤ 17) (h : awp Go.Proofs.Tryz.prog T 17 nx lv60 (Go.Proofs.Tryz.f60.body.getD .skip) (fin Go.Proofs.Tryz.prog [.cell 6 43, .tmp 7, .tmp 8] Q) ⟨prm 0 ds, os, nx⟩) : ACall Go.Proofs.Tryz.prog 60 ds os nx Q :=
  acall_intro hT.toS (fn := Go.Proofs.Tryz.f60) lv60 (by kernel_rfl) rfl rfl (by kernel_rfl) rfl hl rfl h
abbrev lv61 : Nat → Option (List Nat) := lvL [(0, [0]), (1, [0, 3]), (2, [3, 8, 9, 10]), (3, [3, 8, 9, 10, 11]), (4, [3, 5, 8, 9, 10]), (5, [3, 5, 6, 8, 9, 10]), (6, [3, 5, 6, 8, 9, 10]), (7, [3, 5, 6, 8, 9, 10, 21, 22]), (8, [3, 5, 6, 8, 9, 10, 21, 22, 23]), (9, [3, 5, 6, 7, 8, 9, 10, 21, 22]), (10, [3, 5, 6, 8, 9, 10, 21, 22]), (11, [3, 5, 6, 8, 9, 10, 21, 22]), (12, [3, 8, 9, 10]), (13, [2])]
theorem ac61 {T : Tab} (hT : TabOk Go.Proofs.Tryz.prog T) {ds : List D} {os : List (Nat × Ob)} {nx : Nat} {Q : D → List (Nat × Ob) → Nat → Prop} (hl : ds.length ≤ 40) (h : awp Go.Proofs.Tryz.prog T 40 nx lv61 (Go.Proofs.Tryz.f61.body.getD .skip) (fin Go.Proofs.Tryz.prog [.tmp 2] Q) ⟨prm 0 ds, os, nx⟩) : ACall Go.Proofs.Tryz.prog 61 ds os nx Q :=
  acall_intro hT.toS (fn := Go.Proofs.Tryz.f61) lv61 (by kernel_rfl) rfl rfl (by kernel_rfl) rfl hl rfl h
abbrev lv63 : Nat → Option (List Nat) := lvL [(0, [0, 1]), (1, [4, 5])]
theorem ac63 {T : Tab} (hT : TabOk Go.Proofs.Tryz.prog T) {ds : List D} {os : List (Nat × Ob)} {nx : Nat} {Q : D → List (Nat × Ob) → Nat → Prop} (hl : ds.length ≤ 11) (h : awp Go.Proofs.Tryz.prog T 11 nx lv63 (Go.Proofs.Tryz.f63.body.getD .skip) (fin Go.Proofs.Tryz.prog [.tmp 4, .tmp 5] Q) ⟨prm 0 ds, os, nx⟩) : ACall Go.Proofs.Tryz.prog 63 ds os nx Q :=
  acall_intro hT.toS (fn := Go.Proofs.Tryz.f63) lv63 (by kernel_rfl) rfl rfl (by kernel_rfl) rfl hl rfl h
abbrev lv64 : Nat → Option (List Nat) := lvL [(0, [1, 2]), (1, [1, 2, 3]), (2, [1, 2, 3]), (3, [1, 2, 3, 35, 36, 37]), (4, [1, 2, 3, 35, 36, 37, 38]), (5, [1, 2, 3, 4, 5, 35, 36, 37]), (6, [1, 2, 3, 35, 36, 37]), (7, [1, 2, 3, 35, 36, 37]), (8, [1, 2]), (9, [1, 2, 73, 74, 75]), (10, [1, 2, 73, 74, 75, 76]), (11, [1, 2, 6, 7, 73, 74, 75]), (12, [1, 2, 73, 74, 75]), (13, [1, 2, 73, 74, 75]), (14, [1, 2, 91, 92, 93]), (15, [1, 2, 91, 92, 93, 94]), (16, [1, 2, 8, 9, 91, 92, 93]), (17, [1, 2, 91, 92, 93]), (18, [1, 2, 91, 92, 93]), (19, [2])]
@[go_sem] def us64_2 : List Nat := [0, 1, 3, 0, 8, 31, 0, 64, 255, 0, 512, 2047, 0, 4096, 12288, 32767, 30431, 131071, 262143, 524287, 1048575, 2097151, 4194303, 8388607, 16777215, 33554431, 67108863]
@[go_sem] def us64_6 : List Nat := [0, 1, 0, 0, 8, 24, 63, 127, 255]
@[go_sem] def us64_8 : List Nat := [0, 0, 2, 6, 14, 0, 32, 126, 0, 256, 1022, 0, 2048, 8190, 7023, 32767, 65535, 131071, 262143, 524287, 1048575, 2097151, 4194303, 8388607, 16777215]
@[go_sem] def us64_12 : List Nat := [0, 1, 3, 0, 0, 16, 48, 127, 255, 511]
@[go_sem] def us64_17 : List Nat := [0, 1, 0, 0, 8, 0, 0, 64, 192, 0, 512, 1984, 4039, 8135, 16327, 32767, 65535, 131071]
theorem ac64 {T : Tab} (hT : TabOk Go.Proofs.Tryz.prog T) {ds : List D} {os : List (Nat × Ob)} {nx : Nat} {Q : D → List (Nat × Ob) → Nat → Prop} (hl : ds.length ≤ 116) (h : awp Go.Proofs.Tryz.prog T 116 nx lv64 (Go.Proofs.Tryz.f64.body.getD .skip) (fin Go.Proofs.Tryz.prog [.cell 2 48] Q) ⟨prm 0 ds, os, nx⟩) : ACall Go.Proofs.Tryz.prog 64 ds os nx Q :=
  acall_intro hT.toS (fn := Go.Proofs.Tryz.f64) lv64 (by kernel_rfl) rfl rfl (by kernel_rfl) rfl hl rfl h
abbrev lv65 : Nat → Option (List Nat) := lvL [(0, [1, 2, 3, 4, 8, 9]), (1, [1, 2, 3, 4, 8, 9, 11]), (2, [1, 2, 3, 4, 8, 9, 11, 19]), (3, [8, 9, 10]), (4, [1, 2, 4, 8, 9, 12, 13]), (5, [1, 2, 4, 8, 9, 12, 13, 33]), (6, [8, 9, 10]), (7, [4, 8, 9, 12, 13, 14, 15]), (8, [4, 8, 9, 12, 13, 14, 15, 47]), (9, [8, 9, 10]), (10, [4, 8, 9, 15]), (11, [8, 9, 10])]
@[go_sem] def us65_10 : List Nat := [0, 0, 1, 5, 15, 31]
@[go_sem] def us65_11 : List Nat := [0, 1, 0, 3, 15, 31]
theorem ac65 {T : Tab} (hT : TabOk Go.Proofs.Tryz.prog T) {ds : List D} {os : List (Nat × Ob)} {nx : Nat} {Q : D → List (Nat × Ob) → Nat → Prop} (hl : ds.length ≤ 58) (h : awp Go.Proofs.Tryz.prog T 58 nx lv65 (Go.Proofs.Tryz.f65.body.getD .skip) (fin Go.Proofs.Tryz.prog [.cell 8 48, .cell 9 26, .tmp 10] Q) ⟨prm 0 ds, os, nx⟩) : ACall Go.Proofs.Tryz.prog 65 ds os nx Q :=
  acall_intro hT.toS (fn := Go.Proofs.Tryz.f65) lv65 (by kernel_rfl) rfl rfl (by kernel_rfl) rfl hl rfl h
abbrev lv66 : Nat → Option (List Nat) := lvL [(0, [1, 3, 5]), (1, [6, 7])]
theorem ac66 {T : Tab} (hT : TabOk Go.Proofs.Tryz.prog T) {ds : List D} {os : List (Nat × Ob)} {nx : Nat} {Q : D → List (Nat × Ob) → Nat → Prop} (hl : ds.length ≤ 14) (h : awp Go.Proofs.Tryz.prog T 14 nx lv66 (Go.Proofs.Tryz.f66.body.getD .skip) (fin Go.Proofs.Tryz.prog [.tmp 6, .tmp 7] Q) ⟨prm 0 ds, os, nx⟩) : ACall Go.Proofs.Tryz.prog 66 ds os nx Q :=
  acall_intro hT.toS (fn := Go.Proofs.Tryz.f66) lv66 (by kernel_rfl) rfl rfl (by kernel_rfl) rfl hl rfl h
abbrev lv76 : Nat → Option (List Nat) := lvL [(0, [0, 1, 2]), (1, [0, 1, 2, 8, 9, 10]), (2, [0, 1, 2, 8, 9, 10, 18]), (3, [6, 7]), (4, [0, 1, 2, 8, 22]), (5, [6, 7]), (6, [0, 1, 2, 8, 29]), (7, [6, 7]), (8, [6, 7])]
theorem ac76 {T : Tab} (hT : TabOk Go.Proofs.Tryz.prog T) {ds : List D} {os : List (Nat × Ob)} {nx : Nat} {Q : D → List (Nat × Ob) → Nat → Prop} (hl : ds.length ≤ 41) (h : awp Go.Proofs.Tryz.prog T 41 nx lv76 (Go.Proofs.Tryz.f76.body.getD .skip) (fin Go.Proofs.Tryz.prog [.tmp 6, .tmp 7] Q) ⟨prm 0 ds, os, nx⟩) : ACall Go.Proofs.Tryz.prog 76 ds os nx Q :=
  acall_intro hT.toS (fn := Go.Proofs.Tryz.f76) lv76 (by kernel_rfl) rfl rfl (by kernel_rfl) rfl hl rfl h
abbrev lv82 : Nat → Option (List Nat) := lvL [(0, [1]), (1, [1, 37]), (2, [2]), (3, [1, 3]), (4, [1, 54]), (5, [2]), (6, [4, 5]), (7, [68]), (8, [2]), (9, [2])]
@[go_sem] def us82_4 : List Nat := [0, 1, 3, 7, 15, 7, 39, 127, 255, 511, 7, 1031, 4095, 8191]
theorem ac82 {T : Tab} (hT : TabOk Go.Proofs.Tryz.prog T) {ds : List D} {os : List (Nat × Ob)} {nx : Nat} {Q : D → List (Nat × Ob) → Nat → Prop} (hl : ds.length ≤ 69) (h : awp Go.Proofs.Tryz.prog T 69 nx lv82 (Go.Proofs.Tryz.f82.body.getD .skip) (fin Go.Proofs.Tryz.prog [.tmp 2] Q) ⟨prm 0 ds, os, nx⟩) : ACall Go.Proofs.Tryz.prog 82 ds os nx Q :=
  acall_intro hT.toS (fn := Go.Proofs.Tryz.f82) lv82 (by kernel_rfl) rfl rfl (by kernel_rfl) rfl hl rfl h
abbrev lv83 : Nat → Option (List Nat) := lvL [(0, [0]), (1, [0, 7]), (2, [2]), (3, [0, 8, 9, 10]), (4, [0, 8, 9, 10, 11]), (5, [0, 3, 4, 8, 9, 10]), (6, [0, 8, 9, 10, 35]), (7, [2]), (8, [0, 8, 9, 10]), (9, [2])]
@[go_sem] def us83_6 : List Nat := [0, 1, 3, 7, 7, 23, 63, 127, 7, 263, 1023, 2047, 4095, 8191, 16383, 16383, 65535, 16383, 147455, 524287, 1048575]
theorem ac83 {T : Tab} (hT : TabOk Go.Proofs.Tryz.prog T) {ds : List D} {os : List (Nat × Ob)} {nx : Nat} {Q : D → List (Nat × Ob) → Nat → Prop} (hl : ds.length ≤ 37) (h : awp Go.Proofs.Tryz.prog T 37 nx lv83 (Go.Proofs.Tryz.f83.body.getD .skip) (fin Go.Proofs.Tryz.prog [.tmp 2] Q) ⟨prm 0 ds, os, nx⟩) : ACall Go.Proofs.Tryz.prog 83 ds os nx Q :=
  acall_intro hT.toS (fn := Go.Proofs.Tryz.f83) lv83 (by kernel_rfl) rfl rfl (by kernel_rfl) rfl hl rfl h
abbrev lv84 : Nat → Option (List Nat) := lvL [(0, [0]), (1, [0, 7]), (2, [2]), (3, [0, 8, 9, 10]), (4, [0, 8, 9, 10, 11]), (5, [0, 3, 4, 8, 9, 10]), (6, [0, 8, 9, 10, 32]), (7, [2]), (8, [0, 8, 9, 10]), (9, [2])]
@[go_sem] def us84_6 : List Nat := [0, 1, 3, 7, 15, 31, 63, 127, 127, 383, 1023, 2047, 127, 4223, 16383, 32767, 65535, 131071]
theorem ac84 {T : Tab} (hT : TabOk Go.Proofs.Tryz.prog T) {ds : List D} {os : List (Nat × Ob)} {nx : Nat} {Q : D → List (Nat × Ob) → Nat → Prop} (hl : ds.length ≤ 34) (h : awp Go.Proofs.Tryz.prog T 34 nx lv84 (Go.Proofs.Tryz.f84.body.getD .skip) (fin Go.Proofs.Tryz.prog [.tmp 2] Q) ⟨prm 0 ds, os, nx⟩) : ACall Go.Proofs.Tryz.prog 84 ds os nx Q :=
  acall_intro hT.toS (fn := Go.Proofs.Tryz.f84) lv84 (by kernel_rfl) rfl rfl (by kernel_rfl) rfl hl rfl h
abbrev lv85 : Nat → Option (List Nat) := lvL [(0, [0]), (1, [0, 7]), (2, [2]), (3, [0, 8, 9, 10]), (4, [0, 8, 9, 10, 11]), (5, [0, 3, 4, 8, 9, 10]), (6, [0, 8, 9, 10, 38]), (7, [2]), (8, [0, 8, 9, 10]), (9, [2])]
@[go_sem] def us85_6 : List Nat := [0, 1, 3, 7, 15, 31, 63, 127, 255, 511, 1023, 2047, 4095, 8191, 16383, 16383, 49151, 131071, 262143, 16383, 1048575, 2097151, 4194303, 8388607]
theorem ac85 {T : Tab} (hT : TabOk Go.Proofs.Tryz.prog T) {ds : List D} {os : List (Nat × Ob)} {nx : Nat} {Q : D → List (Nat × Ob) → Nat → Prop} (hl : ds.length ≤ 40) (h : awp Go.Proofs.Tryz.prog T 40 nx lv85 (Go.Proofs.Tryz.f85.body.getD .skip) (fin Go.Proofs.Tryz.prog [.tmp 2] Q) ⟨prm 0 ds, os, nx⟩) : ACall Go.Proofs.Tryz.prog 85 ds os nx Q :=
  acall_intro hT.toS (fn := Go.Proofs.Tryz.f85) lv85 (by kernel_rfl) rfl rfl (by kernel_rfl) rfl hl rfl h
abbrev lv96 : Nat → Option (List Nat) := lvL [(0, [1]), (1, [2])]
@[go_sem] def us96_1 : List Nat := [0, 0, 2, 7, 15, 31]
theorem ac96 {T : Tab} (hT : TabOk Go.Proofs.Tryz.prog T) {ds : List D} {os : List (Nat × Ob)} {nx : Nat} {Q : D → List (Nat × Ob) → Nat → Prop} (hl : ds.length ≤ 8) (h : awp Go.Proofs.Tryz.prog T 8 nx lv96 (Go.Proofs.Tryz.f96.body.getD .skip) (fin Go.Proofs.Tryz.prog [.tmp 2] Q) ⟨prm 0 ds, os, nx⟩) : ACall Go.Proofs.Tryz.prog 96 ds os nx Q :=
  acall_intro hT.toS (fn := Go.Proofs.Tryz.f96) lv96 (by kernel_rfl) rfl rfl (by kernel_rfl) rfl hl rfl h
abbrev lv97 : Nat → Option (List Nat) := lvL [(0, [0, 2, 14]), (1, [])]
theorem ac97 {T : Tab} (hT : TabOk Go.Proofs.Tryz.prog T) {ds : List D} {os : List (Nat × Ob)} {nx : Nat} {Q : D → List (Nat × Ob) → Nat → Prop} (hl : ds.length ≤ 19) (h : awp Go.Proofs.Tryz.prog T 19 nx lv97 (Go.Proofs.Tryz.f97.body.getD .skip) (fin Go.Proofs.Tryz.prog [] Q) ⟨prm 0 ds, os, nx⟩) : ACall Go.Proofs.Tryz.prog 97 ds os nx Q :=
  acall_intro hT.toS (fn := Go.Proofs.Tryz.f97) lv97 (by kernel_rfl) rfl rfl (by kernel_rfl) rfl hl rfl h
abbrev lv98 : Nat → Option (List Nat) := lvL [(0, [0, 1, 2, 12]), (1, [0, 1, 6, 7]), (2, [0, 1, 6, 7, 22]), (3, []), (4, [])]
theorem ac98 {T : Tab} (hT : TabOk Go.Proofs.Tryz.prog T) {ds : List D} {os : List (Nat × Ob)} {nx : Nat} {Q : D → List (Nat × Ob) → Nat → Prop} (hl : ds.length ≤ 30) (h : awp Go.Proofs.Tryz.prog T 30 nx lv98 (Go.Proofs.Tryz.f98.body.getD .skip) (fin Go.Proofs.Tryz.prog [] Q) ⟨prm 0 ds, os, nx⟩) : ACall Go.Proofs.Tryz.prog 98 ds os nx Q :=
  acall_intro hT.toS (fn := Go.Proofs.Tryz.f98) lv98 (by kernel_rfl) rfl rfl (by kernel_rfl) rfl hl rfl h
abbrev lv99 : Nat → Option (List Nat) := lvL [(0, [0, 1]), (1, [3, 4])]
theorem ac99 {T : Tab} (hT : TabOk Go.Proofs.Tryz.prog T) {ds : List D} {os : List (Nat × Ob)} {nx : Nat} {Q : D → List (Nat × Ob) → Nat → Prop} (hl : ds.length ≤ 10) (h : awp Go.Proofs.Tryz.prog T 10 nx lv99 (Go.Proofs.Tryz.f99.body.getD .skip) (fin Go.Proofs.Tryz.prog [.tmp 3, .tmp 4] Q) ⟨prm 0 ds, os, nx⟩) : ACall Go.Proofs.Tryz.prog 99 ds os nx Q :=
  acall_intro hT.toS (fn := Go.Proofs.Tryz.f99) lv99 (by kernel_rfl) rfl rfl (by kernel_rfl) rfl hl rfl h
abbrev lv100 : Nat → Option (List Nat) := lvL [(0, [0, 3]), (1, [0, 3, 6]), (2, [0, 3, 6, 11]), (3, [4, 5]), (4, [0, 7]), (5, [4, 5])]
theorem ac100 {T : Tab} (hT : TabOk Go.Proofs.Tryz.prog T) {ds : List D} {os : List (Nat × Ob)} {nx : Nat} {Q : D → List (Nat × Ob) → Nat → Prop} (hl : ds.length ≤ 18) (h : awp Go.Proofs.Tryz.prog T 18 nx lv100 (Go.Proofs.Tryz.f100.body.getD .skip) (fin Go.Proofs.Tryz.prog [.tmp 4, .tmp 5] Q) ⟨prm 0 ds, os, nx⟩) : ACall Go.Proofs.Tryz.prog 100 ds os nx Q :=
  acall_intro hT.toS (fn := Go.Proofs.Tryz.f100) lv100 (by kernel_rfl) rfl rfl (by kernel_rfl) rfl hl rfl h
abbrev lv101 : Nat → Option (List Nat) := lvL [(0, [0, 2]), (1, [0, 2, 8]), (2, [2, 3]), (3, [2, 3])]
@[go_sem] def us101_2 : List Nat := [0, 0, 2, 6, 14, 1, 63]
theorem ac101 {T : Tab} (hT : TabOk Go.Proofs.Tryz.prog T) {ds : List D} {os : List (Nat × Ob)} {nx : Nat} {Q : D → List (Nat × Ob) → Nat → Prop} (hl : ds.length ≤ 19) (h : awp Go.Proofs.Tryz.prog T 19 nx lv101 (Go.Proofs.Tryz.f101.body.getD .skip) (fin Go.Proofs.Tryz.prog [.cell 2 40, .tmp 3] Q) ⟨prm 0 ds, os, nx⟩) : ACall Go.Proofs.Tryz.prog 101 ds os nx Q :=
  acall_intro hT.toS (fn := Go.Proofs.Tryz.f101) lv101 (by kernel_rfl) rfl rfl (by kernel_rfl) rfl hl rfl h
abbrev lv102 : Nat → Option (List Nat) := lvL [(0, [0]), (1, [0])]
theorem ac102 {T : Tab} (hT : TabOk Go.Proofs.Tryz.prog T) {ds : List D} {os : List (Nat × Ob)} {nx : Nat} {Q : D → List (Nat × Ob) → Nat → Prop} (hl : ds.length ≤ 2) (h : awp Go.Proofs.Tryz.prog T 2 nx lv102 (Go.Proofs.Tryz.f102.body.getD .skip) (fin Go.Proofs.Tryz.prog [.cell 0 38] Q) ⟨prm 0 ds, os, nx⟩) : ACall Go.Proofs.Tryz.prog 102 ds os nx Q :=
  acall_intro hT.toS (fn := Go.Proofs.Tryz.f102) lv102 (by kernel_rfl) rfl rfl (by kernel_rfl) rfl hl rfl h
abbrev lv111 : Nat → Option (List Nat) := lvL [(0, [0, 1]), (1, [0, 6, 7, 8]), (2, [0, 6, 7, 8, 16]), (3, [4, 5]), (4, [0, 6, 20]), (5, [4, 5]), (6, [6, 23]), (7, [4, 5]), (8, [4, 5])]
theorem ac111 {T : Tab} (hT : TabOk Go.Proofs.Tryz.prog T) {ds : List D} {os : List (Nat × Ob)} {nx : Nat} {Q : D → List (Nat × Ob) → Nat → Prop} (hl : ds.length ≤ 30) (h : awp Go.Proofs.Tryz.prog T 30 nx lv111 (Go.Proofs.Tryz.f111.body.getD .skip) (fin Go.Proofs.Tryz.prog [.tmp 4, .tmp 5] Q) ⟨prm 0 ds, os, nx⟩) : ACall Go.Proofs.Tryz.prog 111 ds os nx Q :=
  acall_intro hT.toS (fn := Go.Proofs.Tryz.f111) lv111 (by kernel_rfl) rfl rfl (by kernel_rfl) rfl hl rfl h
abbrev lv112 : Nat → Option (List Nat) := lvL [(0, [1, 2, 3, 4]), (1, [1, 2, 3, 10, 11]), (2, [1, 2, 3, 10, 11, 23]), (3, [8, 9]), (4, [1, 2, 3, 10, 12]), (5, [1, 2, 3, 10, 32]), (6, [8, 9]), (7, [3, 10, 13, 14]), (8, [10, 13, 14, 42, 43, 44]), (9, [10, 13, 14, 42, 43, 44, 45]), (10, [10, 13, 14, 16, 42, 43, 44]), (11, [10, 13, 14, 16, 42, 43, 44, 49]), (12, [10, 13, 14, 42, 43, 44]), (13, [10, 13, 14, 42, 43, 44]), (14, [13, 61]), (15, [8, 9]), (16, [8, 9])]
theorem ac112 {T : Tab} (hT : TabOk Go.Proofs.Tryz.prog T) {ds : List D} {os : List (Nat × Ob)} {nx : Nat} {Q : D → List (Nat × Ob) → Nat → Prop} (hl : ds.length ≤ 63) (h : awp Go.Proofs.Tryz.prog T 63 nx lv112 (Go.Proofs.Tryz.f112.body.getD .skip) (fin Go.Proofs.Tryz.prog [.tmp 8, .tmp 9] Q) ⟨prm 0 ds, os, nx⟩) : ACall Go.Proofs.Tryz.prog 112 ds os nx Q :=
  acall_intro hT.toS (fn := Go.Proofs.Tryz.f112) lv112 (by kernel_rfl) rfl rfl (by kernel_rfl) rfl hl rfl h
abbrev lv113 : Nat → Option (List Nat) := lvL [(0, [1]), (1, [1, 3]), (2, [3, 11, 12, 13]), (3, [3, 11, 12, 13, 14]), (4, [3, 4, 5, 11, 12, 13]), (5, [3, 11, 12, 13]), (6, [3, 11, 12, 13]), (7, [2])]
theorem ac113 {T : Tab} (hT : TabOk Go.Proofs.Tryz.prog T) {ds : List D} {os : List (Nat × Ob)} {nx : Nat} {Q : D → List (Nat × Ob) → Nat → Prop} (hl : ds.length ≤ 28) (h : awp Go.Proofs.Tryz.prog T 28 nx lv113 (Go.Proofs.Tryz.f113.body.getD .skip) (fin Go.Proofs.Tryz.prog [.tmp 2] Q) ⟨prm 0 ds, os, nx⟩) : ACall Go.Proofs.Tryz.prog 113 ds os nx Q :=
  acall_intro hT.toS (fn := Go.Proofs.Tryz.f113) lv113 (by kernel_rfl) rfl rfl (by kernel_rfl) rfl hl rfl h
abbrev lv114 : Nat → Option (List Nat) := lvL [(0, [0, 1, 2, 3]), (1, [0, 1, 3, 10, 11]), (2, [0, 1, 3, 10, 37]), (3, [8, 9]), (4, [0, 1, 3, 10, 12]), (5, [0, 1, 3, 12, 40]), (6, [0, 1, 3, 12, 40, 42]), (7, [0, 1, 3, 12, 13, 14, 40]), (8, [0, 1, 3, 12, 13, 14, 15, 40]), (9, [0, 1, 3, 12, 13, 14, 18, 19, 40]), (10, [0, 1, 3, 12, 13, 18, 40, 67]), (11, [8, 9]), (12, [0, 1, 3, 12, 40]), (13, [8, 9])]
theorem ac114 {T : Tab} (hT : TabOk Go.Proofs.Tryz.prog T) {ds : List D} {os : List (Nat × Ob)} {nx : Nat} {Q : D → List (Nat × Ob) → Nat → Prop} (hl : ds.length ≤ 72) (h : awp Go.Proofs.Tryz.prog T 72 nx lv114 (Go.Proofs.Tryz.f114.body.getD .skip) (fin Go.Proofs.Tryz.prog [.tmp 8, .tmp 9] Q) ⟨prm 0 ds, os, nx⟩) : ACall Go.Proofs.Tryz.prog 114 ds os nx Q :=
  acall_intro hT.toS (fn := Go.Proofs.Tryz.f114) lv114 (by kernel_rfl) rfl rfl (by kernel_rfl) rfl hl rfl h
abbrev lv115 : Nat → Option (List Nat) := lvL [(0, [0]), (1, [0, 5, 6, 7]), (2, [0, 5, 6, 7, 8]), (3, [0, 4, 5, 6, 7]), (4, [0, 5, 6, 7, 14]), (5, [2]), (6, [0, 5, 6, 7]), (7, [2])]
theorem ac115 {T : Tab} (hT : TabOk Go.Proofs.Tryz.prog T) {ds : List D} {os : List (Nat × Ob)} {nx : Nat} {Q : D → List (Nat × Ob) → Nat → Prop} (hl : ds.length ≤ 19) (h : awp Go.Proofs.Tryz.prog T 19 nx lv115 (Go.Proofs.Tryz.f115.body.getD .skip) (fin Go.Proofs.Tryz.prog [.tmp 2] Q) ⟨prm 0 ds, os, nx⟩) : ACall Go.Proofs.Tryz.prog 115 ds os nx Q :=
  acall_intro hT.toS (fn := Go.Proofs.Tryz.f115) lv115 (by kernel_rfl) rfl rfl (by kernel_rfl) rfl hl rfl h
abbrev lv116 : Nat → Option (List Nat) := lvL [(0, [1]), (1, [2])]
theorem ac116 {T : Tab} (hT : TabOk Go.Proofs.Tryz.prog T) {ds : List D} {os : List (Nat × Ob)} {nx : Nat} {Q : D → List (Nat × Ob) → Nat → Prop} (hl : ds.length ≤ 6) (h : awp Go.Proofs.Tryz.prog T 6 nx lv116 (Go.Proofs.Tryz.f116.body.getD .skip) (fin Go.Proofs.Tryz.prog [.tmp 2] Q) ⟨prm 0 ds, os, nx⟩) : ACall Go.Proofs.Tryz.prog 116 ds os nx Q :=
  acall_intro hT.toS (fn := Go.Proofs.Tryz.f116) lv116 (by kernel_rfl) rfl rfl (by kernel_rfl) rfl hl rfl h
abbrev lv117 : Nat → Option (List Nat) := lvL [(0, [0, 1]), (1, [4])]
theorem ac117 {T : Tab} (hT : TabOk Go.Proofs.Tryz.prog T) {ds : List D} {os : List (Nat × Ob)} {nx : Nat} {Q : D → List (Nat × Ob) → Nat → Prop} (hl : ds.length ≤ 9) (h : awp Go.Proofs.Tryz.prog T 9 nx lv117 (Go.Proofs.Tryz.f117.body.getD .skip) (fin Go.Proofs.Tryz.prog [.tmp 4] Q) ⟨prm 0 ds, os, nx⟩) : ACall Go.Proofs.Tryz.prog 117 ds os nx Q :=
  acall_intro hT.toS (fn := Go.Proofs.Tryz.f117) lv117 (by kernel_rfl) rfl rfl (by kernel_rfl) rfl hl rfl h
abbrev lv118 : Nat → Option (List Nat) := lvL [(0, [1]), (1, [1, 4]), (2, [1, 4, 13]), (3, [2, 3]), (4, [4, 15, 16, 17]), (5, [4, 15, 16, 17, 18]), (6, [4, 5, 6, 15, 16, 17]), (7, [4, 5, 6, 8, 15, 16, 17]), (8, [4, 5, 6, 15, 16, 17, 56]), (9, [2, 3]), (10, [4, 15, 16, 17]), (11, [4, 15, 16, 17]), (12, [2, 3])]
theorem ac118 {T : Tab} (hT : TabOk Go.Proofs.Tryz.prog T) {ds : List D} {os : List (Nat × Ob)} {nx : Nat} {Q : D → List (Nat × Ob) → Nat → Prop} (hl : ds.length ≤ 63) (h : awp Go.Proofs.Tryz.prog T 63 nx lv118 (Go.Proofs.Tryz.f118.body.getD .skip) (fin Go.Proofs.Tryz.prog [.tmp 2, .tmp 3] Q) ⟨prm 0 ds, os, nx⟩) : ACall Go.Proofs.Tryz.prog 118 ds os nx Q :=
  acall_intro hT.toS (fn := Go.Proofs.Tryz.f118) lv118 (by kernel_rfl) rfl rfl (by kernel_rfl) rfl hl rfl h
abbrev lv119 : Nat → Option (List Nat) := lvL [(0, [2, 3, 4]), (1, [2, 3, 4, 7, 8]), (2, [2, 3, 4, 7, 18]), (3, [4, 5, 6]), (4, [2, 3, 4, 7, 30]), (5, [4, 5, 6]), (6, [2, 3, 4, 9, 10]), (7, [2, 3, 4, 9, 44]), (8, [2, 3, 4, 9]), (9, [2, 3, 4, 9, 49]), (10, [4, 5, 6]), (11, [2, 4, 9]), (12, [2, 4, 9]), (13, [2, 4, 9, 63, 64, 65]), (14, [2, 4, 9, 63, 64, 65, 66]), (15, [2, 4, 9, 11, 12, 63, 64, 65]), (16, [2, 4, 9, 63, 64, 65]), (17, [2, 4, 9, 63, 64, 65]), (18, [4, 5, 6])]
@[go_sem] def us119_11 : List Nat := [0, 1, 3, 0, 8, 31, 63, 127]
@[go_sem] def us119_16 : List Nat := [0, 1, 0, 0, 8, 24, 63, 127, 255]
theorem ac119 {T : Tab} (hT : TabOk Go.Proofs.Tryz.prog T) {ds : List D} {os : List (Nat × Ob)} {nx : Nat} {Q : D → List (Nat × Ob) → Nat → Prop} (hl : ds.length ≤ 81) (h : awp Go.Proofs.Tryz.prog T 81 nx lv119 (Go.Proofs.Tryz.f119.body.getD .skip) (fin Go.Proofs.Tryz.prog [.cell 4 43, .tmp 5, .tmp 6] Q) ⟨prm 0 ds, os, nx⟩) : ACall Go.Proofs.Tryz.prog 119 ds os nx Q :=
  acall_intro hT.toS (fn := Go.Proofs.Tryz.f119) lv119 (by kernel_rfl) rfl rfl (by kernel_rfl) rfl hl rfl h
abbrev lv120 : Nat → Option (List Nat) := lvL [(0, [1]), (1, [1, 3, 4]), (2, [1, 3, 4, 6]), (3, [1, 3, 4, 6, 7]), (4, [1, 3, 4, 82, 83, 84]), (5, [1, 3, 4, 82, 83, 84, 85]), (6, [1, 3, 4, 9, 82, 83, 84]), (7, [1, 3, 4, 9, 82, 83, 84, 92]), (8, [1, 3, 4, 82, 83, 84]), (9, [1, 3, 4, 82, 83, 84]), (10, [1, 3, 4, 82, 83, 84]), (11, [112]), (12, [2]), (13, [2])]
@[go_sem] def us120_4 : List Nat := [0, 1, 3, 7, 0, 16, 48, 112, 0, 256, 768, 0, 2048, 6144, 14336, 30720, 63488, 129024, 260096, 522240, 1046528, 2095104, 4192256, 8386560, 16775168, 33552384, 67108608, 0, 134217728, 402653184, 939524096, 0, 2147483648, 6442450944, 15032385536, 0, 34359738368, 135291469824, 0, 274877906944, 824633720832, 1924145348608, 0, 4398046511104, 13194139533312, 30786325577728, 65970706053120, 136339450230784, 277076938586112, 558551915296768, 1121501868718080, 2247401775560704, 4499201589245952, 9002801216616448, 18010000471357440, 9002801216616448, 72053195999803392, 144110790037731328, 288225978113587200, 576460477433903104, 1152921504606846975, 2305843009213693951, 0]
theorem ac120 {T : Tab} (hT : TabOk Go.Proofs.Tryz.prog T) {ds : List D} {os : List (Nat × Ob)} {nx : Nat} {Q : D → List (Nat × Ob) → Nat → Prop} (hl : ds.length ≤ 113) (h : awp Go.Proofs.Tryz.prog T 113 nx lv120 (Go.Proofs.Tryz.f120.body.getD .skip) (fin Go.Proofs.Tryz.prog [.tmp 2] Q) ⟨prm 0 ds, os, nx⟩) : ACall Go.Proofs.Tryz.prog 120 ds os nx Q :=
  acall_intro hT.toS (fn := Go.Proofs.Tryz.f120) lv120 (by kernel_rfl) rfl rfl (by kernel_rfl) rfl hl rfl h
abbrev lv121 : Nat → Option (List Nat) := lvL [(0, [0, 2]), (1, [0, 2, 4]), (2, [0, 2, 19]), (3, [2, 3]), (4, [2, 20, 21, 22]), (5, [2, 20, 21, 22, 23]), (6, [2, 6, 20, 21, 22]), (7, [2, 3, 20, 21, 22]), (8, [2, 3, 20, 21, 22, 35]), (9, [2, 3]), (10, [2, 20, 21, 22]), (11, [2, 3])]
theorem ac121 {T : Tab} (hT : TabOk Go.Proofs.Tryz.prog T) {ds : List D} {os : List (Nat × Ob)} {nx : Nat} {Q : D → List (Nat × Ob) → Nat → Prop} (hl : ds.length ≤ 39) (h : awp Go.Proofs.Tryz.prog T 39 nx lv121 (Go.Proofs.Tryz.f121.body.getD .skip) (fin Go.Proofs.Tryz.prog [.tmp 2, .tmp 3] Q) ⟨prm 0 ds, os, nx⟩) : ACall Go.Proofs.Tryz.prog 121 ds os nx Q :=
  acall_intro hT.toS (fn := Go.Proofs.Tryz.f121) lv121 (by kernel_rfl) rfl rfl (by kernel_rfl) rfl hl rfl h
abbrev lv122 : Nat → Option (List Nat) := lvL [(0, [0]), (1, [10]), (2, [2]), (3, [2])]
theorem ac122 {T : Tab} (hT : TabOk Go.Proofs.Tryz.prog T) {ds : List D} {os : List (Nat × Ob)} {nx : Nat} {Q : D → List (Nat × Ob) → Nat → Prop} (hl : ds.length ≤ 11) (h : awp Go.Proofs.Tryz.prog T 11 nx lv122 (Go.Proofs.Tryz.f122.body.getD .skip) (fin Go.Proofs.Tryz.prog [.tmp 2] Q) ⟨prm 0 ds, os, nx⟩) : ACall Go.Proofs.Tryz.prog 122 ds os nx Q :=
  acall_intro hT.toS (fn := Go.Proofs.Tryz.f122) lv122 (by kernel_rfl) rfl rfl (by kernel_rfl) rfl hl rfl h
abbrev lv123 : Nat → Option (List Nat) := lvL [(0, [0]), (1, [0, 3]), (2, [2]), (3, [0, 8]), (4, [2]), (5, [11]), (6, [2]), (7, [2])]
theorem ac123 {T : Tab} (hT : TabOk Go.Proofs.Tryz.prog T) {ds : List D} {os : List (Nat × Ob)} {nx : Nat} {Q : D → List (Nat × Ob) → Nat → Prop} (hl : ds.length ≤ 14) (h : awp Go.Proofs.Tryz.prog T 14 nx lv123 (Go.Proofs.Tryz.f123.body.getD .skip) (fin Go.Proofs.Tryz.prog [.tmp 2] Q) ⟨prm 0 ds, os, nx⟩) : ACall Go.Proofs.Tryz.prog 123 ds os nx Q :=
  acall_intro hT.toS (fn := Go.Proofs.Tryz.f123) lv123 (by kernel_rfl) rfl rfl (by kernel_rfl) rfl hl rfl h
abbrev lv124 : Nat → Option (List Nat) := lvL [(0, [0]), (1, [0, 4]), (2, [2]), (3, [2])]
theorem ac124 {T : Tab} (hT : TabOk Go.Proofs.Tryz.prog T) {ds : List D} {os : List (Nat × Ob)} {nx : Nat} {Q : D → List (Nat × Ob) → Nat → Prop} (hl : ds.length ≤ 8) (h : awp Go.Proofs.Tryz.prog T 8 nx lv124 (Go.Proofs.Tryz.f124.body.getD .skip) (fin Go.Proofs.Tryz.prog [.tmp 2] Q) ⟨prm 0 ds, os, nx⟩) : ACall Go.Proofs.Tryz.prog 124 ds os nx Q :=
  acall_intro hT.toS (fn := Go.Proofs.Tryz.f124) lv124 (by kernel_rfl) rfl rfl (by kernel_rfl) rfl hl rfl h
abbrev lv125 : Nat → Option (List Nat) := lvL [(0, [0, 1, 2]), (1, [0, 2, 8, 9]), (2, [0, 2, 8, 9, 18]), (3, [6, 7]), (4, [0, 2, 8]), (5, [0, 10]), (6, [0, 10, 28]), (7, [6, 7]), (8, [6, 7])]
theorem ac125 {T : Tab} (hT : TabOk Go.Proofs.Tryz.prog T) {ds : List D} {os : List (Nat × Ob)} {nx : Nat} {Q : D → List (Nat × Ob) → Nat → Prop} (hl : ds.length ≤ 31) (h : awp Go.Proofs.Tryz.prog T 31 nx lv125 (Go.Proofs.Tryz.f125.body.getD .skip) (fin Go.Proofs.Tryz.prog [.tmp 6, .tmp 7] Q) ⟨prm 0 ds, os, nx⟩) : ACall Go.Proofs.Tryz.prog 125 ds os nx Q :=
  acall_intro hT.toS (fn := Go.Proofs.Tryz.f125) lv125 (by kernel_rfl) rfl rfl (by kernel_rfl) rfl hl rfl h
abbrev lv126 : Nat → Option (List Nat) := lvL [(0, [0]), (1, []), (2, [2])]
theorem ac126 {T : Tab} (hT : TabOk Go.Proofs.Tryz.prog T) {ds : List D} {os : List (Nat × Ob)} {nx : Nat} {Q : D → List (Nat × Ob) → Nat → Prop} (hl : ds.length ≤ 6) (h : awp Go.Proofs.Tryz.prog T 6 nx lv126 (Go.Proofs.Tryz.f126.body.getD .skip) (fin Go.Proofs.Tryz.prog [.tmp 2] Q) ⟨prm 0 ds, os, nx⟩) : ACall Go.Proofs.Tryz.prog 126 ds os nx Q :=
  acall_intro hT.toS (fn := Go.Proofs.Tryz.f126) lv126 (by kernel_rfl) rfl rfl (by kernel_rfl) rfl hl rfl h
abbrev lv127 : Nat → Option (List Nat) := lvL [(0, [0]), (1, [0, 4]), (2, [2]), (3, [2])]
theorem ac127 {T : Tab} (hT : TabOk Go.Proofs.Tryz.prog T) {ds : List D} {os : List (Nat × Ob)} {nx : Nat} {Q : D → List (Nat × Ob) → Nat → Prop} (hl : ds.length ≤ 8) (h : awp Go.Proofs.Tryz.prog T 8 nx lv127 (Go.Proofs.Tryz.f127.body.getD .skip) (fin Go.Proofs.Tryz.prog [.tmp 2] Q) ⟨prm 0 ds, os, nx⟩) : ACall Go.Proofs.Tryz.prog 127 ds os nx Q :=
  acall_intro hT.toS (fn := Go.Proofs.Tryz.f127) lv127 (by kernel_rfl) rfl rfl (by kernel_rfl) rfl hl rfl h
abbrev lv128 : Nat → Option (List Nat) := lvL [(0, [0]), (1, [0, 4]), (2, [2]), (3, [2])]
theorem ac128 {T : Tab} (hT : TabOk Go.Proofs.Tryz.prog T) {ds : List D} {os : List (Nat × Ob)} {nx : Nat} {Q : D → List (Nat × Ob) → Nat → Prop} (hl : ds.length ≤ 8) (h : awp Go.Proofs.Tryz.prog T 8 nx lv128 (Go.Proofs.Tryz.f128.body.getD .skip) (fin Go.Proofs.Tryz.prog [.tmp 2] Q) ⟨prm 0 ds, os, nx⟩) : ACall Go.Proofs.Tryz.prog 128 ds os nx Q :=
  acall_intro hT.toS (fn := Go.Proofs.Tryz.f128) lv128 (by kernel_rfl) rfl rfl (by kernel_rfl) rfl hl rfl h
abbrev lv129 : Nat → Option (List Nat) := lvL [(0, [0]), (1, [0, 4]), (2, [2]), (3, [2])]
theorem ac129 {T : Tab} (hT : TabOk Go.Proofs.Tryz.prog T) {ds : List D} {os : List (Nat × Ob)} {nx : Nat} {Q : D → List (Nat × Ob) → Nat → Prop} (hl : ds.length ≤ 8) (h : awp Go.Proofs.Tryz.prog T 8 nx lv129 (Go.Proofs.Tryz.f129.body.getD .skip) (fin Go.Proofs.Tryz.prog [.tmp 2] Q) ⟨prm 0 ds, os, nx⟩) : ACall Go.Proofs.Tryz.prog 129 ds os nx Q :=
  acall_intro hT.toS (fn := Go.Proofs.Tryz.f129) lv129 (by kernel_rfl) rfl rfl (by kernel_rfl) rfl hl rfl h
abbrev lv130 : Nat → Option (List Nat) := lvL [(0, [0]), (1, [0, 4]), (2, [2]), (3, [2])]
theorem ac130 {T : Tab} (hT : TabOk Go.Proofs.Tryz.prog T) {ds : List D} {os : List (Nat × Ob)} {nx : Nat} {Q : D → List (Nat × Ob) → Nat → Prop} (hl : ds.length ≤ 8) (h : awp Go.Proofs.Tryz.prog T 8 nx lv130 (Go.Proofs.Tryz.f130.body.getD .skip) (fin Go.Proofs.Tryz.prog [.tmp 2] Q) ⟨prm 0 ds, os, nx⟩) : ACall Go.Proofs.Tryz.prog 130 ds os nx Q :=
  acall_intro hT.toS (fn := Go.Proofs.Tryz.f130) lv130 (by kernel_rfl) rfl rfl (by kernel_rfl) rfl hl rfl h
abbrev lv131 : Nat → Option (List Nat) := lvL [(0, [0]), (1, [0, 4]), (2, [2]), (3, [2])]
theorem ac131 {T : Tab} (hT : TabOk Go.Proofs.Tryz.prog T) {ds : List D} {os : List (Nat × Ob)} {nx : Nat} {Q : D → List (Nat × Ob) → Nat → Prop} (hl : ds.length ≤ 8) (h : awp Go.Proofs.Tryz.prog T 8 nx lv131 (Go.Proofs.Tryz.f131.body.getD .skip) (fin Go.Proofs.Tryz.prog [.tmp 2] Q) ⟨prm 0 ds, os, nx⟩) : ACall Go.Proofs.Tryz.prog 131 ds os nx Q :=
  acall_intro hT.toS (fn := Go.Proofs.Tryz.f131) lv131 (by kernel_rfl) rfl rfl (by kernel_rfl) rfl hl rfl h
abbrev lv132 : Nat → Option (List Nat) := lvL [(0, [0]), (1, [0, 4]), (2, [2]), (3, [2])]
theorem ac132 {T : Tab} (hT : TabOk Go.Proofs.Tryz.prog T) {ds : List D} {os : List (Nat × Ob)} {nx : Nat} {Q : D → List (Nat × Ob) → Nat → Prop} (hl : ds.length ≤ 8) (h : awp Go.Proofs.Tryz.prog T 8 nx lv132 (Go.Proofs.Tryz.f132.body.getD .skip) (fin Go.Proofs.Tryz.prog [.tmp 2] Q) ⟨prm 0 ds, os, nx⟩) : ACall Go.Proofs.Tryz.prog 132 ds os nx Q :=
  acall_intro hT.toS (fn := Go.Proofs.Tryz.f132) lv132 (by kernel_rfl) rfl rfl (by kernel_rfl) rfl hl rfl h
abbrev lv133 : Nat → Option (List Nat) := lvL [(0, [0]), (1, [0, 4]), (2, [2]), (3, [2])]
theorem ac133 {T : Tab} (hT : TabOk Go.Proofs.Tryz.prog T) {ds : List D} {os : List (Nat × Ob)} {nx : Nat} {Q : D → List (Nat × Ob) → Nat → Prop} (hl : ds.length ≤ 8) (h : awp Go.Proofs.Tryz.prog T 8 nx lv133 (Go.Proofs.Tryz.f133.body.getD .skip) (fin Go.Proofs.Tryz.prog [.tmp 2] Q) ⟨prm 0 ds, os, nx⟩) : ACall Go.Proofs.Tryz.prog 133 ds os nx Q :=
  acall_intro hT.toS (fn := Go.Proofs.Tryz.f133) lv133 (by kernel_rfl) rfl rfl (by kernel_rfl) rfl hl rfl h
abbrev lv134 : Nat → Option (List Nat) := lvL [(0, [0]), (1, [0, 4]), (2, [2]), (3, [2])]
theorem ac134 {T : Tab} (hT : TabOk Go.Proofs.Tryz.prog T) {ds : List D} {os : List (Nat × Ob)} {nx : Nat} {Q : D → List (Nat × Ob) → Nat → Prop} (hl : ds.length ≤ 8) (h : awp Go.Proofs.Tryz.prog T 8 nx lv134 (Go.Proofs.Tryz.f134.body.getD .skip) (fin Go.Proofs.Tryz.prog [.tmp 2] Q) ⟨prm 0 ds, os, nx⟩) : ACall Go.Proofs.Tryz.prog 134 ds os nx Q :=
  acall_intro hT.toS (fn := Go.Proofs.Tryz.f134) lv134 (by kernel_rfl) rfl rfl (by kernel_rfl) rfl hl rfl h
abbrev lv135 : Nat → Option (List Nat) := lvL [(0, [0]), (1, [0, 4]), (2, [2]), (3, [2])]
theorem ac135 {T : Tab} (hT : TabOk Go.Proofs.Tryz.prog T) {ds : List D} {os : List (Nat × Ob)} {nx : Nat} {Q : D → List (Nat × Ob) → Nat → Prop} (hl : ds.length ≤ 8) (h : awp Go.Proofs.Tryz.prog T 8 nx lv135 (Go.Proofs.Tryz.f135.body.getD .skip) (fin Go.Proofs.Tryz.prog [.tmp 2] Q) ⟨prm 0 ds, os, nx⟩) : ACall Go.Proofs.Tryz.prog 135 ds os nx Q :=
  acall_intro hT.toS (fn := Go.Proofs.Tryz.f135) lv135 (by kernel_rfl) rfl rfl (by kernel_rfl) rfl hl rfl h
abbrev lv136 : Nat → Option (List Nat) := lvL [(0, [0]), (1, [0, 4]), (2, [2]), (3, [2])]
theorem ac136 {T : Tab} (hT : TabOk Go.Proofs.Tryz.prog T) {ds : List D} {os : List (Nat × Ob)} {nx : Nat} {Q : D → List (Nat × Ob) → Nat → Prop} (hl : ds.length ≤ 8) (h : awp Go.Proofs.Tryz.prog T 8 nx lv136 (Go.Proofs.Tryz.f136.body.getD .skip) (fin Go.Proofs.Tryz.prog [.tmp 2] Q) ⟨prm 0 ds, os, nx⟩) : ACall Go.Proofs.Tryz.prog 136 ds os nx Q :=
  acall_intro hT.toS (fn := Go.Proofs.Tryz.f136) lv136 (by kernel_rfl) rfl rfl (by kernel_rfl) rfl hl rfl h
abbrev lv137 : Nat → Option (List Nat) := lvL [(0, [0]), (1, [0, 4]), (2, [2]), (3, [2])]
theorem ac137 {T : Tab} (hT : TabOk Go.Proofs.Tryz.prog T) {ds : List D} {os : List (Nat × Ob)} {nx : Nat} {Q : D → List (Nat × Ob) → Nat → Prop} (hl : ds.length ≤ 8) (h : awp Go.Proofs.Tryz.prog T 8 nx lv137 (Go.Proofs.Tryz.f137.body.getD .skip) (fin Go.Proofs.Tryz.prog [.tmp 2] Q) ⟨prm 0 ds, os, nx⟩) : ACall Go.Proofs.Tryz.prog 137 ds os nx Q :=
  acall_intro hT.toS (fn := Go.Proofs.Tryz.f137) lv137 (by kernel_rfl) rfl rfl (by kernel_rfl) rfl hl rfl h
abbrev lv138 : Nat → Option (List Nat) := lvL [(0, [0, 1, 2]), (1, [0, 2, 7]), (2, [4]), (3, []), (4, [4])]
theorem ac138 {T : Tab} (hT : TabOk Go.Proofs.Tryz.prog T) {ds : List D} {os : List (Nat × Ob)} {nx : Nat} {Q : D → List (Nat × Ob) → Nat → Prop} (hl : ds.length ≤ 12) (h : awp Go.Proofs.Tryz.prog T 12 nx lv138 (Go.Proofs.Tryz.f138.body.getD .skip) (fin Go.Proofs.Tryz.prog [.tmp 4] Q) ⟨prm 0 ds, os, nx⟩) : ACall Go.Proofs.Tryz.prog 138 ds os nx Q :=
  acall_intro hT.toS (fn := Go.Proofs.Tryz.f138) lv138 (by kernel_rfl) rfl rfl (by kernel_rfl) rfl hl rfl h
abbrev lv139 : Nat → Option (List Nat) := lvL [(0, [0, 3]), (1, [4])]
theorem ac139 {T : Tab} (hT : TabOk Go.Proofs.Tryz.prog T) {ds : List D} {os : List (Nat × Ob)} {nx : Nat} {Q : D → List (Nat × Ob) → Nat → Prop} (hl : ds.length ≤ 8) (h : awp Go.Proofs.Tryz.prog T 8 nx lv139 (Go.Proofs.Tryz.f139.body.getD .skip) (fin Go.Proofs.Tryz.prog [.tmp 4] Q) ⟨prm 0 ds, os, nx⟩) : ACall Go.Proofs.Tryz.prog 139 ds os nx Q :=
  acall_intro hT.toS (fn := Go.Proofs.Tryz.f139) lv139 (by kernel_rfl) rfl rfl (by kernel_rfl) rfl hl rfl h
abbrev lv154 : Nat → Option (List Nat) := lvL [(0, [0, 1]), (1, [0, 1, 7]), (2, [0, 1, 7, 13]), (3, [4, 5, 6]), (4, [8, 9]), (5, [4, 5, 6])]
theorem ac154 {T : Tab} (hT : TabOk Go.Proofs.Tryz.prog T) {ds : List D} {os : List (Nat × Ob)} {nx : Nat} {Q : D → List (Nat × Ob) → Nat → Prop} (hl : ds.length ≤ 23) (h : awp Go.Proofs.Tryz.prog T 23 nx lv154 (Go.Proofs.Tryz.f154.body.getD .skip) (fin Go.Proofs.Tryz.prog [.tmp 4, .tmp 5, .tmp 6] Q) ⟨prm 0 ds, os, nx⟩) : ACall Go.Proofs.Tryz.prog 154 ds os nx Q :=
  acall_intro hT.toS (fn := Go.Proofs.Tryz.f154) lv154 (by kernel_rfl) rfl rfl (by kernel_rfl) rfl hl rfl h
abbrev lv155 : Nat → Option (List Nat) := lvL [(0, [0, 1, 2]), (1, [0, 1, 2]), (2, [0, 1, 2, 7]), (3, [0, 1, 2, 7, 16]), (4, [6]), (5, [0, 1, 2, 7, 8]), (6, [0, 1, 2, 7, 8, 22]), (7, [6]), (8, [0, 1, 2, 7, 8, 31]), (9, [0, 1, 2, 7, 9]), (10, [0, 1, 7, 9]), (11, [9]), (12, [6]), (13, [0, 1, 2, 7, 8]), (14, [0, 1, 2, 7, 8, 68]), (15, [0, 1, 2]), (16, [0]), (17, [6]), (18, [0, 1, 7]), (19, [0]), (20, [6])]
@[go_sem] def us155_11 : List Nat := [0, 0, 0, 6, 15, 0, 0, 96, 255]
@[go_sem] def us155_15 : List Nat := [0, 0, 0, 6, 15, 0, 0, 96, 255]
theorem ac155 {T : Tab} (hT : TabOk Go.Proofs.Tryz.prog T) {ds : List D} {os : List (Nat × Ob)} {nx : Nat} {Q : D → List (Nat × Ob) → Nat → Prop} (hl : ds.length ≤ 95) (h : awp Go.Proofs.Tryz.prog T 95 nx lv155 (Go.Proofs.Tryz.f155.body.getD .skip) (fin Go.Proofs.Tryz.prog [.tmp 6] Q) ⟨prm 0 ds, os, nx⟩) : ACall Go.Proofs.Tryz.prog 155 ds os nx Q :=
  acall_intro hT.toS (fn := Go.Proofs.Tryz.f155) lv155 (by kernel_rfl) rfl rfl (by kernel_rfl) rfl hl rfl h
abbrev lv159 : Nat → Option (List Nat) := lvL [(0, [0]), (1, [4]), (2, [2])]
theorem ac159 {T : Tab} (hT : TabOk Go.Proofs.Tryz.prog T) {ds : List D} {os : List (Nat × Ob)} {nx : Nat} {Q : D → List (Nat × Ob) → Nat → Prop} (hl : ds.length ≤ 11) (h : awp Go.Proofs.Tryz.prog T 11 nx lv159 (Go.Proofs.Tryz.f159.body.getD .skip) (fin Go.Proofs.Tryz.prog [.tmp 2] Q) ⟨prm 0 ds, os, nx⟩) : ACall Go.Proofs.Tryz.prog 159 ds os nx Q :=
  acall_intro hT.toS (fn := Go.Proofs.Tryz.f159) lv159 (by kernel_rfl) rfl rfl (by kernel_rfl) rfl hl rfl h
abbrev lv160 : Nat → Option (List Nat) := lvL [(0, [0]), (1, [0, 7]), (2, [2]), (3, [0, 8, 9, 10]), (4, [0, 8, 9, 10, 11]), (5, [0, 3, 4, 8, 9, 10]), (6, [0, 8, 9, 10, 43]), (7, [2]), (8, [0, 8, 9, 10]), (9, [2])]
@[go_sem] def us160_6 : List Nat := [0, 1, 3, 7, 7, 23, 63, 127, 7, 263, 1023, 2047, 4095, 8191, 16383, 32767, 65535, 131071, 262143, 524287, 1048575, 2097151, 4194303, 8388607, 16777215, 33554431, 67108863, 134217727, 268435455]
theorem ac160 {T : Tab} (hT : TabOk Go.Proofs.Tryz.prog T) {ds : List D} {os : List (Nat × Ob)} {nx : Nat} {Q : D → List (Nat × Ob) → Nat → Prop} (hl : ds.length ≤ 45) (h : awp Go.Proofs.Tryz.prog T 45 nx lv160 (Go.Proofs.Tryz.f160.body.getD .skip) (fin Go.Proofs.Tryz.prog [.tmp 2] Q) ⟨prm 0 ds, os, nx⟩) : ACall Go.Proofs.Tryz.prog 160 ds os nx Q :=
  acall_intro hT.toS (fn := Go.Proofs.Tryz.f160) lv160 (by kernel_rfl) rfl rfl (by kernel_rfl) rfl hl rfl h
abbrev lv161 : Nat → Option (List Nat) := lvL [(0, [1, 2, 31]), (1, [1, 2, 24, 31]), (2, [2]), (3, [1, 2, 3, 31]), (4, [2, 3, 29, 31]), (5, [2, 3, 5, 31]), (6, [2, 3, 5, 31]), (7, [2, 3, 31, 43]), (8, [2]), (9, [2])]
theorem ac161 {T : Tab} (hT : TabOk Go.Proofs.Tryz.prog T) {ds : List D} {os : List (Nat × Ob)} {nx : Nat} {Q : D → List (Nat × Ob) → Nat → Prop} (hl : ds.length ≤ 44) (h : awp Go.Proofs.Tryz.prog T 44 nx lv161 (Go.Proofs.Tryz.f161.body.getD .skip) (fin Go.Proofs.Tryz.prog [.cell 2 50] Q) ⟨prm 0 ds, os, nx⟩) : ACall Go.Proofs.Tryz.prog 161 ds os nx Q :=
  acall_intro hT.toS (fn := Go.Proofs.Tryz.f161) lv161 (by kernel_rfl) rfl rfl (by kernel_rfl) rfl hl rfl h
abbrev lv162 : Nat → Option (List Nat) := lvL [(0, [0, 1]), (1, [0, 1, 22]), (2, [4, 5]), (3, [0, 1, 6, 7, 8]), (4, [0, 6, 7, 8, 25, 26, 27]), (5, [0, 6, 7, 8, 25, 26, 27, 28]), (6, [0, 6, 7, 8, 10, 25, 26, 27]), (7, [0, 6, 7, 8, 10, 25, 26, 27]), (8, [0, 6, 7, 8, 10, 25, 26, 27, 40]), (9, [4, 5]), (10, [0, 6, 7, 8, 10, 25, 26, 27, 42, 43, 44]), (11, [0, 6, 7, 8, 10, 25, 26, 27, 42, 43, 44, 45]), (12, [0, 6, 7, 8, 10, 12, 25, 26, 27, 42, 43, 44]), (13, [0, 6, 7, 8, 10, 25, 26, 27, 42, 43, 44]), (14, [0, 6, 7, 8, 10, 25, 26, 27, 42, 43, 44]), (15, [0, 6, 7, 8, 10, 25, 26, 27, 42, 43, 44]), (16, [0, 6, 7, 8, 25, 26, 27]), (17, [6, 8, 61, 62, 63]), (18, [6, 8, 61, 62, 63, 64]), (19, [6, 8, 14, 61, 62, 63]), (20, [6, 8, 14, 61, 62, 63, 69]), (21, [6, 8, 61, 62, 63, 80]), (22, [4, 5]), (23, [6, 8, 61, 62, 63]), (24, [6, 8, 61, 62, 63]), (25, [4, 5])]
@[go_sem] def us162_13 : List Nat := [0, 0, 2, 0, 14, 31, 63, 31, 159, 511]
theorem ac162 {T : Tab} (hT : TabOk Go.Proofs.Tryz.prog T) {ds : List D} {os : List (Nat × Ob)} {nx : Nat} {Q : D → List (Nat × Ob) → Nat → Prop} (hl : ds.length ≤ 86) (h : awp Go.Proofs.Tryz.prog T 86 nx lv162 (Go.Proofs.Tryz.f162.body.getD .skip) (fin Go.Proofs.Tryz.prog [.tmp 4, .tmp 5] Q) ⟨prm 0 ds, os, nx⟩) : ACall Go.Proofs.Tryz.prog 162 ds os nx Q :=
  acall_intro hT.toS (fn := Go.Proofs.Tryz.f162) lv162 (by kernel_rfl) rfl rfl (by kernel_rfl) rfl hl rfl h
abbrev lv163 : Nat → Option (List Nat) := lvL [(0, [1, 2]), (1, [4])]
theorem ac163 {T : Tab} (hT : TabOk Go.Proofs.Tryz.prog T) {ds : List D} {os : List (Nat × Ob)} {nx : Nat} {Q : D → List (Nat × Ob) → Nat → Prop} (hl : ds.length ≤ 9) (h : awp Go.Proofs.Tryz.prog T 9 nx lv163 (Go.Proofs.Tryz.f163.body.getD .skip) (fin Go.Proofs.Tryz.prog [.tmp 4] Q) ⟨prm 0 ds, os, nx⟩) : ACall Go.Proofs.Tryz.prog 163 ds os nx Q :=
  acall_intro hT.toS (fn := Go.Proofs.Tryz.f163) lv163 (by kernel_rfl) rfl rfl (by kernel_rfl) rfl hl rfl h
abbrev lv164 : Nat → Option (List Nat) := lvL [(0, [1]), (1, [2])]
theorem ac164 {T : Tab} (hT : TabOk Go.Proofs.Tryz.prog T) {ds : List D} {os : List (Nat × Ob)} {nx : Nat} {Q : D → List (Nat × Ob) → Nat → Prop} (hl : ds.length ≤ 11) (h : awp Go.Proofs.Tryz.prog T 11 nx lv164 (Go.Proofs.Tryz.f164.body.getD .skip) (fin Go.Proofs.Tryz.prog [.tmp 2] Q) ⟨prm 0 ds, os, nx⟩) : ACall Go.Proofs.Tryz.prog 164 ds os nx Q :=
  acall_intro hT.toS (fn := Go.Proofs.Tryz.f164) lv164 (by kernel_rfl) rfl rfl (by kernel_rfl) rfl hl rfl h
abbrev lv165 : Nat → Option (List Nat) := lvL [(0, [1, 2]), (1, [4])]
theorem ac165 {T : Tab} (hT : TabOk Go.Proofs.Tryz.prog T) {ds : List D} {os : List (Nat × Ob)} {nx : Nat} {Q : D → List (Nat × Ob) → Nat → Prop} (hl : ds.length ≤ 9) (h : awp Go.Proofs.Tryz.prog T 9 nx lv165 (Go.Proofs.Tryz.f165.body.getD .skip) (fin Go.Proofs.Tryz.prog [.tmp 4] Q) ⟨prm 0 ds, os, nx⟩) : ACall Go.Proofs.Tryz.prog 165 ds os nx Q :=
  acall_intro hT.toS (fn := Go.Proofs.Tryz.f165) lv165 (by kernel_rfl) rfl rfl (by kernel_rfl) rfl hl rfl h
abbrev lv166 : Nat → Option (List Nat) := lvL [(0, [2, 3]), (1, [4])]
@[go_sem] def us166_1 : List Nat := [0, 1, 0, 4, 15, 0, 32, 0, 128, 511, 1023, 2047, 4095]
theorem ac166 {T : Tab} (hT : TabOk Go.Proofs.Tryz.prog T) {ds : List D} {os : List (Nat × Ob)} {nx : Nat} {Q : D → List (Nat × Ob) → Nat → Prop} (hl : ds.length ≤ 17) (h : awp Go.Proofs.Tryz.prog T 17 nx lv166 (Go.Proofs.Tryz.f166.body.getD .skip) (fin Go.Proofs.Tryz.prog [.tmp 4] Q) ⟨prm 0 ds, os, nx⟩) : ACall Go.Proofs.Tryz.prog 166 ds os nx Q :=
  acall_intro hT.toS (fn := Go.Proofs.Tryz.f166) lv166 (by kernel_rfl) rfl rfl (by kernel_rfl) rfl hl rfl h
abbrev lv186 : Nat → Option (List Nat) := lvL [(0, [1, 2]), (1, [3])]
theorem ac186 {T : Tab} (hT : TabOk Go.Proofs.Tryz.prog T) {ds : List D} {os : List (Nat × Ob)} {nx : Nat} {Q : D → List (Nat × Ob) → Nat → Prop} (hl : ds.length ≤ 13) (h : awp Go.Proofs.Tryz.prog T 13 nx lv186 (Go.Proofs.Tryz.f186.body.getD .skip) (fin Go.Proofs.Tryz.prog [.tmp 3] Q) ⟨prm 0 ds, os, nx⟩) : ACall Go.Proofs.Tryz.prog 186 ds os nx Q :=
  acall_intro hT.toS (fn := Go.Proofs.Tryz.f186) lv186 (by kernel_rfl) rfl rfl (by kernel_rfl) rfl hl rfl h
abbrev lv187 : Nat → Option (List Nat) := lvL [(0, [1, 2]), (1, [2, 13]), (2, [4]), (3, [4])]
theorem ac187 {T : Tab} (hT : TabOk Go.Proofs.Tryz.prog T) {ds : List D} {os : List (Nat × Ob)} {nx : Nat} {Q : D → List (Nat × Ob) → Nat → Prop} (hl : ds.length ≤ 16) (h : awp Go.Proofs.Tryz.prog T 16 nx lv187 (Go.Proofs.Tryz.f187.body.getD .skip) (fin Go.Proofs.Tryz.prog [.tmp 4] Q) ⟨prm 0 ds, os, nx⟩) : ACall Go.Proofs.Tryz.prog 187 ds os nx Q :=
  acall_intro hT.toS (fn := Go.Proofs.Tryz.f187) lv187 (by kernel_rfl) rfl rfl (by kernel_rfl) rfl hl rfl h
abbrev lv188 : Nat → Option (List Nat) := lvL [(0, [0, 1]), (1, [0, 1, 5]), (2, [0, 1, 5, 12]), (3, [4]), (4, [0, 1, 5, 6]), (5, [0, 1, 5, 6, 19]), (6, [0, 1, 5, 6]), (7, [0, 1, 5, 6, 7]), (8, [0, 1, 5, 6, 7, 29]), (9, [0, 1, 5, 6]), (10, [0, 1, 5, 6]), (11, [0, 5]), (12, [4])]
theorem ac188 {T : Tab} (hT : TabOk Go.Proofs.Tryz.prog T) {ds : List D} {os : List (Nat × Ob)} {nx : Nat} {Q : D → List (Nat × Ob) → Nat → Prop} (hl : ds.length ≤ 42) (h : awp Go.Proofs.Tryz.prog T 42 nx lv188 (Go.Proofs.Tryz.f188.body.getD .skip) (fin Go.Proofs.Tryz.prog [.tmp 4] Q) ⟨prm 0 ds, os, nx⟩) : ACall Go.Proofs.Tryz.prog 188 ds os nx Q :=
  acall_intro hT.toS (fn := Go.Proofs.Tryz.f188) lv188 (by kernel_rfl) rfl rfl (by kernel_rfl) rfl hl rfl h
abbrev lv189 : Nat → Option (List Nat) := lvL [(0, [1, 2]), (1, [1, 2]), (2, [1, 2, 28, 29, 30]), (3, [1, 2, 28, 29, 30, 31]), (4, [1, 2, 3, 4, 28, 29, 30]), (5, [1, 2, 28, 29, 30]), (6, [1, 2, 28, 29, 30]), (7, [2])]
@[go_sem] def us189_1 : List Nat := [0, 1, 3, 0, 8, 31, 0, 64, 255, 0, 512, 2047, 0, 4096, 12288, 32767, 30431, 131071, 262143, 524287, 1048575, 2097151, 4194303, 8388607, 16777215, 33554431, 67108863]
@[go_sem] def us189_5 : List Nat := [0, 1, 0, 0, 8, 24, 63, 127, 255]
theorem ac189 {T : Tab} (hT : TabOk Go.Proofs.Tryz.prog T) {ds : List D} {os : List (Nat × Ob)} {nx : Nat} {Q : D → List (Nat × Ob) → Nat → Prop} (hl : ds.length ≤ 45) (h : awp Go.Proofs.Tryz.prog T 45 nx lv189 (Go.Proofs.Tryz.f189.body.getD .skip) (fin Go.Proofs.Tryz.prog [.cell 2 40] Q) ⟨prm 0 ds, os, nx⟩) : ACall Go.Proofs.Tryz.prog 189 ds os nx Q :=
  acall_intro hT.toS (fn := Go.Proofs.Tryz.f189) lv189 (by kernel_rfl) rfl rfl (by kernel_rfl) rfl hl rfl h
abbrev lv194 : Nat → Option (List Nat) := lvL [(0, [0]), (1, [2])]
theorem ac194 {T : Tab} (hT : TabOk Go.Proofs.Tryz.prog T) {ds : List D} {os : List (Nat × Ob)} {nx : Nat} {Q : D → List (Nat × Ob) → Nat → Prop} (hl : ds.length ≤ 6) (h : awp Go.Proofs.Tryz.prog T 6 nx lv194 (Go.Proofs.Tryz.f194.body.getD .skip) (fin Go.Proofs.Tryz.prog [.tmp 2] Q) ⟨prm 0 ds, os, nx⟩) : ACall Go.Proofs.Tryz.prog 194 ds os nx Q :=
  acall_intro hT.toS (fn := Go.Proofs.Tryz.f194) lv194 (by kernel_rfl) rfl rfl (by kernel_rfl) rfl hl rfl h
abbrev lv195 : Nat → Option (List Nat) := lvL [(0, [0, 1]), (1, [4])]
theorem ac195 {T : Tab} (hT : TabOk Go.Proofs.Tryz.prog T) {ds : List D} {os : List (Nat × Ob)} {nx : Nat} {Q : D → List (Nat × Ob) → Nat → Prop} (hl : ds.length ≤ 9) (h : awp Go.Proofs.Tryz.prog T 9 nx lv195 (Go.Proofs.Tryz.f195.body.getD .skip) (fin Go.Proofs.Tryz.prog [.tmp 4] Q) ⟨prm 0 ds, os, nx⟩) : ACall Go.Proofs.Tryz.prog 195 ds os nx Q :=
  acall_intro hT.toS (fn := Go.Proofs.Tryz.f195) lv195 (by kernel_rfl) rfl rfl (by kernel_rfl) rfl hl rfl h
abbrev lv196 : Nat → Option (List Nat) := lvL [(0, [0]), (1, [0, 12]), (2, [2, 3]), (3, [0, 4]), (4, [4, 14, 15, 16]), (5, [4, 14, 15, 16, 17]), (6, [4, 6, 14, 15, 16]), (7, [4, 6, 7, 14, 15, 16]), (8, [4, 6, 7, 14, 15, 16, 23]), (9, [2, 3]), (10, [4, 6, 14, 15, 16, 27]), (11, [4, 6, 8, 9, 14, 15, 16]), (12, [4, 6, 14, 15, 16, 42]), (13, [4, 14, 15, 16]), (14, [4, 14, 15, 16]), (15, [2, 3])]
theorem ac196 {T : Tab} (hT : TabOk Go.Proofs.Tryz.prog T) {ds : List D} {os : List (Nat × Ob)} {nx : Nat} {Q : D → List (Nat × Ob) → Nat → Prop} (hl : ds.length ≤ 50) (h : awp Go.Proofs.Tryz.prog T 50 nx lv196 (Go.Proofs.Tryz.f196.body.getD .skip) (fin Go.Proofs.Tryz.prog [.tmp 2, .tmp 3] Q) ⟨prm 0 ds, os, nx⟩) : ACall Go.Proofs.Tryz.prog 196 ds os nx Q :=
  acall_intro hT.toS (fn := Go.Proofs.Tryz.f196) lv196 (by kernel_rfl) rfl rfl (by kernel_rfl) rfl hl rfl h
abbrev lv197 : Nat → Option (List Nat) := lvL [(0, [0, 1, 2]), (1, [0, 9, 10]), (2, [0, 9, 20]), (3, [6, 7, 8]), (4, [6, 7, 8])]
theorem ac197 {T : Tab} (hT : TabOk Go.Proofs.Tryz.prog T) {ds : List D} {os : List (Nat × Ob)} {nx : Nat} {Q : D → List (Nat × Ob) → Nat → Prop} (hl : ds.length ≤ 28) (h : awp Go.Proofs.Tryz.prog T 28 nx lv197 (Go.Proofs.Tryz.f197.body.getD .skip) (fin Go.Proofs.Tryz.prog [.tmp 6, .tmp 7, .tmp 8] Q) ⟨prm 0 ds, os, nx⟩) : ACall Go.Proofs.Tryz.prog 197 ds os nx Q :=
  acall_intro hT.toS (fn := Go.Proofs.Tryz.f197) lv197 (by kernel_rfl) rfl rfl (by kernel_rfl) rfl hl rfl h
abbrev lv198 : Nat → Option (List Nat) := lvL [(0, [0, 2]), (1, [0, 2, 3]), (2, [0, 2, 3, 9]), (3, [2, 3]), (4, [2, 11, 12, 13]), (5, [2, 11, 12, 13, 14]), (6, [2, 5, 11, 12, 13]), (7, [2, 11, 12, 13]), (8, [2, 11, 12, 13, 21]), (9, [2, 3]), (10, [2, 11, 12, 13]), (11, [2, 3])]
theorem ac198 {T : Tab} (hT : TabOk Go.Proofs.Tryz.prog T) {ds : List D} {os : List (Nat × Ob)} {nx : Nat} {Q : D → List (Nat × Ob) → Nat → Prop} (hl : ds.length ≤ 24) (h : awp Go.Proofs.Tryz.prog T 24 nx lv198 (Go.Proofs.Tryz.f198.body.getD .skip) (fin Go.Proofs.Tryz.prog [.tmp 2, .tmp 3] Q) ⟨prm 0 ds, os, nx⟩) : ACall Go.Proofs.Tryz.prog 198 ds os nx Q :=
  acall_intro hT.toS (fn := Go.Proofs.Tryz.f198) lv198 (by kernel_rfl) rfl rfl (by kernel_rfl) rfl hl rfl h
abbrev lv199 : Nat → Option (List Nat) := lvL [(0, [0, 1]), (1, [0, 1, 7, 8]), (2, [0, 1, 7, 8, 9]), (3, [0, 1, 5, 7, 8]), (4, [0, 1, 5, 7, 8, 16]), (5, [4]), (6, [0, 1, 7, 8]), (7, [4])]
theorem ac199 {T : Tab} (hT : TabOk Go.Proofs.Tryz.prog T) {ds : List D} {os : List (Nat × Ob)} {nx : Nat} {Q : D → List (Nat × Ob) → Nat → Prop} (hl : ds.length ≤ 19) (h : awp Go.Proofs.Tryz.prog T 19 nx lv199 (Go.Proofs.Tryz.f199.body.getD .skip) (fin Go.Proofs.Tryz.prog [.tmp 4] Q) ⟨prm 0 ds, os, nx⟩) : ACall Go.Proofs.Tryz.prog 199 ds os nx Q :=
  acall_intro hT.toS (fn := Go.Proofs.Tryz.f199) lv199 (by kernel_rfl) rfl rfl (by kernel_rfl) rfl hl rfl h
abbrev lv200 : Nat → Option (List Nat) := lvL [(0, [1, 2]), (1, [2])]
theorem ac200 {T : Tab} (hT : TabOk Go.Proofs.Tryz.prog T) {ds : List D} {os : List (Nat × Ob)} {nx : Nat} {Q : D → List (Nat × Ob) → Nat → Prop} (hl : ds.length ≤ 11) (h : awp Go.Proofs.Tryz.prog T 11 nx lv200 (Go.Proofs.Tryz.f200.body.getD .skip) (fin Go.Proofs.Tryz.prog [.cell 2 239] Q) ⟨prm 0 ds, os, nx⟩) : ACall Go.Proofs.Tryz.prog 200 ds os nx Q :=
  acall_intro hT.toS (fn := Go.Proofs.Tryz.f200) lv200 (by kernel_rfl) rfl rfl (by kernel_rfl) rfl hl rfl h
abbrev lv201 : Nat → Option (List Nat) := lvL [(0, [0]), (1, [2])]
theorem ac201 {T : Tab} (hT : TabOk Go.Proofs.Tryz.prog T) {ds : List D} {os : List (Nat × Ob)} {nx : Nat} {Q : D → List (Nat × Ob) → Nat → Prop} (hl : ds.length ≤ 9) (h : awp Go.Proofs.Tryz.prog T 9 nx lv201 (Go.Proofs.Tryz.f201.body.getD .skip) (fin Go.Proofs.Tryz.prog [.tmp 2] Q) ⟨prm 0 ds, os, nx⟩) : ACall Go.Proofs.Tryz.prog 201 ds os nx Q :=
  acall_intro hT.toS (fn := Go.Proofs.Tryz.f201) lv201 (by kernel_rfl) rfl rfl (by kernel_rfl) rfl hl rfl h
abbrev lv202 : Nat → Option (List Nat) := lvL [(0, [0]), (1, [0, 9]), (2, [2, 3]), (3, [2, 3])]
theorem ac202 {T : Tab} (hT : TabOk Go.Proofs.Tryz.prog T) {ds : List D} {os : List (Nat × Ob)} {nx : Nat} {Q : D → List (Nat × Ob) → Nat → Prop} (hl : ds.length ≤ 13) (h : awp Go.Proofs.Tryz.prog T 13 nx lv202 (Go.Proofs.Tryz.f202.body.getD .skip) (fin Go.Proofs.Tryz.prog [.tmp 2, .tmp 3] Q) ⟨prm 0 ds, os, nx⟩) : ACall Go.Proofs.Tryz.prog 202 ds os nx Q :=
  acall_intro hT.toS (fn := Go.Proofs.Tryz.f202) lv202 (by kernel_rfl) rfl rfl (by kernel_rfl) rfl hl rfl h
abbrev lv203 : Nat → Option (List Nat) := lvL [(0, [1]), (1, [2])]
theorem ac203 {T : Tab} (hT : TabOk Go.Proofs.Tryz.prog T) {ds : List D} {os : List (Nat × Ob)} {nx : Nat} {Q : D → List (Nat × Ob) → Nat → Prop} (hl : ds.length ≤ 6) (h : awp Go.Proofs.Tryz.prog T 6 nx lv203 (Go.Proofs.Tryz.f203.body.getD .skip) (fin Go.Proofs.Tryz.prog [.tmp 2] Q) ⟨prm 0 ds, os, nx⟩) : ACall Go.Proofs.Tryz.prog 203 ds os nx Q :=
  acall_intro hT.toS (fn := Go.Proofs.Tryz.f203) lv203 (by kernel_rfl) rfl rfl (by kernel_rfl) rfl hl rfl h
abbrev lv204 : Nat → Option (List Nat) := lvL [(0, [1]), (1, [2])]
theorem ac204 {T : Tab} (hT : TabOk Go.Proofs.Tryz.prog T) {ds : List D} {os : List (Nat × Ob)} {nx : Nat} {Q : D → List (Nat × Ob) → Nat → Prop} (hl : ds.length ≤ 13) (h : awp Go.Proofs.Tryz.prog T 13 nx lv204 (Go.Proofs.Tryz.f204.body.getD .skip) (fin Go.Proofs.Tryz.prog [.tmp 2] Q) ⟨prm 0 ds, os, nx⟩) : ACall Go.Proofs.Tryz.prog 204 ds os nx Q :=
  acall_intro hT.toS (fn := Go.Proofs.Tryz.f204) lv204 (by kernel_rfl) rfl rfl (by kernel_rfl) rfl hl rfl h
abbrev lv205 : Nat → Option (List Nat) := lvL [(0, [0, 1]), (1, [4])]
theorem ac205 {T : Tab} (hT : TabOk Go.Proofs.Tryz.prog T) {ds : List D} {os : List (Nat × Ob)} {nx : Nat} {Q : D → List (Nat × Ob) → Nat → Prop} (hl : ds.length ≤ 9) (h : awp Go.Proofs.Tryz.prog T 9 nx lv205 (Go.Proofs.Tryz.f205.body.getD .skip) (fin Go.Proofs.Tryz.prog [.tmp 4] Q) ⟨prm 0 ds, os, nx⟩) : ACall Go.Proofs.Tryz.prog 205 ds os nx Q :=
  acall_intro hT.toS (fn := Go.Proofs.Tryz.f205) lv205 (by kernel_rfl) rfl rfl (by kernel_rfl) rfl hl rfl h
abbrev lv206 : Nat → Option (List Nat) := lvL [(0, [0]), (1, [0, 7]), (2, [0]), (3, [0, 3]), (4, [0, 3, 4]), (5, [0, 3, 4, 15]), (6, [0, 3, 4]), (7, [0, 3, 4]), (8, [2])]
theorem ac206 {T : Tab} (hT : TabOk Go.Proofs.Tryz.prog T) {ds : List D} {os : List (Nat × Ob)} {nx : Nat} {Q : D → List (Nat × Ob) → Nat → Prop} (hl : ds.length ≤ 25) (h : awp Go.Proofs.Tryz.prog T 25 nx lv206 (Go.Proofs.Tryz.f206.body.getD .skip) (fin Go.Proofs.Tryz.prog [.tmp 2] Q) ⟨prm 0 ds, os, nx⟩) : ACall Go.Proofs.Tryz.prog 206 ds os nx Q :=
  acall_intro hT.toS (fn := Go.Proofs.Tryz.f206) lv206 (by kernel_rfl) rfl rfl (by kernel_rfl) rfl hl rfl h
abbrev lv207 : Nat → Option (List Nat) := lvL [(0, [0, 1]), (1, [4])]
theorem ac207 {T : Tab} (hT : TabOk Go.Proofs.Tryz.prog T) {ds : List D} {os : List (Nat × Ob)} {nx : Nat} {Q : D → List (Nat × Ob) → Nat → Prop} (hl : ds.length ≤ 9) (h : awp Go.Proofs.Tryz.prog T 9 nx lv207 (Go.Proofs.Tryz.f207.body.getD .skip) (fin Go.Proofs.Tryz.prog [.tmp 4] Q) ⟨prm 0 ds, os, nx⟩) : ACall Go.Proofs.Tryz.prog 207 ds os nx Q :=
  acall_intro hT.toS (fn := Go.Proofs.Tryz.f207) lv207 (by kernel_rfl) rfl rfl (by kernel_rfl) rfl hl rfl h
abbrev lv208 : Nat → Option (List Nat) := lvL [(0, [1, 2]), (1, [3])]
theorem ac208 {T : Tab} (hT : TabOk Go.Proofs.Tryz.prog T) {ds : List D} {os : List (Nat × Ob)} {nx : Nat} {Q : D → List (Nat × Ob) → Nat → Prop} (hl : ds.length ≤ 8) (h : awp Go.Proofs.Tryz.prog T 8 nx lv208 (Go.Proofs.Tryz.f208.body.getD .skip) (fin Go.Proofs.Tryz.prog [.tmp 3] Q) ⟨prm 0 ds, os, nx⟩) : ACall Go.Proofs.Tryz.prog 208 ds os nx Q :=
  acall_intro hT.toS (fn := Go.Proofs.Tryz.f208) lv208 (by kernel_rfl) rfl rfl (by kernel_rfl) rfl hl rfl h
abbrev lv215 : Nat → Option (List Nat) := lvL [(0, [0, 1, 2]), (1, [0, 1, 2, 8]), (2, [0, 1, 2, 8, 9, 10]), (3, [0, 1, 2, 8, 9, 10, 17]), (4, [0, 1, 2, 8, 9, 10, 11]), (5, [0, 1, 2, 8, 9, 10, 11, 31]), (6, [0, 1, 2, 8, 9, 10]), (7, [0, 1, 2, 8, 9, 10]), (8, [6, 7])]
theorem ac215 {T : Tab} (hT : TabOk Go.Proofs.Tryz.prog T) {ds : List D} {os : List (Nat × Ob)} {nx : Nat} {Q : D → List (Nat × Ob) → Nat → Prop} (hl : ds.length ≤ 49) (h : awp Go.Proofs.Tryz.prog T 49 nx lv215 (Go.Proofs.Tryz.f215.body.getD .skip) (fin Go.Proofs.Tryz.prog [.tmp 6, .tmp 7] Q) ⟨prm 0 ds, os, nx⟩) : ACall Go.Proofs.Tryz.prog 215 ds os nx Q :=
  acall_intro hT.toS (fn := Go.Proofs.Tryz.f215) lv215 (by kernel_rfl) rfl rfl (by kernel_rfl) rfl hl rfl h
abbrev lv219 : Nat → Option (List Nat) := lvL [(0, [0]), (1, [0, 16]), (2, [2, 3]), (3, [0, 4, 5]), (4, [0, 4, 5, 18, 19, 20]), (5, [0, 4, 5, 18, 19, 20, 21]), (6, [0, 4, 5, 6, 7, 18, 19, 20]), (7, [0, 4, 5, 6, 7, 8, 9, 18, 19, 20]), (8, [0, 4, 5, 6, 7, 8, 18, 19, 20, 46]), (9, [2, 3]), (10, [0, 4, 5, 6, 7, 9, 18, 19, 20]), (11, [0, 4, 5, 6, 7, 18, 19, 20, 55]), (12, [2, 3]), (13, [0, 4, 5, 6, 18, 19, 20, 57, 58, 59]), (14, [0, 4, 5, 6, 18, 19, 20, 57, 58, 59, 60]), (15, [0, 4, 5, 6, 11, 18, 19, 20, 57, 58, 59]), (16, [0, 4, 5, 6, 11, 13, 18, 19, 20, 57, 58, 59]), (17, [0, 4, 5, 6, 11, 18, 19, 20, 57, 58, 59, 70]), (18, [2, 3]), (19, [0, 4, 5, 6, 18, 19, 20, 57, 58, 59]), (20, [0, 4, 5, 6, 18, 19, 20, 57, 58, 59]), (21, [0, 4, 5, 18, 19, 20]), (22, [2, 3])]
@[go_sem] def us219_8 : List Nat := [0, 1, 3, 7, 15, 31, 63, 63, 191, 511, 1023, 63, 2111, 8191, 16383, 32767, 65535]
theorem ac219 {T : Tab} (hT : TabOk Go.Proofs.Tryz.prog T) {ds : List D} {os : List (Nat × Ob)} {nx : Nat} {Q : D → List (Nat × Ob) → Nat → Prop} (hl : ds.length ≤ 78) (h : awp Go.Proofs.Tryz.prog T 78 nx lv219 (Go.Proofs.Tryz.f219.body.getD .skip) (fin Go.Proofs.Tryz.prog [.tmp 2, .tmp 3] Q) ⟨prm 0 ds, os, nx⟩) : ACall Go.Proofs.Tryz.prog 219 ds os nx Q :=
  acall_intro hT.toS (fn := Go.Proofs.Tryz.f219) lv219 (by kernel_rfl) rfl rfl (by kernel_rfl) rfl hl rfl h
abbrev lv220 : Nat → Option (List Nat) := lvL [(0, [1, 2]), (1, [4])]
theorem ac220 {T : Tab} (hT : TabOk Go.Proofs.Tryz.prog T) {ds : List D} {os : List (Nat × Ob)} {nx : Nat} {Q : D → List (Nat × Ob) → Nat → Prop} (hl : ds.length ≤ 9) (h : awp Go.Proofs.Tryz.prog T 9 nx lv220 (Go.Proofs.Tryz.f220.body.getD .skip) (fin Go.Proofs.Tryz.prog [.tmp 4] Q) ⟨prm 0 ds, os, nx⟩) : ACall Go.Proofs.Tryz.prog 220 ds os nx Q :=
  acall_intro hT.toS (fn := Go.Proofs.Tryz.f220) lv220 (by kernel_rfl) rfl rfl (by kernel_rfl) rfl hl rfl h
abbrev lv221 : Nat → Option (List Nat) := lvL [(0, [0]), (1, [2])]
theorem ac221 {T : Tab} (hT : TabOk Go.Proofs.Tryz.prog T) {ds : List D} {os : List (Nat × Ob)} {nx : Nat} {Q : D → List (Nat × Ob) → Nat → Prop} (hl : ds.length ≤ 11) (h : awp Go.Proofs.Tryz.prog T 11 nx lv221 (Go.Proofs.Tryz.f221.body.getD .skip) (fin Go.Proofs.Tryz.prog [.tmp 2] Q) ⟨prm 0 ds, os, nx⟩) : ACall Go.Proofs.Tryz.prog 221 ds os nx Q :=
  acall_intro hT.toS (fn := Go.Proofs.Tryz.f221) lv221 (by kernel_rfl) rfl rfl (by kernel_rfl) rfl hl rfl h
abbrev lv222 : Nat → Option (List Nat) := lvL [(0, [1]), (1, [2])]
theorem ac222 {T : Tab} (hT : TabOk Go.Proofs.Tryz.prog T) {ds : List D} {os : List (Nat × Ob)} {nx : Nat} {Q : D → List (Nat × Ob) → Nat → Prop} (hl : ds.length ≤ 4) (h : awp Go.Proofs.Tryz.prog T 4 nx lv222 (Go.Proofs.Tryz.f222.body.getD .skip) (fin Go.Proofs.Tryz.prog [.tmp 2] Q) ⟨prm 0 ds, os, nx⟩) : ACall Go.Proofs.Tryz.prog 222 ds os nx Q :=
  acall_intro hT.toS (fn := Go.Proofs.Tryz.f222) lv222 (by kernel_rfl) rfl rfl (by kernel_rfl) rfl hl rfl h
abbrev lv223 : Nat → Option (List Nat) := lvL [(0, [0]), (1, [2])]
theorem ac223 {T : Tab} (hT : TabOk Go.Proofs.Tryz.prog T) {ds : List D} {os : List (Nat × Ob)} {nx : Nat} {Q : D → List (Nat × Ob) → Nat → Prop} (hl : ds.length ≤ 9) (h : awp Go.Proofs.Tryz.prog T 9 nx lv223 (Go.Proofs.Tryz.f223.body.getD .skip) (fin Go.Proofs.Tryz.prog [.tmp 2] Q) ⟨prm 0 ds, os, nx⟩) : ACall Go.Proofs.Tryz.prog 223 ds os nx Q :=
  acall_intro hT.toS (fn := Go.Proofs.Tryz.f223) lv223 (by kernel_rfl) rfl rfl (by kernel_rfl) rfl hl rfl h
abbrev lv224 : Nat → Option (List Nat) := lvL [(0, [0]), (1, [0, 7]), (2, [2]), (3, [0, 8, 9, 10]), (4, [0, 8, 9, 10, 11]), (5, [0, 3, 4, 8, 9, 10]), (6, [0, 8, 9, 10, 32]), (7, [2]), (8, [0, 8, 9, 10]), (9, [2])]
@[go_sem] def us224_6 : List Nat := [0, 1, 3, 7, 15, 31, 63, 127, 127, 383, 1023, 2047, 127, 4223, 16383, 32767, 65535, 131071]
theorem ac224 {T : Tab} (hT : TabOk Go.Proofs.Tryz.prog T) {ds : List D} {os : List (Nat × Ob)} {nx : Nat} {Q : D → List (Nat × Ob) → Nat → Prop} (hl : ds.length ≤ 34) (h : awp Go.Proofs.Tryz.prog T 34 nx lv224 (Go.Proofs.Tryz.f224.body.getD .skip) (fin Go.Proofs.Tryz.prog [.tmp 2] Q) ⟨prm 0 ds, os, nx⟩) : ACall Go.Proofs.Tryz.prog 224 ds os nx Q :=
  acall_intro hT.toS (fn := Go.Proofs.Tryz.f224) lv224 (by kernel_rfl) rfl rfl (by kernel_rfl) rfl hl rfl h
abbrev lv225 : Nat → Option (List Nat) := lvL [(0, [0, 1]), (1, [0, 1, 5]), (2, [0, 1, 5, 6]), (3, [0, 1, 6, 11]), (4, [12]), (5, [4]), (6, [4]), (7, [0, 1, 13]), (8, [4]), (9, [0, 1, 16]), (10, [4]), (11, [19]), (12, [4]), (13, [4])]
theorem ac225 {T : Tab} (hT : TabOk Go.Proofs.Tryz.prog T) {ds : List D} {os : List (Nat × Ob)} {nx : Nat} {Q : D → List (Nat × Ob) → Nat → Prop} (hl : ds.length ≤ 20) (h : awp Go.Proofs.Tryz.prog T 20 nx lv225 (Go.Proofs.Tryz.f225.body.getD .skip) (fin Go.Proofs.Tryz.prog [.tmp 4] Q) ⟨prm 0 ds, os, nx⟩) : ACall Go.Proofs.Tryz.prog 225 ds os nx Q :=
  acall_intro hT.toS (fn := Go.Proofs.Tryz.f225) lv225 (by kernel_rfl) rfl rfl (by kernel_rfl) rfl hl rfl h
abbrev lv226 : Nat → Option (List Nat) := lvL [(0, [0]), (1, [0, 3]), (2, [3, 6, 7, 8]), (3, [3, 6, 7, 8, 9]), (4, [3, 5, 6, 7, 8]), (5, [3, 5, 6, 7, 8, 14]), (6, [2]), (7, [3, 6, 7, 8]), (8, [2])]
theorem ac226 {T : Tab} (hT : TabOk Go.Proofs.Tryz.prog T) {ds : List D} {os : List (Nat × Ob)} {nx : Nat} {Q : D → List (Nat × Ob) → Nat → Prop} (hl : ds.length ≤ 18) (h : awp Go.Proofs.Tryz.prog T 18 nx lv226 (Go.Proofs.Tryz.f226.body.getD .skip) (fin Go.Proofs.Tryz.prog [.tmp 2] Q) ⟨prm 0 ds, os, nx⟩) : ACall Go.Proofs.Tryz.prog 226 ds os nx Q :=
  acall_intro hT.toS (fn := Go.Proofs.Tryz.f226) lv226 (by kernel_rfl) rfl rfl (by kernel_rfl) rfl hl rfl h
abbrev lv240 : Nat → Option (List Nat) := lvL [(0, [0, 1]), (1, [0, 1, 7, 8]), (2, [0, 1, 7, 8, 9]), (3, [0, 1, 5, 7, 8]), (4, [0, 1, 5, 7, 8, 16]), (5, [4]), (6, [0, 1, 7, 8]), (7, [4])]
theorem ac240 {T : Tab} (hT : TabOk Go.Proofs.Tryz.prog T) {ds : List D} {os : List (Nat × Ob)} {nx : Nat} {Q : D → List (Nat × Ob) → Nat → Prop} (hl : ds.length ≤ 19) (h : awp Go.Proofs.Tryz.prog T 19 nx lv240 (Go.Proofs.Tryz.f240.body.getD .skip) (fin Go.Proofs.Tryz.prog [.tmp 4] Q) ⟨prm 0 ds, os, nx⟩) : ACall Go.Proofs.Tryz.prog 240 ds os nx Q :=
  acall_intro hT.toS (fn := Go.Proofs.Tryz.f240) lv240 (by kernel_rfl) rfl rfl (by kernel_rfl) rfl hl rfl h
abbrev lv241 : Nat → Option (List Nat) := lvL [(0, [0, 1]), (1, [0, 1, 7, 8]), (2, [0, 1, 7, 8, 9]), (3, [0, 1, 5, 7, 8]), (4, [0, 1, 5, 7, 8, 16]), (5, [4]), (6, [0, 1, 7, 8]), (7, [4])]
theorem ac241 {T : Tab} (hT : TabOk Go.Proofs.Tryz.prog T) {ds : List D} {os : List (Nat × Ob)} {nx : Nat} {Q : D → List (Nat × Ob) → Nat → Prop} (hl : ds.length ≤ 19) (h : awp Go.Proofs.Tryz.prog T 19 nx lv241 (Go.Proofs.Tryz.f241.body.getD .skip) (fin Go.Proofs.Tryz.prog [.tmp 4] Q) ⟨prm 0 ds, os, nx⟩) : ACall Go.Proofs.Tryz.prog 241 ds os nx Q :=
  acall_intro hT.toS (fn := Go.Proofs.Tryz.f241) lv241 (by kernel_rfl) rfl rfl (by kernel_rfl) rfl hl rfl h
abbrev lv242 : Nat → Option (List Nat) := lvL [(0, [0, 2, 4]), (1, [0, 2, 4, 8]), (2, [0, 2, 4, 8, 9, 10]), (3, [0, 2, 4, 8, 9, 10, 17]), (4, [0, 2, 4, 8, 9, 10, 11]), (5, [0, 2, 4, 8, 9, 10, 11, 31]), (6, [0, 2, 4, 8, 9, 10]), (7, [0, 2, 4, 8, 9, 10]), (8, [6, 7])]
@[go_sem] def us242_5 : List Nat := [0, 0, 0, 6, 14, 0, 63, 127]
@[go_sem] def us242_8 : List Nat := [0, 0, 0, 6, 14, 30, 30, 30, 222, 478, 30, 2046, 4094, 8190, 4095, 32767]
theorem ac242 {T : Tab} (hT : TabOk Go.Proofs.Tryz.prog T) {ds : List D} {os : List (Nat × Ob)} {nx : Nat} {Q : D → List (Nat × Ob) → Nat → Prop} (hl : ds.length ≤ 49) (h : awp Go.Proofs.Tryz.prog T 49 nx lv242 (Go.Proofs.Tryz.f242.body.getD .skip) (fin Go.Proofs.Tryz.prog [.tmp 6, .tmp 7] Q) ⟨prm 0 ds, os, nx⟩) : ACall Go.Proofs.Tryz.prog 242 ds os nx Q :=
  acall_intro hT.toS (fn := Go.Proofs.Tryz.f242) lv242 (by kernel_rfl) rfl rfl (by kernel_rfl) rfl hl rfl h
abbrev lv243 : Nat → Option (List Nat) := lvL [(0, [0, 1]), (1, [0, 1, 7, 8]), (2, [0, 1, 7, 8, 9]), (3, [0, 1, 5, 7, 8]), (4, [0, 1, 5, 7, 8, 16]), (5, [4]), (6, [0, 1, 7, 8]), (7, [4])]
theorem ac243 {T : Tab} (hT : TabOk Go.Proofs.Tryz.prog T) {ds : List D} {os : List (Nat × Ob)} {nx : Nat} {Q : D → List (Nat × Ob) → Nat → Prop} (hl : ds.length ≤ 19) (h : awp Go.Proofs.Tryz.prog T 19 nx lv243 (Go.Proofs.Tryz.f243.body.getD .skip) (fin Go.Proofs.Tryz.prog [.tmp 4] Q) ⟨prm 0 ds, os, nx⟩) : ACall Go.Proofs.Tryz.prog 243 ds os nx Q :=
  acall_intro hT.toS (fn := Go.Proofs.Tryz.f243) lv243 (by kernel_rfl) rfl rfl (by kernel_rfl) rfl hl rfl h
abbrev lv244 : Nat → Option (List Nat) := lvL [(0, [0, 1]), (1, [0, 1, 7, 8]), (2, [0, 1, 7, 8, 9]), (3, [0, 1, 5, 7, 8]), (4, [0, 1, 5, 7, 8, 16]), (5, [4]), (6, [0, 1, 7, 8]), (7, [4])]
theorem ac244 {T : Tab} (hT : TabOk Go.Proofs.Tryz.prog T) {ds : List D} {os : List (Nat × Ob)} {nx : Nat} {Q : D → List (Nat × Ob) → Nat → Prop} (hl : ds.length ≤ 19) (h : awp Go.Proofs.Tryz.prog T 19 nx lv244 (Go.Proofs.Tryz.f244.body.getD .skip) (fin Go.Proofs.Tryz.prog [.tmp 4] Q) ⟨prm 0 ds, os, nx⟩) : ACall Go.Proofs.Tryz.prog 244 ds os nx Q :=
  acall_intro hT.toS (fn := Go.Proofs.Tryz.f244) lv244 (by kernel_rfl) rfl rfl (by kernel_rfl) rfl hl rfl h
abbrev lv248 : Nat → Option (List Nat) := lvL [(0, [1]), (1, [5, 6]), (2, [2, 3])]
theorem ac248 {T : Tab} (hT : TabOk Go.Proofs.Tryz.prog T) {ds : List D} {os : List (Nat × Ob)} {nx : Nat} {Q : D → List (Nat × Ob) → Nat → Prop} (hl : ds.length ≤ 15) (h : awp Go.Proofs.Tryz.prog T 15 nx lv248 (Go.Proofs.Tryz.f248.body.getD .skip) (fin Go.Proofs.Tryz.prog [.tmp 2, .tmp 3] Q) ⟨prm 0 ds, os, nx⟩) : ACall Go.Proofs.Tryz.prog 248 ds os nx Q :=
  acall_intro hT.toS (fn := Go.Proofs.Tryz.f248) lv248 (by kernel_rfl) rfl rfl (by kernel_rfl) rfl hl rfl h
abbrev lv249 : Nat → Option (List Nat) := lvL [(0, [1, 2]), (1, [4])]
theorem ac249 {T : Tab} (hT : TabOk Go.Proofs.Tryz.prog T) {ds : List D} {os : List (Nat × Ob)} {nx : Nat} {Q : D → List (Nat × Ob) → Nat → Prop} (hl : ds.length ≤ 9) (h : awp Go.Proofs.Tryz.prog T 9 nx lv249 (Go.Proofs.Tryz.f249.body.getD .skip) (fin Go.Proofs.Tryz.prog [.tmp 4] Q) ⟨prm 0 ds, os, nx⟩) : ACall Go.Proofs.Tryz.prog 249 ds os nx Q :=
  acall_intro hT.toS (fn := Go.Proofs.Tryz.f249) lv249 (by kernel_rfl) rfl rfl (by kernel_rfl) rfl hl rfl h
abbrev lv251 : Nat → Option (List Nat) := lvL [(0, [1]), (1, [2])]
theorem ac251 {T : Tab} (hT : TabOk Go.Proofs.Tryz.prog T) {ds : List D} {os : List (Nat × Ob)} {nx : Nat} {Q : D → List (Nat × Ob) → Nat → Prop} (hl : ds.length ≤ 23) (h : awp Go.Proofs.Tryz.prog T 23 nx lv251 (Go.Proofs.Tryz.f251.body.getD .skip) (fin Go.Proofs.Tryz.prog [.tmp 2] Q) ⟨prm 0 ds, os, nx⟩) : ACall Go.Proofs.Tryz.prog 251 ds os nx Q :=
  acall_intro hT.toS (fn := Go.Proofs.Tryz.f251) lv251 (by kernel_rfl) rfl rfl (by kernel_rfl) rfl hl rfl h
abbrev lv252 : Nat → Option (List Nat) := lvL [(0, [1, 2]), (1, [4])]
theorem ac252 {T : Tab} (hT : TabOk Go.Proofs.Tryz.prog T) {ds : List D} {os : List (Nat × Ob)} {nx : Nat} {Q : D → List (Nat × Ob) → Nat → Prop} (hl : ds.length ≤ 9) (h : awp Go.Proofs.Tryz.prog T 9 nx lv252 (Go.Proofs.Tryz.f252.body.getD .skip) (fin Go.Proofs.Tryz.prog [.tmp 4] Q) ⟨prm 0 ds, os, nx⟩) : ACall Go.Proofs.Tryz.prog 252 ds os nx Q :=
  acall_intro hT.toS (fn := Go.Proofs.Tryz.f252) lv252 (by kernel_rfl) rfl rfl (by kernel_rfl) rfl hl rfl h
abbrev lv253 : Nat → Option (List Nat) := lvL [(0, [0]), (1, [2])]
theorem ac253 {T : Tab} (hT : TabOk Go.Proofs.Tryz.prog T) {ds : List D} {os : List (Nat × Ob)} {nx : Nat} {Q : D → List (Nat × Ob) → Nat → Prop} (hl : ds.length ≤ 6) (h : awp Go.Proofs.Tryz.prog T 6 nx lv253 (Go.Proofs.Tryz.f253.body.getD .skip) (fin Go.Proofs.Tryz.prog [.tmp 2] Q) ⟨prm 0 ds, os, nx⟩) : ACall Go.Proofs.Tryz.prog 253 ds os nx Q :=
  acall_intro hT.toS (fn := Go.Proofs.Tryz.f253) lv253 (by kernel_rfl) rfl rfl (by kernel_rfl) rfl hl rfl h
abbrev lv259 : Nat → Option (List Nat) := lvL [(0, [1, 2]), (1, [1, 2, 30]), (2, [2, 3, 4]), (3, [1, 2, 32, 33, 34]), (4, [1, 2, 32, 33, 34, 35]), (5, [1, 2, 5, 6, 32, 33, 34]), (6, [1, 2, 6, 32, 33, 34, 57]), (7, [2, 3, 4]), (8, [1, 2, 4, 32, 33, 34]), (9, [1, 2, 32, 33, 34, 73]), (10, [2, 3, 4]), (11, [1, 2, 32, 33, 34]), (12, [2, 3, 4]), (13, [2, 3, 86]), (14, [2, 3, 4]), (15, [2, 3, 4])]
@[go_sem] def us259_6 : List Nat := [0, 1, 3, 7, 15, 31, 63, 127, 255, 127, 639, 2047, 4095, 127, 8319, 32767, 65535, 131071, 262143]
theorem ac259 {T : Tab} (hT : TabOk Go.Proofs.Tryz.prog T) {ds : List D} {os : List (Nat × Ob)} {nx : Nat} {Q : D → List (Nat × Ob) → Nat → Prop} (hl : ds.length ≤ 89) (h : awp Go.Proofs.Tryz.prog T 89 nx lv259 (Go.Proofs.Tryz.f259.body.getD .skip) (fin Go.Proofs.Tryz.prog [.tmp 2, .tmp 3, .tmp 4] Q) ⟨prm 0 ds, os, nx⟩) : ACall Go.Proofs.Tryz.prog 259 ds os nx Q :=
  acall_intro hT.toS (fn := Go.Proofs.Tryz.f259) lv259 (by kernel_rfl) rfl rfl (by kernel_rfl) rfl hl rfl h
abbrev lv261 : Nat → Option (List Nat) := lvL [(0, [1, 2]), (1, [4])]
theorem ac261 {T : Tab} (hT : TabOk Go.Proofs.Tryz.prog T) {ds : List D} {os : List (Nat × Ob)} {nx : Nat} {Q : D → List (Nat × Ob) → Nat → Prop} (hl : ds.length ≤ 9) (h : awp Go.Proofs.Tryz.prog T 9 nx lv261 (Go.Proofs.Tryz.f261.body.getD .skip) (fin Go.Proofs.Tryz.prog [.tmp 4] Q) ⟨prm 0 ds, os, nx⟩) : ACall Go.Proofs.Tryz.prog 261 ds os nx Q :=
  acall_intro hT.toS (fn := Go.Proofs.Tryz.f261) lv261 (by kernel_rfl) rfl rfl (by kernel_rfl) rfl hl rfl h
end Dm
namespace Dm
open Go
section
variable {κ : Type} [DecidableEq κ]
def alk (a : κ) : List (κ × Int) → Option Int
  | [] => none
  | (x, y) :: l => if x = a then some y else alk a l
def aset (a : κ) (b : Int) : List (κ × Int) → List (κ × Int)
  | [] => [(a, b)]
  | (x, y) :: l => if x = a then (x, b) :: l else (x, y) :: aset a b l
theorem alk_aset {a k : κ} {b : Int} : ∀ {l : List (κ × Int)}, alk k (aset a b l) = if k = a then some b else alk k l
  | [] => by
    simp only [aset, alk]
    by_cases h : a = k
    · rw [if_pos h, if_pos h.symm]
    · rw [if_neg h, if_neg (fun e => h e.symm)]
  | (x, y) :: l => by
    rw [aset]
    by_cases hx : x = a
    · subst hx
      rw [if_pos rfl, alk, alk]
      by_cases h : x = k
      · rw [if_pos h, if_pos h.symm]
      · rw [if_neg h, if_neg (fun e => h e.symm), if_neg h]
    · rw [if_neg hx, alk, alk, alk_aset]
      by_cases h : x = k
      · rw [if_pos h, if_pos h]
        subst h
        rw [if_neg hx]
      · rw [if_neg h, if_neg h]
end
abbrev K3 := Nat × Nat × Nat
def kv3 (l : List (K3 × Int)) : List (List C × D) := l.map fun x => ([.int .u64 x.1.1, .int .u64 x.1.2.1, .int .u64 x.1.2.2], .int .i64 x.2)
theorem mlk_kv3 {a b c : Nat} : ∀ {l : List (K3 × Int)}, mlk [.int .u64 (a : Int), .int .u64 (b : Int), .int .u64 (c : Int)] (kv3 l) = (alk (a, b, c) l).map fun b => .int .i64 b
  | [] => rfl
  | ((x, y, z), v) :: l => by
    show mlk _ (([.int .u64 (x : Int), .int .u64 (y : Int), .int .u64 (z : Int)], _) :: kv3 l) = _
    rw [mlk, alk]
    by_cases h : (x, y, z) = (a, b, c)
    · rw [if_pos h]; cases h; rw [if_pos rfl]; rfl
    · rw [if_neg h, if_neg, mlk_kv3]
      intro e
      simp only [List.cons.injEq, C.int.injEq, true_and, and_true, Int.natCast_inj] at e
      exact h (by rw [e.1, e.2.1, e.2.2])
attribute [go_sem] mlk_kv3
theorem mset_kv3 {a b c : Nat} {v : Int} : ∀ {l : List (K3 × Int)}, mset [.int .u64 (a : Int), .int .u64 (b : Int), .int .u64 (c : Int)] (.int .i64 v) (kv3 l) = kv3 (aset (a, b, c) v l)
  | [] => rfl
  | ((x, y, z), u) :: l => by
    show mset _ _ (([.int .u64 (x : Int), .int .u64 (y : Int), .int .u64 (z : Int)], _) :: kv3 l) = _
    rw [mset, aset]
    by_cases h : (x, y, z) = (a, b, c)
    · rw [if_pos h]; cases h; rw [if_pos rfl]; rfl
    · rw [if_neg h, if_neg, mset_kv3]
      · rfl
      · intro e
        simp only [List.cons.injEq, C.int.injEq, true_and, and_true, Int.natCast_inj] at e
        exact h (by rw [e.1, e.2.1, e.2.2])
attribute [go_sem] mset_kv3
@[go_sem] theorem bel_kv3 {N : Nat} {l : List (K3 × Int)} : mbel N (kv3 l) = true := by
  simp [mbel, kv3, D.bel2, D.bel1, D.bel0]
@[go_sem] theorem mids_kv3 : ∀ {l : List (K3 × Int)}, (kv3 l).map (·.2) = l.map fun x => D.int .i64 x.2 := by
  intro l; simp [kv3]
@[go_sem] theorem midsL_int {α : Type} {k : IntKind} {f : α → Int} : ∀ {l : List α}, midsL (l.map fun x => D.int k (f x)) = []
  | [] => rfl
  | x :: l => by
    rw [List.map_cons, midsL, midsL_int]; rfl
@[go_sem] theorem midsL_mzero {key : List C} {k : IntKind} {n : Int} : ∀ {kv : List (List C × D)}, midsL ((mzero key (.int k n) kv).map (·.2)) = midsL (kv.map (·.2))
  | [] => rfl
  | (k', d) :: l => by
    rw [mzero]
    split
    · rfl
    · rw [List.map_cons, List.map_cons, midsL, midsL, midsL_mzero]
attribute [go_sem] mput_mset
@[go_sem] theorem mpos_nn {k : List C} {kv : List (List C × D)} : (0 ≤ ((mpos k kv : Nat) : Int)) = True := eq_true (by omega)
@[go_sem] theorem mpos_in {k : List C} {z : D} {kv : List (List C × D)} : (((mpos k kv : Nat) : Int) < (((mzero k z kv).length : Nat) : Int)) = True := eq_true (by have := mpos_lt (k := k) (z := z) (kv := kv); omega)
@[go_sem] theorem getD_mi {o : Option Int} : (o.map fun b => D.int .i64 b).getD (.int .i64 0) = .int .i64 (o.getD 0) := by cases o <;> rfl
@[go_sem] theorem rdD_none {P : Program} {s : St} : rdD P s [] = some (.tup []) := rfl
@[go_sem] theorem rdD_4 {P : Program} {s : St} {r r' r'' r3 : ResultVar} : rdD P s [r, r', r'', r3] = match rd1 P s r, rd1 P s r', rd1 P s r'', rd1 P s r3 with | some x, some y, some z, some u => some (.tup [x, y, z, u]) | _, _, _, _ => none := by
  unfold rdD rds rds rds rds rds
  cases rd1 P s r <;> cases rd1 P s r' <;> cases rd1 P s r'' <;> cases rd1 P s r3 <;> rfl
theorem okL_z {o : Option Int} {d : Option Nat} {s : St} {K : St → Prop} : okL (some (o.map fun b => D.int .i64 b, D.int .i64 0)) false d s K = K (s.put d (.int .i64 (o.getD 0))) := by
  cases o <;> rfl
end Dm
namespace Dm
open Go
abbrev NK := Nat × Int × List UInt8
abbrev nkt : List KK := [.int .u64, .int .i64, .str]
def kvM (l : List (NK × Int)) : List (List C × D) := l.map fun x => ([.int .u64 x.1.1, .int .i64 x.1.2.1, .str (bstr x.1.2.2)], .int .i64 x.2)
def kvMF (l : List (NK × Int)) : List (List C × List C) := l.map fun x => ([.int .u64 x.1.1, .int .i64 x.1.2.1, .str (bstr x.1.2.2)], [.int .i64 x.2])
@[go_sem] theorem kvD_kvMF {l : List (NK × Int)} : kvD (kvMF l) = kvM l := by simp [kvD, kvMF, kvM, dOf]
@[go_sem] theorem kvC_kvM : ∀ {l : List (NK × Int)}, kvC (kvM l) = some (kvMF l)
  | [] => rfl
  | ((a, b, c), v) :: l => by
    show kvC (([.int .u64 (a : Int), .int .i64 b, .str (bstr c)], D.int .i64 v) :: kvM l) = _
    rw [kvC, kvC_kvM]
    rfl
theorem mlk_kvM {a : Nat} {b : Int} {c : List UInt8} : ∀ {l : List (NK × Int)}, mlk [.int .u64 (a : Int), .int .i64 b, .str (bstr c)] (kvM l) = (alk (a, b, c) l).map fun b => .int .i64 b
  | [] => rfl
  | ((x, y, z), v) :: l => by
    show mlk _ (([.int .u64 (x : Int), .int .i64 y, .str (bstr z)], _) :: kvM l) = _
    rw [mlk, alk]
    by_cases h : (x, y, z) = (a, b, c)
    · rw [if_pos h]; cases h; rw [if_pos rfl]; rfl
    · rw [if_neg h, if_neg, mlk_kvM]
      intro e
      simp only [List.cons.injEq, C.int.injEq, C.str.injEq, bstr_inj, true_and, and_true, Int.natCast_inj] at e
      exact h (by rw [e.1, e.2.1, e.2.2])
attribute [go_sem] mlk_kvM
@[go_sem] theorem mlk_kvM0 {b : Int} {c : List UInt8} {l : List (NK × Int)} : mlk [.int .u64 0, .int .i64 b, .str (bstr c)] (kvM l) = (alk (0, b, c) l).map fun b => .int .i64 b := mlk_kvM (a := 0)
theorem mset_kvM {a : Nat} {b : Int} {c : List UInt8} {v : Int} : ∀ {l : List (NK × Int)}, mset [.int .u64 (a : Int), .int .i64 b, .str (bstr c)] (.int .i64 v) (kvM l) = kvM (aset (a, b, c) v l)
  | [] => rfl
  | ((x, y, z), u) :: l => by
    show mset _ _ (([.int .u64 (x : Int), .int .i64 y, .str (bstr z)], _) :: kvM l) = _
    rw [mset, aset]
    by_cases h : (x, y, z) = (a, b, c)
    · rw [if_pos h]; cases h; rw [if_pos rfl]; rfl
    · rw [if_neg h, if_neg, mset_kvM]
      · rfl
      · intro e
        simp only [List.cons.injEq, C.int.injEq, C.str.injEq, bstr_inj, true_and, and_true, Int.natCast_inj] at e
        exact h (by rw [e.1, e.2.1, e.2.2])
attribute [go_sem] mset_kvM
@[go_sem] theorem bel_kvM {N : Nat} {l : List (NK × Int)} : mbel N (kvM l) = true := by
  simp [mbel, kvM, D.bel2, D.bel1, D.bel0]
@[go_sem] theorem mids_kvM {l : List (NK × Int)} : (kvM l).map (·.2) = l.map fun x => D.int .i64 x.2 := by
  simp [kvM]

def ls_u8s (l : List (List UInt8)) : List (List C) := l.map fun x => [.sl (u8s x)]
def dls_u8s (l : List (List C)) : List (List UInt8) := l.map fun | [.sl x] => du8s x | _ => []
@[simp, go_sem] theorem ls_u8s_length (l : List (List UInt8)) : (ls_u8s l).length = l.length := by simp [ls_u8s]
@[go_sem] theorem ls_u8s_get (l : List (List UInt8)) (i : Nat) : (ls_u8s l).getD i [.sl []] = [.sl (u8s (l.getD i default))] := by
  simp only [ls_u8s, List.getD_eq_getElem?_getD, List.getElem?_map]
  cases l[i]? <;> rfl
@[go_sem] theorem ls_u8s_wide (l : List (List UInt8)) : Wide 1 (ls_u8s l) = True := by simp [Wide, ls_u8s]
@[go_sem] theorem dls_u8s_ls_u8s (l : List (List UInt8)) : dls_u8s (ls_u8s l) = l := by
  simp only [dls_u8s, ls_u8s, List.map_map]
  exact List.map_id'' (fun e => by simp [du8s_u8s]) l
@[go_sem] theorem ls_u8s_app (a b : List (List UInt8)) : ls_u8s a ++ ls_u8s b = ls_u8s (a ++ b) := by simp [ls_u8s]
@[go_sem] theorem ls_u8s_drop (l : List (List UInt8)) (k : Nat) : (ls_u8s l).drop k = ls_u8s (l.drop k) := by simp [ls_u8s]
@[go_sem] theorem ls_u8s_take (l : List (List UInt8)) (k : Nat) : (ls_u8s l).take k = ls_u8s (l.take k) := by simp [ls_u8s]
@[go_sem] theorem ls_u8s_one (b : List UInt8) : [[C.sl (u8s b)]] = ls_u8s [b] := rfl
@[go_sem] theorem ls_u8s_cons (b : List UInt8) (l : List (List UInt8)) : [C.sl (u8s b)] :: ls_u8s l = ls_u8s (b :: l) := rfl
@[go_sem] theorem ls_u8s_set (l : List (List UInt8)) (i : Nat) (b : List UInt8) : (ls_u8s l).set i [C.sl (u8s b)] = ls_u8s (l.set i b) := by simp [ls_u8s, List.map_set]
end Dm
