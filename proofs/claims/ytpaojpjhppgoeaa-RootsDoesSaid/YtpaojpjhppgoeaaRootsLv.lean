import Derived.Test.YtpaojpjhppgoeaaRootsFt
set_option linter.unusedSimpArgs false
set_option linter.unusedVariables false
/-! The temporaries that are read behind each region. Printed by gen.py. -/
namespace Dm
def lvL (l : List (Nat × List Nat)) (i : Nat) : Option (List Nat) := lk i l
@[go_sem] theorem lvL_eq (l : List (Nat × List Nat)) (i : Nat) : lvL l i = lk i l := rfl
/-- damson/damsonlaw08.RootsFull -/
abbrev lv3 : Nat → Option (List Nat) := lvL [(0, [0, 1]), (1, [0, 1, 10]), (2, [4]), (3, [0, 1, 16]), (4, [4]), (5, [0, 1, 5]), (6, [0, 1, 5, 18, 19]), (7, [0, 1, 5, 18, 19, 20]), (8, [0, 1, 5, 6, 18, 19]), (9, [0, 1, 5, 6, 7, 8, 18, 19]), (10, [0, 1, 5, 7, 8, 18, 19, 46]), (11, [4]), (12, [0, 1, 5, 7, 18, 19, 48]), (13, [0, 1, 5, 18, 19]), (14, [0, 1, 5, 18, 19]), (15, [4])]
theorem ac3 {T : Tab} (hT : TabOk Go.Proofs.Try.prog T) {ds : List D} {os : List (Nat × Ob)} {nx : Nat} {Q : D → List (Nat × Ob) → Nat → Prop} (hl : ds.length ≤ 57) (h : awp Go.Proofs.Try.prog T 57 nx lv3 (Go.Proofs.Try.f3.body.getD .skip) (fin Go.Proofs.Try.prog [.tmp 4] Q) ⟨prm 0 ds, os, nx⟩) : ACall Go.Proofs.Try.prog 3 ds os nx Q :=
  acall_intro hT.toS (fn := Go.Proofs.Try.f3) lv3 (by kernel_rfl) rfl rfl (by kernel_rfl) rfl hl rfl h
/-- damson/damsonlaw08.RootsGone -/
abbrev lv4 : Nat → Option (List Nat) := lvL [(0, [0, 1, 2, 3, 4]), (1, [0, 1, 2, 3, 4, 20]), (2, [10]), (3, [0, 1, 2, 3, 4, 28]), (4, [10]), (5, [1, 2, 3, 4, 11, 12]), (6, [1, 2, 3, 4, 11, 36]), (7, [10]), (8, [1, 3, 4, 11, 40, 41, 42]), (9, [1, 3, 4, 11, 40, 41, 42, 43]), (10, [1, 3, 4, 11, 13, 14, 40, 41, 42]), (11, [1, 3, 4, 11, 13, 14, 40, 41, 42, 56]), (12, [1, 3, 4, 11, 13, 14, 40, 41, 42]), (13, [1, 3, 4, 11, 13, 14, 40, 41, 42]), (14, [1, 3, 4, 11, 13, 40, 41, 42, 58]), (15, [1, 3, 4, 11, 13, 15, 16, 40, 41, 42]), (16, [1, 3, 4, 11, 13, 40, 41, 42, 58, 68]), (17, [1, 3, 4, 11, 13, 15, 16, 40, 41, 42]), (18, [1, 3, 4, 11, 13, 40, 41, 42, 83]), (19, [1, 3, 4, 11, 13, 15, 16, 40, 41, 42]), (20, [1, 3, 4, 11, 13, 15, 16, 40, 41, 42, 99]), (21, [1, 3, 4, 11, 13, 16, 40, 41, 42]), (22, [1, 3, 4, 11, 13, 16, 18, 40, 41, 42]), (23, [1, 3, 4, 11, 40, 41, 42, 125]), (24, [10]), (25, [1, 3, 4, 11, 40, 41, 42]), (26, [10])]
@[go_sem] def us4_17 : List Nat := [0, 0, 0, 6, 14, 0, 0, 96, 224, 511, 1023, 2047, 2047, 4095, 16383]
@[go_sem] def us4_19 : List Nat := [0, 0, 0, 6, 14, 0, 0, 96, 224, 511, 1023, 2047, 2047, 4095, 16383]
theorem ac4 {T : Tab} (hT : TabOk Go.Proofs.Try.prog T) {ds : List D} {os : List (Nat × Ob)} {nx : Nat} {Q : D → List (Nat × Ob) → Nat → Prop} (hl : ds.length ≤ 127) (h : awp Go.Proofs.Try.prog T 127 nx lv4 (Go.Proofs.Try.f4.body.getD .skip) (fin Go.Proofs.Try.prog [.tmp 10] Q) ⟨prm 0 ds, os, nx⟩) : ACall Go.Proofs.Try.prog 4 ds os nx Q :=
  acall_intro hT.toS (fn := Go.Proofs.Try.f4) lv4 (by kernel_rfl) rfl rfl (by kernel_rfl) rfl hl rfl h
/-- damson/damsonlaw08.RootsOrder -/
abbrev lv5 : Nat → Option (List Nat) := lvL [(0, [0, 1, 2, 3, 4]), (1, [0, 1, 2, 3, 4, 20]), (2, [10]), (3, [0, 1, 2, 3, 4, 23]), (4, [10]), (5, [0, 1, 2, 3, 4, 11, 12]), (6, [1, 2, 3, 4, 11, 12, 13, 14]), (7, [1, 2, 3, 4, 11, 13, 43]), (8, [10]), (9, [1, 2, 3, 4, 13, 15, 16]), (10, [1, 2, 3, 4, 15, 16, 17, 18]), (11, [1, 2, 3, 4, 16, 66]), (12, [10]), (13, [10])]
theorem ac5 {T : Tab} (hT : TabOk Go.Proofs.Try.prog T) {ds : List D} {os : List (Nat × Ob)} {nx : Nat} {Q : D → List (Nat × Ob) → Nat → Prop} (hl : ds.length ≤ 86) (h : awp Go.Proofs.Try.prog T 86 nx lv5 (Go.Proofs.Try.f5.body.getD .skip) (fin Go.Proofs.Try.prog [.tmp 10] Q) ⟨prm 0 ds, os, nx⟩) : ACall Go.Proofs.Try.prog 5 ds os nx Q :=
  acall_intro hT.toS (fn := Go.Proofs.Try.f5) lv5 (by kernel_rfl) rfl rfl (by kernel_rfl) rfl hl rfl h
/-- damson/damsonlaw08.RootsDoes -/
abbrev lv6 : Nat → Option (List Nat) := lvL [(0, [0, 1, 2, 3]), (1, [0, 1, 2, 3, 30]), (2, [8]), (3, [0, 1, 2, 3, 38]), (4, [8]), (5, [0, 1, 2, 3, 9]), (6, [0, 1, 2, 3, 9, 10, 11]), (7, [0, 1, 2, 3, 9, 10, 11, 12, 13]), (8, [0, 1, 2, 3, 9, 10, 11, 12, 13, 14, 15]), (9, [0, 1, 2, 9, 10, 11, 12, 13, 14, 15, 16, 17]), (10, [0, 1, 2, 9, 10, 11, 12, 13, 14, 15, 16, 17, 18, 19]), (11, [0, 1, 2, 9, 10, 11, 12, 13, 14, 15, 16, 17, 18, 19, 20, 21]), (12, [0, 1, 2, 9, 10, 11, 12, 13, 14, 15, 16, 17, 18, 19, 20, 21, 22, 23]), (13, [0, 1, 9, 10, 11, 12, 13, 14, 15, 16, 17, 18, 19, 20, 21, 22, 23, 24, 25]), (14, [0, 9, 10, 18, 26]), (15, [0, 9, 10, 18, 26, 148, 149]), (16, [0, 9, 10, 18, 26, 148, 149, 150]), (17, [0, 9, 10, 18, 26, 27, 148, 149]), (18, [0, 9, 10, 18, 26, 148, 149]), (19, [0, 9, 10, 18, 26, 148, 149]), (20, [0, 9, 18, 26, 162, 163]), (21, [0, 9, 18, 26, 162, 163, 164]), (22, [0, 9, 18, 26, 28, 162, 163]), (23, [0, 9, 18, 26, 162, 163]), (24, [0, 9, 18, 26, 162, 163]), (25, [8])]
theorem ac6 {T : Tab} (hT : TabOk Go.Proofs.Try.prog T) {ds : List D} {os : List (Nat × Ob)} {nx : Nat} {Q : D → List (Nat × Ob) → Nat → Prop} (hl : ds.length ≤ 181) (h : awp Go.Proofs.Try.prog T 181 nx lv6 (Go.Proofs.Try.f6.body.getD .skip) (fin Go.Proofs.Try.prog [.tmp 8] Q) ⟨prm 0 ds, os, nx⟩) : ACall Go.Proofs.Try.prog 6 ds os nx Q :=
  acall_intro hT.toS (fn := Go.Proofs.Try.f6) lv6 (by kernel_rfl) rfl rfl (by kernel_rfl) rfl hl rfl h
/-- damson/damsonlaw08.RootsApart -/
abbrev lv7 : Nat → Option (List Nat) := lvL [(0, [0, 1, 2, 3]), (1, [0, 1, 2, 3, 22]), (2, [8]), (3, [0, 1, 2, 3, 25]), (4, [8]), (5, [0, 1, 2, 3, 9, 10]), (6, [0, 1, 2, 3, 9, 10, 11, 12]), (7, [0, 1, 2, 3, 9, 10, 11, 40]), (8, [8]), (9, [0, 1, 2, 3, 9, 10, 11, 13, 14]), (10, [0, 1, 2, 3, 9, 10, 11, 13, 14, 15, 16]), (11, [0, 1, 2, 9, 11, 86]), (12, [8]), (13, [0, 1, 9, 11, 18]), (14, [0, 18, 19, 20]), (15, [8])]
theorem ac7 {T : Tab} (hT : TabOk Go.Proofs.Try.prog T) {ds : List D} {os : List (Nat × Ob)} {nx : Nat} {Q : D → List (Nat × Ob) → Nat → Prop} (hl : ds.length ≤ 112) (h : awp Go.Proofs.Try.prog T 112 nx lv7 (Go.Proofs.Try.f7.body.getD .skip) (fin Go.Proofs.Try.prog [.tmp 8] Q) ⟨prm 0 ds, os, nx⟩) : ACall Go.Proofs.Try.prog 7 ds os nx Q :=
  acall_intro hT.toS (fn := Go.Proofs.Try.f7) lv7 (by kernel_rfl) rfl rfl (by kernel_rfl) rfl hl rfl h
/-- damson/damsonlaw08.live -/
abbrev lv8 : Nat → Option (List Nat) := lvL [(0, []), (1, [1, 2]), (2, [1, 2, 3]), (3, [2, 3, 5]), (4, [0])]
theorem ac8 {T : Tab} (hT : TabOk Go.Proofs.Try.prog T) {ds : List D} {os : List (Nat × Ob)} {nx : Nat} {Q : D → List (Nat × Ob) → Nat → Prop} (hl : ds.length ≤ 30) (h : awp Go.Proofs.Try.prog T 30 nx lv8 (Go.Proofs.Try.f8.body.getD .skip) (fin Go.Proofs.Try.prog [.tmp 0] Q) ⟨prm 0 ds, os, nx⟩) : ACall Go.Proofs.Try.prog 8 ds os nx Q :=
  acall_intro hT.toS (fn := Go.Proofs.Try.f8) lv8 (by kernel_rfl) rfl rfl (by kernel_rfl) rfl hl rfl h
/-- damson/roots.Add -/
abbrev lv9 : Nat → Option (List Nat) := lvL [(0, [0, 1, 2]), (1, [0, 1, 2, 8, 9, 10]), (2, [0, 1, 2, 8, 9, 10, 18]), (3, [6, 7]), (4, [0, 1, 2, 8, 22]), (5, [6, 7]), (6, [0, 1, 2, 8, 29]), (7, [6, 7]), (8, [6, 7])]
theorem ac9 {T : Tab} (hT : TabOk Go.Proofs.Try.prog T) {ds : List D} {os : List (Nat × Ob)} {nx : Nat} {Q : D → List (Nat × Ob) → Nat → Prop} (hl : ds.length ≤ 41) (h : awp Go.Proofs.Try.prog T 41 nx lv9 (Go.Proofs.Try.f9.body.getD .skip) (fin Go.Proofs.Try.prog [.tmp 6, .tmp 7] Q) ⟨prm 0 ds, os, nx⟩) : ACall Go.Proofs.Try.prog 9 ds os nx Q :=
  acall_intro hT.toS (fn := Go.Proofs.Try.f9) lv9 (by kernel_rfl) rfl rfl (by kernel_rfl) rfl hl rfl h
/-- damson/roots.Revoke -/
abbrev lv10 : Nat → Option (List Nat) := lvL [(0, [0, 1]), (1, [4, 5])]
theorem ac10 {T : Tab} (hT : TabOk Go.Proofs.Try.prog T) {ds : List D} {os : List (Nat × Ob)} {nx : Nat} {Q : D → List (Nat × Ob) → Nat → Prop} (hl : ds.length ≤ 11) (h : awp Go.Proofs.Try.prog T 11 nx lv10 (Go.Proofs.Try.f10.body.getD .skip) (fin Go.Proofs.Try.prog [.tmp 4, .tmp 5] Q) ⟨prm 0 ds, os, nx⟩) : ACall Go.Proofs.Try.prog 10 ds os nx Q :=
  acall_intro hT.toS (fn := Go.Proofs.Try.f10) lv10 (by kernel_rfl) rfl rfl (by kernel_rfl) rfl hl rfl h
/-- damson/roots.Turn -/
abbrev lv11 : Nat → Option (List Nat) := lvL [(0, [1, 3, 5]), (1, [6, 7])]
theorem ac11 {T : Tab} (hT : TabOk Go.Proofs.Try.prog T) {ds : List D} {os : List (Nat × Ob)} {nx : Nat} {Q : D → List (Nat × Ob) → Nat → Prop} (hl : ds.length ≤ 14) (h : awp Go.Proofs.Try.prog T 14 nx lv11 (Go.Proofs.Try.f11.body.getD .skip) (fin Go.Proofs.Try.prog [.tmp 6, .tmp 7] Q) ⟨prm 0 ds, os, nx⟩) : ACall Go.Proofs.Try.prog 11 ds os nx Q :=
  acall_intro hT.toS (fn := Go.Proofs.Try.f11) lv11 (by kernel_rfl) rfl rfl (by kernel_rfl) rfl hl rfl h
/-- damson/roots.Key -/
abbrev lv12 : Nat → Option (List Nat) := lvL [(0, [0, 1]), (1, [0, 6, 7]), (2, [0, 6, 7, 15]), (3, [4, 5]), (4, [4, 5])]
theorem ac12 {T : Tab} (hT : TabOk Go.Proofs.Try.prog T) {ds : List D} {os : List (Nat × Ob)} {nx : Nat} {Q : D → List (Nat × Ob) → Nat → Prop} (hl : ds.length ≤ 22) (h : awp Go.Proofs.Try.prog T 22 nx lv12 (Go.Proofs.Try.f12.body.getD .skip) (fin Go.Proofs.Try.prog [.tmp 4, .tmp 5] Q) ⟨prm 0 ds, os, nx⟩) : ACall Go.Proofs.Try.prog 12 ds os nx Q :=
  acall_intro hT.toS (fn := Go.Proofs.Try.f12) lv12 (by kernel_rfl) rfl rfl (by kernel_rfl) rfl hl rfl h
/-- damson/roots.Check -/
abbrev lv13 : Nat → Option (List Nat) := lvL [(0, [0]), (1, [0, 7]), (2, [2]), (3, [0, 8, 9, 10]), (4, [0, 8, 9, 10, 11]), (5, [0, 3, 4, 8, 9, 10]), (6, [0, 8, 9, 10, 35]), (7, [2]), (8, [0, 8, 9, 10]), (9, [2])]
@[go_sem] def us13_6 : List Nat := [0, 1, 3, 7, 7, 23, 63, 127, 7, 263, 1023, 2047, 4095, 8191, 16383, 16383, 65535, 16383, 147455, 524287, 1048575]
theorem ac13 {T : Tab} (hT : TabOk Go.Proofs.Try.prog T) {ds : List D} {os : List (Nat × Ob)} {nx : Nat} {Q : D → List (Nat × Ob) → Nat → Prop} (hl : ds.length ≤ 37) (h : awp Go.Proofs.Try.prog T 37 nx lv13 (Go.Proofs.Try.f13.body.getD .skip) (fin Go.Proofs.Try.prog [.tmp 2] Q) ⟨prm 0 ds, os, nx⟩) : ACall Go.Proofs.Try.prog 13 ds os nx Q :=
  acall_intro hT.toS (fn := Go.Proofs.Try.f13) lv13 (by kernel_rfl) rfl rfl (by kernel_rfl) rfl hl rfl h
/-- damson/roots.Same -/
abbrev lv14 : Nat → Option (List Nat) := lvL [(0, [0, 1]), (1, [4])]
theorem ac14 {T : Tab} (hT : TabOk Go.Proofs.Try.prog T) {ds : List D} {os : List (Nat × Ob)} {nx : Nat} {Q : D → List (Nat × Ob) → Nat → Prop} (hl : ds.length ≤ 8) (h : awp Go.Proofs.Try.prog T 8 nx lv14 (Go.Proofs.Try.f14.body.getD .skip) (fin Go.Proofs.Try.prog [.tmp 4] Q) ⟨prm 0 ds, os, nx⟩) : ACall Go.Proofs.Try.prog 14 ds os nx Q :=
  acall_intro hT.toS (fn := Go.Proofs.Try.f14) lv14 (by kernel_rfl) rfl rfl (by kernel_rfl) rfl hl rfl h
/-- damson/damsonref08.Add -/
abbrev lv15 : Nat → Option (List Nat) := lvL [(0, [0, 1, 2]), (1, [0, 1, 2, 12]), (2, [6, 7]), (3, [0, 1, 2, 9]), (4, [0, 1, 2, 24]), (5, [6, 7]), (6, [0, 1, 2, 27]), (7, [6, 7]), (8, [6, 7])]
theorem ac15 {T : Tab} (hT : TabOk Go.Proofs.Try.prog T) {ds : List D} {os : List (Nat × Ob)} {nx : Nat} {Q : D → List (Nat × Ob) → Nat → Prop} (hl : ds.length ≤ 33) (h : awp Go.Proofs.Try.prog T 33 nx lv15 (Go.Proofs.Try.f15.body.getD .skip) (fin Go.Proofs.Try.prog [.tmp 6, .tmp 7] Q) ⟨prm 0 ds, os, nx⟩) : ACall Go.Proofs.Try.prog 15 ds os nx Q :=
  acall_intro hT.toS (fn := Go.Proofs.Try.f15) lv15 (by kernel_rfl) rfl rfl (by kernel_rfl) rfl hl rfl h
/-- damson/damsonref08.Turn -/
abbrev lv16 : Nat → Option (List Nat) := lvL [(0, [0, 1, 2]), (1, [0, 1, 2, 9]), (2, [0, 1, 2, 9, 17]), (3, [6, 7]), (4, [0, 1, 2, 21]), (5, [6, 7]), (6, [6, 7])]
theorem ac16 {T : Tab} (hT : TabOk Go.Proofs.Try.prog T) {ds : List D} {os : List (Nat × Ob)} {nx : Nat} {Q : D → List (Nat × Ob) → Nat → Prop} (hl : ds.length ≤ 27) (h : awp Go.Proofs.Try.prog T 27 nx lv16 (Go.Proofs.Try.f16.body.getD .skip) (fin Go.Proofs.Try.prog [.tmp 6, .tmp 7] Q) ⟨prm 0 ds, os, nx⟩) : ACall Go.Proofs.Try.prog 16 ds os nx Q :=
  acall_intro hT.toS (fn := Go.Proofs.Try.f16) lv16 (by kernel_rfl) rfl rfl (by kernel_rfl) rfl hl rfl h
/-- damson/damsonref08.Revoke -/
abbrev lv17 : Nat → Option (List Nat) := lvL [(0, [0, 1]), (1, [0, 1, 6, 7]), (2, [0, 1, 6, 7, 15]), (3, [4, 5]), (4, [4, 5])]
theorem ac17 {T : Tab} (hT : TabOk Go.Proofs.Try.prog T) {ds : List D} {os : List (Nat × Ob)} {nx : Nat} {Q : D → List (Nat × Ob) → Nat → Prop} (hl : ds.length ≤ 22) (h : awp Go.Proofs.Try.prog T 22 nx lv17 (Go.Proofs.Try.f17.body.getD .skip) (fin Go.Proofs.Try.prog [.tmp 4, .tmp 5] Q) ⟨prm 0 ds, os, nx⟩) : ACall Go.Proofs.Try.prog 17 ds os nx Q :=
  acall_intro hT.toS (fn := Go.Proofs.Try.f17) lv17 (by kernel_rfl) rfl rfl (by kernel_rfl) rfl hl rfl h
/-- damson/damsonref08.Key -/
abbrev lv18 : Nat → Option (List Nat) := lvL [(0, [0, 1]), (1, [0, 1, 10]), (2, [4, 5]), (3, [6, 7]), (4, [6, 18]), (5, [4, 5]), (6, [6, 20]), (7, [4, 5]), (8, [4, 5])]
theorem ac18 {T : Tab} (hT : TabOk Go.Proofs.Try.prog T) {ds : List D} {os : List (Nat × Ob)} {nx : Nat} {Q : D → List (Nat × Ob) → Nat → Prop} (hl : ds.length ≤ 23) (h : awp Go.Proofs.Try.prog T 23 nx lv18 (Go.Proofs.Try.f18.body.getD .skip) (fin Go.Proofs.Try.prog [.tmp 4, .tmp 5] Q) ⟨prm 0 ds, os, nx⟩) : ACall Go.Proofs.Try.prog 18 ds os nx Q :=
  acall_intro hT.toS (fn := Go.Proofs.Try.f18) lv18 (by kernel_rfl) rfl rfl (by kernel_rfl) rfl hl rfl h
/-- damson/damsonref08.Same -/
abbrev lv19 : Nat → Option (List Nat) := lvL [(0, [0, 1]), (1, [0, 1, 10]), (2, [4]), (3, [0, 1, 12, 13]), (4, [0, 1, 12, 13, 14]), (5, [0, 1, 5, 12, 13]), (6, [0, 1, 12, 13, 24]), (7, [4]), (8, [0, 1, 12, 13]), (9, [4])]
@[go_sem] def us19_6 : List Nat := [0, 0, 3, 7, 0, 0, 48, 112, 255]
theorem ac19 {T : Tab} (hT : TabOk Go.Proofs.Try.prog T) {ds : List D} {os : List (Nat × Ob)} {nx : Nat} {Q : D → List (Nat × Ob) → Nat → Prop} (hl : ds.length ≤ 26) (h : awp Go.Proofs.Try.prog T 26 nx lv19 (Go.Proofs.Try.f19.body.getD .skip) (fin Go.Proofs.Try.prog [.tmp 4] Q) ⟨prm 0 ds, os, nx⟩) : ACall Go.Proofs.Try.prog 19 ds os nx Q :=
  acall_intro hT.toS (fn := Go.Proofs.Try.f19) lv19 (by kernel_rfl) rfl rfl (by kernel_rfl) rfl hl rfl h
/-- damson/damsonref08.Check -/
abbrev lv20 : Nat → Option (List Nat) := lvL [(0, [0]), (1, [0, 7]), (2, [2]), (3, [0, 8, 9, 10]), (4, [0, 8, 9, 10, 11]), (5, [0, 3, 4, 8, 9, 10]), (6, [0, 8, 9, 10, 35]), (7, [2]), (8, [0, 8, 9, 10]), (9, [2])]
@[go_sem] def us20_6 : List Nat := [0, 1, 3, 7, 7, 23, 63, 127, 255, 7, 519, 2047, 4095, 8191, 16383, 16383, 65535, 16383, 147455, 524287, 1048575]
theorem ac20 {T : Tab} (hT : TabOk Go.Proofs.Try.prog T) {ds : List D} {os : List (Nat × Ob)} {nx : Nat} {Q : D → List (Nat × Ob) → Nat → Prop} (hl : ds.length ≤ 37) (h : awp Go.Proofs.Try.prog T 37 nx lv20 (Go.Proofs.Try.f20.body.getD .skip) (fin Go.Proofs.Try.prog [.tmp 2] Q) ⟨prm 0 ds, os, nx⟩) : ACall Go.Proofs.Try.prog 20 ds os nx Q :=
  acall_intro hT.toS (fn := Go.Proofs.Try.f20) lv20 (by kernel_rfl) rfl rfl (by kernel_rfl) rfl hl rfl h
/-- damson/roots.find -/
abbrev lv21 : Nat → Option (List Nat) := lvL [(0, [0, 1]), (1, [0, 1, 7]), (2, [0, 1, 7, 13]), (3, [4, 5, 6]), (4, [8, 9]), (5, [4, 5, 6])]
theorem ac21 {T : Tab} (hT : TabOk Go.Proofs.Try.prog T) {ds : List D} {os : List (Nat × Ob)} {nx : Nat} {Q : D → List (Nat × Ob) → Nat → Prop} (hl : ds.length ≤ 23) (h : awp Go.Proofs.Try.prog T 23 nx lv21 (Go.Proofs.Try.f21.body.getD .skip) (fin Go.Proofs.Try.prog [.tmp 4, .tmp 5, .tmp 6] Q) ⟨prm 0 ds, os, nx⟩) : ACall Go.Proofs.Try.prog 21 ds os nx Q :=
  acall_intro hT.toS (fn := Go.Proofs.Try.f21) lv21 (by kernel_rfl) rfl rfl (by kernel_rfl) rfl hl rfl h
/-- damson/roots.taken -/
abbrev lv22 : Nat → Option (List Nat) := lvL [(0, [0, 3]), (1, [4])]
theorem ac22 {T : Tab} (hT : TabOk Go.Proofs.Try.prog T) {ds : List D} {os : List (Nat × Ob)} {nx : Nat} {Q : D → List (Nat × Ob) → Nat → Prop} (hl : ds.length ≤ 8) (h : awp Go.Proofs.Try.prog T 8 nx lv22 (Go.Proofs.Try.f22.body.getD .skip) (fin Go.Proofs.Try.prog [.tmp 4] Q) ⟨prm 0 ds, os, nx⟩) : ACall Go.Proofs.Try.prog 22 ds os nx Q :=
  acall_intro hT.toS (fn := Go.Proofs.Try.f22) lv22 (by kernel_rfl) rfl rfl (by kernel_rfl) rfl hl rfl h
/-- slices.Insert[[]damson/api.RootKey,damson/api.RootKey] -/
abbrev lv23 : Nat → Option (List Nat) := lvL [(0, [0, 1, 2]), (1, [0, 1, 2]), (2, [0, 1, 2, 7]), (3, [0, 1, 2, 7, 16]), (4, [6]), (5, [0, 1, 2, 7, 8]), (6, [0, 1, 2, 7, 8, 22]), (7, [6]), (8, [0, 1, 2, 7, 8, 31]), (9, [0, 1, 2, 7, 9]), (10, [0, 1, 7, 9]), (11, [9]), (12, [6]), (13, [0, 1, 2, 7, 8]), (14, [0, 1, 2, 7, 8, 68]), (15, [0, 1, 2]), (16, [0]), (17, [6]), (18, [0, 1, 7]), (19, [0]), (20, [6])]
@[go_sem] def us23_11 : List Nat := [0, 0, 0, 6, 15, 0, 0, 96, 255]
@[go_sem] def us23_15 : List Nat := [0, 0, 0, 6, 15, 0, 0, 96, 255]
theorem ac23 {T : Tab} (hT : TabOk Go.Proofs.Try.prog T) {ds : List D} {os : List (Nat × Ob)} {nx : Nat} {Q : D → List (Nat × Ob) → Nat → Prop} (hl : ds.length ≤ 95) (h : awp Go.Proofs.Try.prog T 95 nx lv23 (Go.Proofs.Try.f23.body.getD .skip) (fin Go.Proofs.Try.prog [.tmp 6] Q) ⟨prm 0 ds, os, nx⟩) : ACall Go.Proofs.Try.prog 23 ds os nx Q :=
  acall_intro hT.toS (fn := Go.Proofs.Try.f23) lv23 (by kernel_rfl) rfl rfl (by kernel_rfl) rfl hl rfl h
/-- slices.Clone[[]damson/api.RootKey,damson/api.RootKey] -/
abbrev lv24 : Nat → Option (List Nat) := lvL [(0, [0]), (1, [0, 4]), (2, [2]), (3, [2])]
theorem ac24 {T : Tab} (hT : TabOk Go.Proofs.Try.prog T) {ds : List D} {os : List (Nat × Ob)} {nx : Nat} {Q : D → List (Nat × Ob) → Nat → Prop} (hl : ds.length ≤ 8) (h : awp Go.Proofs.Try.prog T 8 nx lv24 (Go.Proofs.Try.f24.body.getD .skip) (fin Go.Proofs.Try.prog [.tmp 2] Q) ⟨prm 0 ds, os, nx⟩) : ACall Go.Proofs.Try.prog 24 ds os nx Q :=
  acall_intro hT.toS (fn := Go.Proofs.Try.f24) lv24 (by kernel_rfl) rfl rfl (by kernel_rfl) rfl hl rfl h
/-- damson/roots.change -/
abbrev lv25 : Nat → Option (List Nat) := lvL [(0, [0, 1, 2]), (1, [0, 2, 8, 9]), (2, [0, 2, 8, 9, 18]), (3, [6, 7]), (4, [0, 2, 8]), (5, [0, 10]), (6, [0, 10, 28]), (7, [6, 7]), (8, [6, 7])]
theorem ac25 {T : Tab} (hT : TabOk Go.Proofs.Try.prog T) {ds : List D} {os : List (Nat × Ob)} {nx : Nat} {Q : D → List (Nat × Ob) → Nat → Prop} (hl : ds.length ≤ 31) (h : awp Go.Proofs.Try.prog T 31 nx lv25 (Go.Proofs.Try.f25.body.getD .skip) (fin Go.Proofs.Try.prog [.tmp 6, .tmp 7] Q) ⟨prm 0 ds, os, nx⟩) : ACall Go.Proofs.Try.prog 25 ds os nx Q :=
  acall_intro hT.toS (fn := Go.Proofs.Try.f25) lv25 (by kernel_rfl) rfl rfl (by kernel_rfl) rfl hl rfl h
/-- damson/roots.Revoke$1 -/
abbrev lv26 : Nat → Option (List Nat) := lvL [(0, [0]), (1, []), (2, [2])]
theorem ac26 {T : Tab} (hT : TabOk Go.Proofs.Try.prog T) {ds : List D} {os : List (Nat × Ob)} {nx : Nat} {Q : D → List (Nat × Ob) → Nat → Prop} (hl : ds.length ≤ 6) (h : awp Go.Proofs.Try.prog T 6 nx lv26 (Go.Proofs.Try.f26.body.getD .skip) (fin Go.Proofs.Try.prog [.tmp 2] Q) ⟨prm 0 ds, os, nx⟩) : ACall Go.Proofs.Try.prog 26 ds os nx Q :=
  acall_intro hT.toS (fn := Go.Proofs.Try.f26) lv26 (by kernel_rfl) rfl rfl (by kernel_rfl) rfl hl rfl h
/-- damson/roots.Turn$1 -/
abbrev lv27 : Nat → Option (List Nat) := lvL [(0, [0, 1, 2]), (1, [0, 2, 7]), (2, [4]), (3, []), (4, [4])]
theorem ac27 {T : Tab} (hT : TabOk Go.Proofs.Try.prog T) {ds : List D} {os : List (Nat × Ob)} {nx : Nat} {Q : D → List (Nat × Ob) → Nat → Prop} (hl : ds.length ≤ 12) (h : awp Go.Proofs.Try.prog T 12 nx lv27 (Go.Proofs.Try.f27.body.getD .skip) (fin Go.Proofs.Try.prog [.tmp 4] Q) ⟨prm 0 ds, os, nx⟩) : ACall Go.Proofs.Try.prog 27 ds os nx Q :=
  acall_intro hT.toS (fn := Go.Proofs.Try.f27) lv27 (by kernel_rfl) rfl rfl (by kernel_rfl) rfl hl rfl h
/-- damson/roots.good -/
abbrev lv28 : Nat → Option (List Nat) := lvL [(0, [0, 1]), (1, [0, 6, 7, 8]), (2, [0, 6, 7, 8, 16]), (3, [4, 5]), (4, [0, 6, 20]), (5, [4, 5]), (6, [6, 23]), (7, [4, 5]), (8, [4, 5])]
theorem ac28 {T : Tab} (hT : TabOk Go.Proofs.Try.prog T) {ds : List D} {os : List (Nat × Ob)} {nx : Nat} {Q : D → List (Nat × Ob) → Nat → Prop} (hl : ds.length ≤ 30) (h : awp Go.Proofs.Try.prog T 30 nx lv28 (Go.Proofs.Try.f28.body.getD .skip) (fin Go.Proofs.Try.prog [.tmp 4, .tmp 5] Q) ⟨prm 0 ds, os, nx⟩) : ACall Go.Proofs.Try.prog 28 ds os nx Q :=
  acall_intro hT.toS (fn := Go.Proofs.Try.f28) lv28 (by kernel_rfl) rfl rfl (by kernel_rfl) rfl hl rfl h
/-- damson/roots.order -/
abbrev lv29 : Nat → Option (List Nat) := lvL [(0, [1, 2]), (1, [4])]
theorem ac29 {T : Tab} (hT : TabOk Go.Proofs.Try.prog T) {ds : List D} {os : List (Nat × Ob)} {nx : Nat} {Q : D → List (Nat × Ob) → Nat → Prop} (hl : ds.length ≤ 9) (h : awp Go.Proofs.Try.prog T 9 nx lv29 (Go.Proofs.Try.f29.body.getD .skip) (fin Go.Proofs.Try.prog [.tmp 4] Q) ⟨prm 0 ds, os, nx⟩) : ACall Go.Proofs.Try.prog 29 ds os nx Q :=
  acall_intro hT.toS (fn := Go.Proofs.Try.f29) lv29 (by kernel_rfl) rfl rfl (by kernel_rfl) rfl hl rfl h
/-- slices.Equal[[]damson/api.RootKey,damson/api.RootKey] -/
abbrev lv30 : Nat → Option (List Nat) := lvL [(0, [0, 1]), (1, [0, 1, 10]), (2, [4]), (3, [0, 1, 12, 13]), (4, [0, 1, 12, 13, 14]), (5, [0, 1, 5, 12, 13]), (6, [0, 1, 12, 13, 24]), (7, [4]), (8, [0, 1, 12, 13]), (9, [4])]
@[go_sem] def us30_6 : List Nat := [0, 0, 3, 7, 0, 0, 48, 112, 255]
theorem ac30 {T : Tab} (hT : TabOk Go.Proofs.Try.prog T) {ds : List D} {os : List (Nat × Ob)} {nx : Nat} {Q : D → List (Nat × Ob) → Nat → Prop} (hl : ds.length ≤ 26) (h : awp Go.Proofs.Try.prog T 26 nx lv30 (Go.Proofs.Try.f30.body.getD .skip) (fin Go.Proofs.Try.prog [.tmp 4] Q) ⟨prm 0 ds, os, nx⟩) : ACall Go.Proofs.Try.prog 30 ds os nx Q :=
  acall_intro hT.toS (fn := Go.Proofs.Try.f30) lv30 (by kernel_rfl) rfl rfl (by kernel_rfl) rfl hl rfl h
/-- damson/damsonref08.find -/
abbrev lv31 : Nat → Option (List Nat) := lvL [(0, [0, 1, 4]), (1, [1, 4, 8, 9, 10]), (2, [1, 4, 8, 9, 10, 11]), (3, [1, 4, 7, 8, 9, 10]), (4, [1, 4, 7, 8, 9, 10, 17]), (5, [4, 5]), (6, [1, 4, 8, 9, 10]), (7, [4, 5])]
theorem ac31 {T : Tab} (hT : TabOk Go.Proofs.Try.prog T) {ds : List D} {os : List (Nat × Ob)} {nx : Nat} {Q : D → List (Nat × Ob) → Nat → Prop} (hl : ds.length ≤ 21) (h : awp Go.Proofs.Try.prog T 21 nx lv31 (Go.Proofs.Try.f31.body.getD .skip) (fin Go.Proofs.Try.prog [.cell 4 39, .tmp 5] Q) ⟨prm 0 ds, os, nx⟩) : ACall Go.Proofs.Try.prog 31 ds os nx Q :=
  acall_intro hT.toS (fn := Go.Proofs.Try.f31) lv31 (by kernel_rfl) rfl rfl (by kernel_rfl) rfl hl rfl h
/-- damson/damsonref08.has -/
abbrev lv32 : Nat → Option (List Nat) := lvL [(0, [0, 1]), (1, [1, 7, 8, 9]), (2, [1, 7, 8, 9, 10]), (3, [1, 6, 7, 8, 9]), (4, [1, 7, 8, 9, 16]), (5, [4]), (6, [1, 7, 8, 9]), (7, [4])]
theorem ac32 {T : Tab} (hT : TabOk Go.Proofs.Try.prog T) {ds : List D} {os : List (Nat × Ob)} {nx : Nat} {Q : D → List (Nat × Ob) → Nat → Prop} (hl : ds.length ≤ 18) (h : awp Go.Proofs.Try.prog T 18 nx lv32 (Go.Proofs.Try.f32.body.getD .skip) (fin Go.Proofs.Try.prog [.tmp 4] Q) ⟨prm 0 ds, os, nx⟩) : ACall Go.Proofs.Try.prog 32 ds os nx Q :=
  acall_intro hT.toS (fn := Go.Proofs.Try.f32) lv32 (by kernel_rfl) rfl rfl (by kernel_rfl) rfl hl rfl h
/-- damson/damsonref08.with -/
abbrev lv33 : Nat → Option (List Nat) := lvL [(0, [0, 3]), (1, [0, 3, 5]), (2, [0, 3, 5, 10, 11, 12]), (3, [0, 3, 5, 10, 11, 12, 13]), (4, [0, 3, 5, 7, 10, 11, 12]), (5, [0, 3, 5, 7, 10, 11, 12, 20]), (6, [0, 3, 5, 10, 11, 12]), (7, [0, 3, 5, 10, 11, 12]), (8, [0, 3, 5]), (9, [3, 5, 30, 31, 32]), (10, [3, 5, 30, 31, 32, 33]), (11, [3, 5, 9, 30, 31, 32]), (12, [3, 5, 9, 30, 31, 32, 40]), (13, [3, 5, 30, 31, 32]), (14, [3, 5, 30, 31, 32]), (15, [4])]
theorem ac33 {T : Tab} (hT : TabOk Go.Proofs.Try.prog T) {ds : List D} {os : List (Nat × Ob)} {nx : Nat} {Q : D → List (Nat × Ob) → Nat → Prop} (hl : ds.length ≤ 47) (h : awp Go.Proofs.Try.prog T 47 nx lv33 (Go.Proofs.Try.f33.body.getD .skip) (fin Go.Proofs.Try.prog [.tmp 4] Q) ⟨prm 0 ds, os, nx⟩) : ACall Go.Proofs.Try.prog 33 ds os nx Q :=
  acall_intro hT.toS (fn := Go.Proofs.Try.f33) lv33 (by kernel_rfl) rfl rfl (by kernel_rfl) rfl hl rfl h
/-- slices.BinarySearchFunc[[]damson/api.RootKey,damson/api.RootKey,uint64] -/
abbrev lv34 : Nat → Option (List Nat) := lvL [(0, [0, 1, 2]), (1, [0, 1, 2, 8]), (2, [0, 1, 2, 8, 9, 10]), (3, [0, 1, 2, 8, 9, 10, 17]), (4, [0, 1, 2, 8, 9, 10, 11]), (5, [0, 1, 2, 8, 9, 10, 11, 31]), (6, [0, 1, 2, 8, 9, 10]), (7, [0, 1, 2, 8, 9, 10]), (8, [6, 7])]
theorem ac34 {T : Tab} (hT : TabOk Go.Proofs.Try.prog T) {ds : List D} {os : List (Nat × Ob)} {nx : Nat} {Q : D → List (Nat × Ob) → Nat → Prop} (hl : ds.length ≤ 49) (h : awp Go.Proofs.Try.prog T 49 nx lv34 (Go.Proofs.Try.f34.body.getD .skip) (fin Go.Proofs.Try.prog [.tmp 6, .tmp 7] Q) ⟨prm 0 ds, os, nx⟩) : ACall Go.Proofs.Try.prog 34 ds os nx Q :=
  acall_intro hT.toS (fn := Go.Proofs.Try.f34) lv34 (by kernel_rfl) rfl rfl (by kernel_rfl) rfl hl rfl h
/-- slices.ContainsFunc[[]damson/api.RootKey,damson/api.RootKey] -/
abbrev lv35 : Nat → Option (List Nat) := lvL [(0, [0, 1]), (1, [4])]
theorem ac35 {T : Tab} (hT : TabOk Go.Proofs.Try.prog T) {ds : List D} {os : List (Nat × Ob)} {nx : Nat} {Q : D → List (Nat × Ob) → Nat → Prop} (hl : ds.length ≤ 9) (h : awp Go.Proofs.Try.prog T 9 nx lv35 (Go.Proofs.Try.f35.body.getD .skip) (fin Go.Proofs.Try.prog [.tmp 4] Q) ⟨prm 0 ds, os, nx⟩) : ACall Go.Proofs.Try.prog 35 ds os nx Q :=
  acall_intro hT.toS (fn := Go.Proofs.Try.f35) lv35 (by kernel_rfl) rfl rfl (by kernel_rfl) rfl hl rfl h
/-- damson/roots.taken$1 -/
abbrev lv36 : Nat → Option (List Nat) := lvL [(0, [1, 2]), (1, [3])]
theorem ac36 {T : Tab} (hT : TabOk Go.Proofs.Try.prog T) {ds : List D} {os : List (Nat × Ob)} {nx : Nat} {Q : D → List (Nat × Ob) → Nat → Prop} (hl : ds.length ≤ 8) (h : awp Go.Proofs.Try.prog T 8 nx lv36 (Go.Proofs.Try.f36.body.getD .skip) (fin Go.Proofs.Try.prog [.tmp 3] Q) ⟨prm 0 ds, os, nx⟩) : ACall Go.Proofs.Try.prog 36 ds os nx Q :=
  acall_intro hT.toS (fn := Go.Proofs.Try.f36) lv36 (by kernel_rfl) rfl rfl (by kernel_rfl) rfl hl rfl h
/-- slices.rotateRight[damson/api.RootKey] -/
abbrev lv38 : Nat → Option (List Nat) := lvL [(0, [])]
theorem ac38 {T : Tab} (hT : TabOk Go.Proofs.Try.prog T) {ds : List D} {os : List (Nat × Ob)} {nx : Nat} {Q : D → List (Nat × Ob) → Nat → Prop} (hl : ds.length ≤ 10) (h : awp Go.Proofs.Try.prog T 10 nx lv38 (Go.Proofs.Try.f38.body.getD .skip) (fin Go.Proofs.Try.prog [] Q) ⟨prm 0 ds, os, nx⟩) : ACall Go.Proofs.Try.prog 38 ds os nx Q :=
  acall_intro hT.toS (fn := Go.Proofs.Try.f38) lv38 (by kernel_rfl) rfl rfl (by kernel_rfl) rfl hl rfl h
/-- cmp.Compare[uint64] -/
abbrev lv39 : Nat → Option (List Nat) := lvL [(0, [0, 1]), (1, [0, 1, 5]), (2, [0, 1, 5, 6]), (3, [0, 1, 6, 11]), (4, [12]), (5, [4]), (6, [4]), (7, [0, 1, 13]), (8, [4]), (9, [0, 1, 16]), (10, [4]), (11, [19]), (12, [4]), (13, [4])]
theorem ac39 {T : Tab} (hT : TabOk Go.Proofs.Try.prog T) {ds : List D} {os : List (Nat × Ob)} {nx : Nat} {Q : D → List (Nat × Ob) → Nat → Prop} (hl : ds.length ≤ 20) (h : awp Go.Proofs.Try.prog T 20 nx lv39 (Go.Proofs.Try.f39.body.getD .skip) (fin Go.Proofs.Try.prog [.tmp 4] Q) ⟨prm 0 ds, os, nx⟩) : ACall Go.Proofs.Try.prog 39 ds os nx Q :=
  acall_intro hT.toS (fn := Go.Proofs.Try.f39) lv39 (by kernel_rfl) rfl rfl (by kernel_rfl) rfl hl rfl h
/-- slices.IndexFunc[[]damson/api.RootKey,damson/api.RootKey] -/
abbrev lv40 : Nat → Option (List Nat) := lvL [(0, [0, 1]), (1, [0, 1, 7, 8]), (2, [0, 1, 7, 8, 9]), (3, [0, 1, 5, 7, 8]), (4, [0, 1, 5, 7, 8, 16]), (5, [4]), (6, [0, 1, 7, 8]), (7, [4])]
theorem ac40 {T : Tab} (hT : TabOk Go.Proofs.Try.prog T) {ds : List D} {os : List (Nat × Ob)} {nx : Nat} {Q : D → List (Nat × Ob) → Nat → Prop} (hl : ds.length ≤ 19) (h : awp Go.Proofs.Try.prog T 19 nx lv40 (Go.Proofs.Try.f40.body.getD .skip) (fin Go.Proofs.Try.prog [.tmp 4] Q) ⟨prm 0 ds, os, nx⟩) : ACall Go.Proofs.Try.prog 40 ds os nx Q :=
  acall_intro hT.toS (fn := Go.Proofs.Try.f40) lv40 (by kernel_rfl) rfl rfl (by kernel_rfl) rfl hl rfl h
/-- slices.rotateLeft[damson/api.RootKey] -/
abbrev lv41 : Nat → Option (List Nat) := lvL [(0, [0, 1]), (1, [0]), (2, [])]
theorem ac41 {T : Tab} (hT : TabOk Go.Proofs.Try.prog T) {ds : List D} {os : List (Nat × Ob)} {nx : Nat} {Q : D → List (Nat × Ob) → Nat → Prop} (hl : ds.length ≤ 14) (h : awp Go.Proofs.Try.prog T 14 nx lv41 (Go.Proofs.Try.f41.body.getD .skip) (fin Go.Proofs.Try.prog [] Q) ⟨prm 0 ds, os, nx⟩) : ACall Go.Proofs.Try.prog 41 ds os nx Q :=
  acall_intro hT.toS (fn := Go.Proofs.Try.f41) lv41 (by kernel_rfl) rfl rfl (by kernel_rfl) rfl hl rfl h
/-- cmp.isNaN[uint64] -/
abbrev lv42 : Nat → Option (List Nat) := lvL [(0, [0]), (1, [2])]
theorem ac42 {T : Tab} (hT : TabOk Go.Proofs.Try.prog T) {ds : List D} {os : List (Nat × Ob)} {nx : Nat} {Q : D → List (Nat × Ob) → Nat → Prop} (hl : ds.length ≤ 6) (h : awp Go.Proofs.Try.prog T 6 nx lv42 (Go.Proofs.Try.f42.body.getD .skip) (fin Go.Proofs.Try.prog [.tmp 2] Q) ⟨prm 0 ds, os, nx⟩) : ACall Go.Proofs.Try.prog 42 ds os nx Q :=
  acall_intro hT.toS (fn := Go.Proofs.Try.f42) lv42 (by kernel_rfl) rfl rfl (by kernel_rfl) rfl hl rfl h
/-- slices.Reverse[[]damson/api.RootKey,damson/api.RootKey] -/
abbrev lv43 : Nat → Option (List Nat) := lvL [(0, [0, 2, 3]), (1, [0, 2, 3, 9]), (2, [0, 2, 3]), (3, [0, 2, 3])]
@[go_sem] def us43_3 : List Nat := [0, 0, 0, 0, 0, 0, 48, 112, 0, 0, 768, 1792, 4083, 8179, 16383, 32767]
theorem ac43 {T : Tab} (hT : TabOk Go.Proofs.Try.prog T) {ds : List D} {os : List (Nat × Ob)} {nx : Nat} {Q : D → List (Nat × Ob) → Nat → Prop} (hl : ds.length ≤ 28) (h : awp Go.Proofs.Try.prog T 28 nx lv43 (Go.Proofs.Try.f43.body.getD .skip) (fin Go.Proofs.Try.prog [] Q) ⟨prm 0 ds, os, nx⟩) : ACall Go.Proofs.Try.prog 43 ds os nx Q :=
  acall_intro hT.toS (fn := Go.Proofs.Try.f43) lv43 (by kernel_rfl) rfl rfl (by kernel_rfl) rfl hl rfl h
end Dm
