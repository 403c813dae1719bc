import Derived.Test.YtfngdpmbhfejcaaFeedFt
set_option linter.unusedSimpArgs false
set_option linter.unusedVariables false
/-! The temporaries that are read behind each region. Printed by gen.py. -/
namespace Dm
def lvL (l : List (Nat × List Nat)) (i : Nat) : Option (List Nat) := lk i l
@[go_sem] theorem lvL_eq (l : List (Nat × List Nat)) (i : Nat) : lvL l i = lk i l := rfl
/-- damson/damsonlaw16.FeedKeeps -/
abbrev lv3 : Nat → Option (List Nat) := lvL [(0, [1, 2]), (1, [1, 2, 14]), (2, [4]), (3, [1, 2, 33]), (4, [4]), (5, [1, 2, 5]), (6, [2, 5, 37, 38, 39]), (7, [2, 5, 37, 38, 39, 40]), (8, [2, 5, 6, 7, 37, 38, 39]), (9, [2, 5, 6, 7, 8, 9, 10, 37, 38, 39]), (10, [2, 5, 6, 7, 8, 9, 37, 38, 39, 77]), (11, [4]), (12, [2, 5, 6, 7, 9, 37, 38, 39]), (13, [2, 5, 37, 38, 39]), (14, [2, 5, 37, 38, 39]), (15, [2, 5, 11, 12]), (16, [4])]
@[go_sem] def us3_16 : List Nat := [0, 1, 3, 7, 15, 7, 7, 71, 199, 455, 999, 2047, 4095, 8191, 16383, 16383, 49151, 16383, 147455, 409599, 933887, 2080767, 4194303, 8388607, 16777215]
theorem ac3 {T : Tab} (hT : TabOk Go.Proofs.Try.prog T) {ds : List D} {os : List (Nat × Ob)} {nx : Nat} {Q : D → List (Nat × Ob) → Nat → Prop} (hl : ds.length ≤ 121) (h : awp Go.Proofs.Try.prog T 121 nx lv3 (Go.Proofs.Try.f3.body.getD .skip) (fin Go.Proofs.Try.prog [.tmp 4] Q) ⟨prm 0 ds, os, nx⟩) : ACall Go.Proofs.Try.prog 3 ds os nx Q :=
  acall_intro hT.toS (fn := Go.Proofs.Try.f3) lv3 (by kernel_rfl) rfl rfl (by kernel_rfl) rfl hl rfl h
/-- damson/damsonlaw16.FeedOld -/
abbrev lv4 : Nat → Option (List Nat) := lvL [(0, [1, 2, 3]), (1, [1, 2, 3, 16]), (2, [6]), (3, [1, 2, 3, 39]), (4, [6]), (5, [1, 2, 3, 7]), (6, [1, 2, 3, 7, 8]), (7, [1, 3, 7, 8, 47, 48, 49]), (8, [1, 3, 7, 8, 47, 48, 49, 50]), (9, [1, 3, 7, 8, 9, 10, 47, 48, 49]), (10, [1, 3, 7, 8, 9, 10, 11, 47, 48, 49]), (11, [1, 3, 7, 8, 9, 10, 47, 48, 49, 69]), (12, [6]), (13, [1, 3, 7, 8, 9, 12, 13, 14, 47, 48, 49]), (14, [1, 3, 7, 8, 12, 47, 48, 49, 96]), (15, [6]), (16, [1, 3, 7, 8, 47, 48, 49]), (17, [1, 3, 7, 8, 47, 48, 49]), (18, [6])]
theorem ac4 {T : Tab} (hT : TabOk Go.Proofs.Try.prog T) {ds : List D} {os : List (Nat × Ob)} {nx : Nat} {Q : D → List (Nat × Ob) → Nat → Prop} (hl : ds.length ≤ 99) (h : awp Go.Proofs.Try.prog T 99 nx lv4 (Go.Proofs.Try.f4.body.getD .skip) (fin Go.Proofs.Try.prog [.tmp 6] Q) ⟨prm 0 ds, os, nx⟩) : ACall Go.Proofs.Try.prog 4 ds os nx Q :=
  acall_intro hT.toS (fn := Go.Proofs.Try.f4) lv4 (by kernel_rfl) rfl rfl (by kernel_rfl) rfl hl rfl h
/-- damson/damsonlaw16.FeedOnce -/
abbrev lv5 : Nat → Option (List Nat) := lvL [(0, [2, 3, 4, 5]), (1, [2, 3, 4, 5, 27]), (2, [8]), (3, [2, 3, 4, 5, 42]), (4, [8]), (5, [2, 3, 4, 5, 9, 10]), (6, [2, 3, 4, 5, 9, 10, 44, 45, 46]), (7, [2, 3, 4, 5, 9, 10, 44, 45, 46, 47]), (8, [2, 3, 4, 5, 9, 10, 12, 44, 45, 46]), (9, [2, 3, 4, 5, 9, 10, 12, 44, 45, 46, 63]), (10, [2, 3, 4, 5, 9, 10, 44, 45, 46]), (11, [2, 3, 4, 5, 9, 10, 44, 45, 46]), (12, [3, 4, 5, 9, 10, 69, 70, 71]), (13, [3, 4, 5, 9, 10, 69, 70, 71, 72]), (14, [3, 4, 5, 9, 10, 13, 14, 69, 70, 71]), (15, [3, 4, 5, 9, 10, 13, 14, 69, 70, 71, 78]), (16, [8]), (17, [3, 4, 5, 9, 10, 13, 14, 15, 16, 17, 69, 70, 71]), (18, [3, 4, 5, 9, 10, 13, 14, 15, 16, 69, 70, 71, 97]), (19, [8]), (20, [3, 4, 5, 9, 10, 13, 14, 16, 69, 70, 71]), (21, [3, 4, 5, 9, 10, 13, 14, 16, 69, 70, 71, 105]), (22, [3, 4, 5, 9, 10, 13, 69, 70, 71]), (23, [3, 4, 5, 9, 10, 13, 69, 70, 71, 119]), (24, [3, 4, 5, 9, 10, 13, 18, 19, 20, 69, 70, 71]), (25, [3, 4, 5, 9, 10, 13, 18, 19, 20, 69, 70, 71, 133]), (26, [5, 18, 21, 22]), (27, [8]), (28, [3, 4, 5, 9, 10, 18, 19, 69, 70, 71, 178]), (29, [8]), (30, [3, 4, 5, 9, 10, 19, 69, 70, 71]), (31, [3, 4, 5, 9, 10, 69, 70, 71]), (32, [3, 4, 5, 9, 10, 69, 70, 71]), (33, [4, 9, 10, 23, 24, 25]), (34, [4, 9, 10, 23, 24, 25, 192]), (35, [8]), (36, [8])]
@[go_sem] def us5_24 : List Nat := [0, 0, 0, 0, 12, 28, 60, 127, 255, 511, 511, 511, 0, 5119, 14335, 32767]
theorem ac5 {T : Tab} (hT : TabOk Go.Proofs.Try.prog T) {ds : List D} {os : List (Nat × Ob)} {nx : Nat} {Q : D → List (Nat × Ob) → Nat → Prop} (hl : ds.length ≤ 208) (h : awp Go.Proofs.Try.prog T 208 nx lv5 (Go.Proofs.Try.f5.body.getD .skip) (fin Go.Proofs.Try.prog [.tmp 8] Q) ⟨prm 0 ds, os, nx⟩) : ACall Go.Proofs.Try.prog 5 ds os nx Q :=
  acall_intro hT.toS (fn := Go.Proofs.Try.f5) lv5 (by kernel_rfl) rfl rfl (by kernel_rfl) rfl hl rfl h
/-- damson/damsonlaw16.FeedSteps -/
abbrev lv6 : Nat → Option (List Nat) := lvL [(0, [2, 3, 4, 5]), (1, [2, 3, 4, 5, 22]), (2, [8]), (3, [2, 3, 4, 5, 26]), (4, [8]), (5, [2, 3, 4, 5, 9, 10, 11]), (6, [2, 3, 4, 5, 9, 10, 11, 40]), (7, [8]), (8, [3, 4, 5, 9, 10, 12, 13, 14]), (9, [3, 4, 5, 9, 10, 12, 14, 15, 16, 17]), (10, [3, 4, 9, 10, 12, 14, 15, 16, 17, 18, 19, 20]), (11, [8])]
theorem ac6 {T : Tab} (hT : TabOk Go.Proofs.Try.prog T) {ds : List D} {os : List (Nat × Ob)} {nx : Nat} {Q : D → List (Nat × Ob) → Nat → Prop} (hl : ds.length ≤ 124) (h : awp Go.Proofs.Try.prog T 124 nx lv6 (Go.Proofs.Try.f6.body.getD .skip) (fin Go.Proofs.Try.prog [.tmp 8] Q) ⟨prm 0 ds, os, nx⟩) : ACall Go.Proofs.Try.prog 6 ds os nx Q :=
  acall_intro hT.toS (fn := Go.Proofs.Try.f6) lv6 (by kernel_rfl) rfl rfl (by kernel_rfl) rfl hl rfl h
/-- damson/damsonlaw16.FeedMasks -/
abbrev lv7 : Nat → Option (List Nat) := lvL [(0, [1, 2, 3]), (1, [1, 2, 3, 23]), (2, [6]), (3, [1, 2, 3, 31]), (4, [6]), (5, [1, 2, 3, 7, 9]), (6, [1, 2, 3, 7, 9, 10, 12]), (7, [2, 7, 9, 10, 12, 13, 15]), (8, [2, 7, 9, 10, 13, 66]), (9, [6]), (10, [2, 7, 10, 13, 68]), (11, [6]), (12, [2, 7, 10, 13, 16]), (13, [2, 7, 10, 13, 16, 17]), (14, [2, 10, 13, 16, 17, 78, 79, 80]), (15, [2, 10, 13, 16, 17, 78, 79, 80, 81]), (16, [2, 10, 13, 16, 17, 19, 78, 79, 80]), (17, [2, 10, 13, 16, 17, 19, 78, 79, 80, 95]), (18, [2, 10, 13, 16, 17, 78, 79, 80]), (19, [2, 10, 13, 16, 17, 78, 79, 80, 109]), (20, [2, 10, 13, 16, 17, 78, 79, 80]), (21, [6]), (22, [2, 10, 13, 16, 17, 78, 79, 80]), (23, [2, 10, 13, 16, 17, 113, 114, 115]), (24, [2, 10, 13, 16, 17, 113, 114, 115, 116]), (25, [2, 10, 13, 16, 17, 21, 113, 114, 115]), (26, [2, 10, 13, 16, 17, 113, 114, 115, 124]), (27, [6]), (28, [2, 10, 13, 16, 17, 113, 114, 115]), (29, [6])]
@[go_sem] def us7_17 : List Nat := [0, 0, 2, 7, 15, 31, 31, 127, 255, 31, 1023, 2047]
@[go_sem] def us7_19 : List Nat := [0, 0, 2, 7, 15, 31, 31, 127, 255, 31, 1023, 2047]
theorem ac7 {T : Tab} (hT : TabOk Go.Proofs.Try.prog T) {ds : List D} {os : List (Nat × Ob)} {nx : Nat} {Q : D → List (Nat × Ob) → Nat → Prop} (hl : ds.length ≤ 136) (h : awp Go.Proofs.Try.prog T 136 nx lv7 (Go.Proofs.Try.f7.body.getD .skip) (fin Go.Proofs.Try.prog [.tmp 6] Q) ⟨prm 0 ds, os, nx⟩) : ACall Go.Proofs.Try.prog 7 ds os nx Q :=
  acall_intro hT.toS (fn := Go.Proofs.Try.f7) lv7 (by kernel_rfl) rfl rfl (by kernel_rfl) rfl hl rfl h
/-- damson/damsonlaw16.FeedDoes -/
abbrev lv8 : Nat → Option (List Nat) := lvL [(0, [2, 3, 4, 6, 7, 8, 12]), (1, [2, 3, 4, 6, 7, 8, 12, 36]), (2, [14]), (3, [2, 3, 4, 6, 7, 8, 12, 46]), (4, [14]), (5, [2, 3, 4, 6, 7, 8, 12, 15]), (6, [2, 3, 4, 6, 7, 8, 12, 15, 16, 17, 18]), (7, [6, 7, 8, 12, 15, 16, 17, 18, 19, 20, 21]), (8, [6, 7, 8, 12, 15, 16, 17, 18, 19, 20, 21, 22, 23, 24]), (9, [7, 8, 12, 15, 16, 17, 18, 19, 20, 21, 22, 23, 24, 25, 26, 27]), (10, [7, 8, 12, 15, 16, 17, 18, 19, 20, 21, 22, 23, 24, 25, 26, 27, 28, 29]), (11, [7, 8, 12, 15, 16, 17, 18, 19, 20, 21, 22, 23, 24, 25, 26, 27, 28, 29, 30, 31]), (12, [7, 15, 16, 22, 32]), (13, [7, 15, 16, 22, 32, 164, 165]), (14, [7, 15, 16, 22, 32, 164, 165, 166]), (15, [7, 15, 16, 22, 32, 33, 164, 165]), (16, [7, 15, 16, 22, 32, 164, 165]), (17, [7, 15, 16, 22, 32, 164, 165]), (18, [7, 15, 22, 32, 179, 180]), (19, [7, 15, 22, 32, 179, 180, 181]), (20, [7, 15, 22, 32, 34, 179, 180]), (21, [7, 15, 22, 32, 179, 180]), (22, [7, 15, 22, 32, 179, 180]), (23, [14])]
@[go_sem] def us8_12 : List Nat := [0, 0, 3, 7, 15, 15, 63, 127, 255, 511, 511, 2047, 4095, 8191, 16383, 16383, 65535, 131071, 262143, 524287, 524287, 2097151, 4194303, 8388607, 16777215, 16777215, 67108863, 134217727, 268435455, 536870911, 536870911, 2147483647, 4294967295, 8589934591, 17179869183, 17179869183, 68719476735, 137438953471, 274877906943, 549755813887, 549755813887, 2199023255551, 549755813887, 549755813887, 17592186044415, 35184372088831, 70368744177663, 140737488355327, 281474976710655, 562949953421311, 281474976710655, 2251799813685247, 4503599627370495, 9007199254740991, 18014398509481983, 36028797018963967, 36028797018963967, 144115188075855871, 36028797018963967, 36028797018963967, 1152921504606846975, 2305843009213693951, 4611686018427387903, 9223372036854775807, 18446744073709551615, 36893488147419103231, 73786976294838206463, 147573952589676412927, 295147905179352825855]
theorem ac8 {T : Tab} (hT : TabOk Go.Proofs.Try.prog T) {ds : List D} {os : List (Nat × Ob)} {nx : Nat} {Q : D → List (Nat × Ob) → Nat → Prop} (hl : ds.length ≤ 199) (h : awp Go.Proofs.Try.prog T 199 nx lv8 (Go.Proofs.Try.f8.body.getD .skip) (fin Go.Proofs.Try.prog [.tmp 14] Q) ⟨prm 0 ds, os, nx⟩) : ACall Go.Proofs.Try.prog 8 ds os nx Q :=
  acall_intro hT.toS (fn := Go.Proofs.Try.f8) lv8 (by kernel_rfl) rfl rfl (by kernel_rfl) rfl hl rfl h
/-- damson/damsonlaw16.live -/
abbrev lv9 : Nat → Option (List Nat) := lvL [(0, []), (1, [1]), (2, [1, 8]), (3, [1, 8, 9]), (4, [1, 2, 4, 8]), (5, [1, 2, 8, 17]), (6, [0]), (7, [1, 8]), (8, [1, 8]), (9, [1, 5, 6]), (10, [0])]
theorem ac9 {T : Tab} (hT : TabOk Go.Proofs.Try.prog T) {ds : List D} {os : List (Nat × Ob)} {nx : Nat} {Q : D → List (Nat × Ob) → Nat → Prop} (hl : ds.length ≤ 37) (h : awp Go.Proofs.Try.prog T 37 nx lv9 (Go.Proofs.Try.f9.body.getD .skip) (fin Go.Proofs.Try.prog [.tmp 0] Q) ⟨prm 0 ds, os, nx⟩) : ACall Go.Proofs.Try.prog 9 ds os nx Q :=
  acall_intro hT.toS (fn := Go.Proofs.Try.f9) lv9 (by kernel_rfl) rfl rfl (by kernel_rfl) rfl hl rfl h
/-- damson/feed.Check -/
abbrev lv10 : Nat → Option (List Nat) := lvL [(0, [1, 2, 31]), (1, [1, 2, 24, 31]), (2, [2]), (3, [1, 2, 3, 31]), (4, [2, 3, 29, 31]), (5, [2, 3, 5, 31]), (6, [2, 3, 5, 31]), (7, [2, 3, 31, 43]), (8, [2]), (9, [2])]
theorem ac10 {T : Tab} (hT : TabOk Go.Proofs.Try.prog T) {ds : List D} {os : List (Nat × Ob)} {nx : Nat} {Q : D → List (Nat × Ob) → Nat → Prop} (hl : ds.length ≤ 44) (h : awp Go.Proofs.Try.prog T 44 nx lv10 (Go.Proofs.Try.f10.body.getD .skip) (fin Go.Proofs.Try.prog [.cell 2 28] Q) ⟨prm 0 ds, os, nx⟩) : ACall Go.Proofs.Try.prog 10 ds os nx Q :=
  acall_intro hT.toS (fn := Go.Proofs.Try.f10) lv10 (by kernel_rfl) rfl rfl (by kernel_rfl) rfl hl rfl h
/-- damson/feed.Add -/
abbrev lv11 : Nat → Option (List Nat) := lvL [(0, [1, 2, 3, 4, 8]), (1, [1, 2, 3, 4, 8, 13]), (2, [8, 9, 10]), (3, [1, 2, 3, 4, 8, 23]), (4, [8, 9, 10]), (5, [1, 2, 3, 4, 8, 11]), (6, [8, 11, 12]), (7, [8, 9, 10])]
theorem ac11 {T : Tab} (hT : TabOk Go.Proofs.Try.prog T) {ds : List D} {os : List (Nat × Ob)} {nx : Nat} {Q : D → List (Nat × Ob) → Nat → Prop} (hl : ds.length ≤ 50) (h : awp Go.Proofs.Try.prog T 50 nx lv11 (Go.Proofs.Try.f11.body.getD .skip) (fin Go.Proofs.Try.prog [.cell 8 25, .tmp 9, .tmp 10] Q) ⟨prm 0 ds, os, nx⟩) : ACall Go.Proofs.Try.prog 11 ds os nx Q :=
  acall_intro hT.toS (fn := Go.Proofs.Try.f11) lv11 (by kernel_rfl) rfl rfl (by kernel_rfl) rfl hl rfl h
/-- damson/feed.Oldest -/
abbrev lv12 : Nat → Option (List Nat) := lvL [(0, [1]), (1, [1, 4]), (2, [1, 4, 8]), (3, [2, 3]), (4, [2, 3])]
theorem ac12 {T : Tab} (hT : TabOk Go.Proofs.Try.prog T) {ds : List D} {os : List (Nat × Ob)} {nx : Nat} {Q : D → List (Nat × Ob) → Nat → Prop} (hl : ds.length ≤ 17) (h : awp Go.Proofs.Try.prog T 17 nx lv12 (Go.Proofs.Try.f12.body.getD .skip) (fin Go.Proofs.Try.prog [.tmp 2, .tmp 3] Q) ⟨prm 0 ds, os, nx⟩) : ACall Go.Proofs.Try.prog 12 ds os nx Q :=
  acall_intro hT.toS (fn := Go.Proofs.Try.f12) lv12 (by kernel_rfl) rfl rfl (by kernel_rfl) rfl hl rfl h
/-- damson/damsonref16.SameEvents -/
abbrev lv13 : Nat → Option (List Nat) := lvL [(0, [0, 1]), (1, [0, 1, 10]), (2, [4]), (3, [0, 1, 12, 13]), (4, [0, 1, 12, 13, 14]), (5, [0, 1, 5, 12, 13]), (6, [0, 1, 12, 13, 24]), (7, [4]), (8, [0, 1, 12, 13]), (9, [4])]
@[go_sem] def us13_6 : List Nat := [0, 0, 3, 7, 0, 0, 48, 112, 255]
theorem ac13 {T : Tab} (hT : TabOk Go.Proofs.Try.prog T) {ds : List D} {os : List (Nat × Ob)} {nx : Nat} {Q : D → List (Nat × Ob) → Nat → Prop} (hl : ds.length ≤ 26) (h : awp Go.Proofs.Try.prog T 26 nx lv13 (Go.Proofs.Try.f13.body.getD .skip) (fin Go.Proofs.Try.prog [.tmp 4] Q) ⟨prm 0 ds, os, nx⟩) : ACall Go.Proofs.Try.prog 13 ds os nx Q :=
  acall_intro hT.toS (fn := Go.Proofs.Try.f13) lv13 (by kernel_rfl) rfl rfl (by kernel_rfl) rfl hl rfl h
/-- damson/feed.May -/
abbrev lv14 : Nat → Option (List Nat) := lvL [(0, [2, 3]), (1, [2, 3, 5, 6]), (2, [3, 5, 12]), (3, [4]), (4, [28]), (5, [4]), (6, [4])]
theorem ac14 {T : Tab} (hT : TabOk Go.Proofs.Try.prog T) {ds : List D} {os : List (Nat × Ob)} {nx : Nat} {Q : D → List (Nat × Ob) → Nat → Prop} (hl : ds.length ≤ 34) (h : awp Go.Proofs.Try.prog T 34 nx lv14 (Go.Proofs.Try.f14.body.getD .skip) (fin Go.Proofs.Try.prog [.tmp 4] Q) ⟨prm 0 ds, os, nx⟩) : ACall Go.Proofs.Try.prog 14 ds os nx Q :=
  acall_intro hT.toS (fn := Go.Proofs.Try.f14) lv14 (by kernel_rfl) rfl rfl (by kernel_rfl) rfl hl rfl h
/-- damson/feed.Tell -/
abbrev lv15 : Nat → Option (List Nat) := lvL [(0, [2, 3, 4, 6, 7]), (1, [2, 3, 4, 6, 7, 9]), (2, [2, 3, 4, 6, 7, 9, 17]), (3, [6, 7, 8]), (4, [2, 3, 4, 6, 7, 21]), (5, [6, 7, 8]), (6, [2, 3, 4, 6, 7, 10]), (7, [2, 3, 4, 6, 7, 37, 38, 39]), (8, [2, 3, 4, 6, 7, 37, 38, 39, 40]), (9, [2, 3, 4, 6, 7, 12, 37, 38, 39]), (10, [2, 3, 4, 6, 7, 12, 37, 38, 39, 43]), (11, [2, 3, 4, 6, 7, 12, 37, 38, 39, 48]), (12, [2, 3, 4, 6, 7, 37, 38, 39]), (13, [2, 3, 4, 6, 7, 37, 38, 39]), (14, [2, 3, 4, 6, 7, 61]), (15, [4, 6, 7]), (16, [2, 4, 6, 7, 70]), (17, [4, 6, 7]), (18, [6, 7, 8])]
@[go_sem] def us15_18 : List Nat := [0, 0, 1, 7, 15]
theorem ac15 {T : Tab} (hT : TabOk Go.Proofs.Try.prog T) {ds : List D} {os : List (Nat × Ob)} {nx : Nat} {Q : D → List (Nat × Ob) → Nat → Prop} (hl : ds.length ≤ 82) (h : awp Go.Proofs.Try.prog T 82 nx lv15 (Go.Proofs.Try.f15.body.getD .skip) (fin Go.Proofs.Try.prog [.tmp 6, .cell 7 39, .tmp 8] Q) ⟨prm 0 ds, os, nx⟩) : ACall Go.Proofs.Try.prog 15 ds os nx Q :=
  acall_intro hT.toS (fn := Go.Proofs.Try.f15) lv15 (by kernel_rfl) rfl rfl (by kernel_rfl) rfl hl rfl h
/-- damson/damsonref16.Add -/
abbrev lv16 : Nat → Option (List Nat) := lvL [(0, [1, 2, 3, 4, 8]), (1, [1, 2, 3, 4, 8, 22]), (2, [8, 9, 10]), (3, [1, 2, 3, 4, 8, 26]), (4, [8, 9, 10]), (5, [4, 8, 11]), (6, [4, 8, 11, 41]), (7, [4, 8, 11]), (8, [8, 9, 10])]
@[go_sem] def us16_5 : List Nat := [0, 1, 3, 0, 8, 0, 0, 0, 248, 504, 1023, 2047]
@[go_sem] def us16_8 : List Nat := [0, 1, 3, 0, 15, 0, 32, 31, 255, 511]
theorem ac16 {T : Tab} (hT : TabOk Go.Proofs.Try.prog T) {ds : List D} {os : List (Nat × Ob)} {nx : Nat} {Q : D → List (Nat × Ob) → Nat → Prop} (hl : ds.length ≤ 51) (h : awp Go.Proofs.Try.prog T 51 nx lv16 (Go.Proofs.Try.f16.body.getD .skip) (fin Go.Proofs.Try.prog [.cell 8 25, .tmp 9, .tmp 10] Q) ⟨prm 0 ds, os, nx⟩) : ACall Go.Proofs.Try.prog 16 ds os nx Q :=
  acall_intro hT.toS (fn := Go.Proofs.Try.f16) lv16 (by kernel_rfl) rfl rfl (by kernel_rfl) rfl hl rfl h
/-- damson/damsonref16.Tell -/
abbrev lv17 : Nat → Option (List Nat) := lvL [(0, [2, 3, 4, 7]), (1, [2, 3, 4, 7, 9]), (2, [2, 3, 4, 7, 9, 17]), (3, [6, 7, 8]), (4, [2, 3, 4, 7, 21]), (5, [6, 7, 8]), (6, [2, 3, 4, 7, 10]), (7, [2, 3, 4, 7, 10, 24, 25, 26]), (8, [2, 3, 4, 7, 10, 24, 25, 26, 27]), (9, [2, 3, 4, 7, 10, 12, 24, 25, 26]), (10, [2, 3, 4, 7, 10, 12, 24, 25, 26, 47]), (11, [2, 3, 4, 7, 10, 24, 25, 26]), (12, [2, 3, 4, 7, 10, 24, 25, 26]), (13, [2, 3, 4, 7, 10, 56]), (14, [6, 7, 8]), (15, [2, 4, 7, 10, 65]), (16, [6, 7, 8]), (17, [6, 7, 8])]
@[go_sem] def us17_14 : List Nat := [0, 0, 2, 0, 8, 24, 62, 1, 255, 511]
@[go_sem] def us17_16 : List Nat := [0, 0, 3, 7]
@[go_sem] def us17_17 : List Nat := [0, 0, 2, 0, 0, 16, 56, 120, 248, 510, 1, 2047, 4095]
theorem ac17 {T : Tab} (hT : TabOk Go.Proofs.Try.prog T) {ds : List D} {os : List (Nat × Ob)} {nx : Nat} {Q : D → List (Nat × Ob) → Nat → Prop} (hl : ds.length ≤ 77) (h : awp Go.Proofs.Try.prog T 77 nx lv17 (Go.Proofs.Try.f17.body.getD .skip) (fin Go.Proofs.Try.prog [.tmp 6, .cell 7 39, .tmp 8] Q) ⟨prm 0 ds, os, nx⟩) : ACall Go.Proofs.Try.prog 17 ds os nx Q :=
  acall_intro hT.toS (fn := Go.Proofs.Try.f17) lv17 (by kernel_rfl) rfl rfl (by kernel_rfl) rfl hl rfl h
/-- damson/damsonref16.Oldest -/
abbrev lv18 : Nat → Option (List Nat) := lvL [(0, [1]), (1, [1, 6]), (2, [2, 3]), (3, [2, 3])]
theorem ac18 {T : Tab} (hT : TabOk Go.Proofs.Try.prog T) {ds : List D} {os : List (Nat × Ob)} {nx : Nat} {Q : D → List (Nat × Ob) → Nat → Prop} (hl : ds.length ≤ 14) (h : awp Go.Proofs.Try.prog T 14 nx lv18 (Go.Proofs.Try.f18.body.getD .skip) (fin Go.Proofs.Try.prog [.tmp 2, .tmp 3] Q) ⟨prm 0 ds, os, nx⟩) : ACall Go.Proofs.Try.prog 18 ds os nx Q :=
  acall_intro hT.toS (fn := Go.Proofs.Try.f18) lv18 (by kernel_rfl) rfl rfl (by kernel_rfl) rfl hl rfl h
/-- damson/damsonref16.Same -/
abbrev lv19 : Nat → Option (List Nat) := lvL [(0, [2, 3]), (1, [4])]
theorem ac19 {T : Tab} (hT : TabOk Go.Proofs.Try.prog T) {ds : List D} {os : List (Nat × Ob)} {nx : Nat} {Q : D → List (Nat × Ob) → Nat → Prop} (hl : ds.length ≤ 17) (h : awp Go.Proofs.Try.prog T 17 nx lv19 (Go.Proofs.Try.f19.body.getD .skip) (fin Go.Proofs.Try.prog [.tmp 4] Q) ⟨prm 0 ds, os, nx⟩) : ACall Go.Proofs.Try.prog 19 ds os nx Q :=
  acall_intro hT.toS (fn := Go.Proofs.Try.f19) lv19 (by kernel_rfl) rfl rfl (by kernel_rfl) rfl hl rfl h
/-- damson/damsonref16.May -/
abbrev lv20 : Nat → Option (List Nat) := lvL [(0, [2, 3]), (1, [2, 3, 5, 6]), (2, [3, 5, 25]), (3, [4]), (4, [30]), (5, [4]), (6, [4])]
theorem ac20 {T : Tab} (hT : TabOk Go.Proofs.Try.prog T) {ds : List D} {os : List (Nat × Ob)} {nx : Nat} {Q : D → List (Nat × Ob) → Nat → Prop} (hl : ds.length ≤ 31) (h : awp Go.Proofs.Try.prog T 31 nx lv20 (Go.Proofs.Try.f20.body.getD .skip) (fin Go.Proofs.Try.prog [.tmp 4] Q) ⟨prm 0 ds, os, nx⟩) : ACall Go.Proofs.Try.prog 20 ds os nx Q :=
  acall_intro hT.toS (fn := Go.Proofs.Try.f20) lv20 (by kernel_rfl) rfl rfl (by kernel_rfl) rfl hl rfl h
/-- damson/damsonref16.Check -/
abbrev lv21 : Nat → Option (List Nat) := lvL [(0, [1]), (1, [1, 23]), (2, [2]), (3, [1, 25, 26, 27]), (4, [1, 25, 26, 27, 28]), (5, [1, 3, 4, 25, 26, 27]), (6, [1, 25, 26, 27, 53]), (7, [2]), (8, [1, 25, 26, 27]), (9, [2])]
theorem ac21 {T : Tab} (hT : TabOk Go.Proofs.Try.prog T) {ds : List D} {os : List (Nat × Ob)} {nx : Nat} {Q : D → List (Nat × Ob) → Nat → Prop} (hl : ds.length ≤ 55) (h : awp Go.Proofs.Try.prog T 55 nx lv21 (Go.Proofs.Try.f21.body.getD .skip) (fin Go.Proofs.Try.prog [.tmp 2] Q) ⟨prm 0 ds, os, nx⟩) : ACall Go.Proofs.Try.prog 21 ds os nx Q :=
  acall_intro hT.toS (fn := Go.Proofs.Try.f21) lv21 (by kernel_rfl) rfl rfl (by kernel_rfl) rfl hl rfl h
/-- damson/feed.Same -/
abbrev lv22 : Nat → Option (List Nat) := lvL [(0, [2, 3]), (1, [4])]
theorem ac22 {T : Tab} (hT : TabOk Go.Proofs.Try.prog T) {ds : List D} {os : List (Nat × Ob)} {nx : Nat} {Q : D → List (Nat × Ob) → Nat → Prop} (hl : ds.length ≤ 17) (h : awp Go.Proofs.Try.prog T 17 nx lv22 (Go.Proofs.Try.f22.body.getD .skip) (fin Go.Proofs.Try.prog [.tmp 4] Q) ⟨prm 0 ds, os, nx⟩) : ACall Go.Proofs.Try.prog 22 ds os nx Q :=
  acall_intro hT.toS (fn := Go.Proofs.Try.f22) lv22 (by kernel_rfl) rfl rfl (by kernel_rfl) rfl hl rfl h
/-- damson/feed.New -/
abbrev lv23 : Nat → Option (List Nat) := lvL [(0, [0]), (1, [0])]
theorem ac23 {T : Tab} (hT : TabOk Go.Proofs.Try.prog T) {ds : List D} {os : List (Nat × Ob)} {nx : Nat} {Q : D → List (Nat × Ob) → Nat → Prop} (hl : ds.length ≤ 2) (h : awp Go.Proofs.Try.prog T 2 nx lv23 (Go.Proofs.Try.f23.body.getD .skip) (fin Go.Proofs.Try.prog [.cell 0 25] Q) ⟨prm 0 ds, os, nx⟩) : ACall Go.Proofs.Try.prog 23 ds os nx Q :=
  acall_intro hT.toS (fn := Go.Proofs.Try.f23) lv23 (by kernel_rfl) rfl rfl (by kernel_rfl) rfl hl rfl h
/-- damson/damsonref16.New -/
abbrev lv24 : Nat → Option (List Nat) := lvL [(0, [0]), (1, [0])]
theorem ac24 {T : Tab} (hT : TabOk Go.Proofs.Try.prog T) {ds : List D} {os : List (Nat × Ob)} {nx : Nat} {Q : D → List (Nat × Ob) → Nat → Prop} (hl : ds.length ≤ 2) (h : awp Go.Proofs.Try.prog T 2 nx lv24 (Go.Proofs.Try.f24.body.getD .skip) (fin Go.Proofs.Try.prog [.cell 0 25] Q) ⟨prm 0 ds, os, nx⟩) : ACall Go.Proofs.Try.prog 24 ds os nx Q :=
  acall_intro hT.toS (fn := Go.Proofs.Try.f24) lv24 (by kernel_rfl) rfl rfl (by kernel_rfl) rfl hl rfl h
/-- slices.Backward[[]damson/api.Event,damson/api.Event] -/
abbrev lv25 : Nat → Option (List Nat) := lvL [(0, [1]), (1, [2])]
theorem ac25 {T : Tab} (hT : TabOk Go.Proofs.Try.prog T) {ds : List D} {os : List (Nat × Ob)} {nx : Nat} {Q : D → List (Nat × Ob) → Nat → Prop} (hl : ds.length ≤ 4) (h : awp Go.Proofs.Try.prog T 4 nx lv25 (Go.Proofs.Try.f25.body.getD .skip) (fin Go.Proofs.Try.prog [.tmp 2] Q) ⟨prm 0 ds, os, nx⟩) : ACall Go.Proofs.Try.prog 25 ds os nx Q :=
  acall_intro hT.toS (fn := Go.Proofs.Try.f25) lv25 (by kernel_rfl) rfl rfl (by kernel_rfl) rfl hl rfl h
/-- damson/feed.kind -/
abbrev lv26 : Nat → Option (List Nat) := lvL [(0, [0]), (1, [2])]
theorem ac26 {T : Tab} (hT : TabOk Go.Proofs.Try.prog T) {ds : List D} {os : List (Nat × Ob)} {nx : Nat} {Q : D → List (Nat × Ob) → Nat → Prop} (hl : ds.length ≤ 9) (h : awp Go.Proofs.Try.prog T 9 nx lv26 (Go.Proofs.Try.f26.body.getD .skip) (fin Go.Proofs.Try.prog [.tmp 2] Q) ⟨prm 0 ds, os, nx⟩) : ACall Go.Proofs.Try.prog 26 ds os nx Q :=
  acall_intro hT.toS (fn := Go.Proofs.Try.f26) lv26 (by kernel_rfl) rfl rfl (by kernel_rfl) rfl hl rfl h
/-- slices.Clone[[]damson/api.Event,damson/api.Event] -/
abbrev lv27 : Nat → Option (List Nat) := lvL [(0, [0]), (1, [0, 4]), (2, [2]), (3, [2])]
theorem ac27 {T : Tab} (hT : TabOk Go.Proofs.Try.prog T) {ds : List D} {os : List (Nat × Ob)} {nx : Nat} {Q : D → List (Nat × Ob) → Nat → Prop} (hl : ds.length ≤ 8) (h : awp Go.Proofs.Try.prog T 8 nx lv27 (Go.Proofs.Try.f27.body.getD .skip) (fin Go.Proofs.Try.prog [.tmp 2] Q) ⟨prm 0 ds, os, nx⟩) : ACall Go.Proofs.Try.prog 27 ds os nx Q :=
  acall_intro hT.toS (fn := Go.Proofs.Try.f27) lv27 (by kernel_rfl) rfl rfl (by kernel_rfl) rfl hl rfl h
/-- damson/damsonref16.wants -/
abbrev lv28 : Nat → Option (List Nat) := lvL [(0, [0, 1]), (1, [0, 5, 6]), (2, [0, 5, 6, 7]), (3, [0, 5, 6]), (4, [0, 5, 6]), (5, [4])]
theorem ac28 {T : Tab} (hT : TabOk Go.Proofs.Try.prog T) {ds : List D} {os : List (Nat × Ob)} {nx : Nat} {Q : D → List (Nat × Ob) → Nat → Prop} (hl : ds.length ≤ 14) (h : awp Go.Proofs.Try.prog T 14 nx lv28 (Go.Proofs.Try.f28.body.getD .skip) (fin Go.Proofs.Try.prog [.tmp 4] Q) ⟨prm 0 ds, os, nx⟩) : ACall Go.Proofs.Try.prog 28 ds os nx Q :=
  acall_intro hT.toS (fn := Go.Proofs.Try.f28) lv28 (by kernel_rfl) rfl rfl (by kernel_rfl) rfl hl rfl h
/-- slices.Equal[[]damson/api.Event,damson/api.Event] -/
abbrev lv29 : Nat → Option (List Nat) := lvL [(0, [0, 1]), (1, [0, 1, 10]), (2, [4]), (3, [0, 1, 12, 13]), (4, [0, 1, 12, 13, 14]), (5, [0, 1, 5, 12, 13]), (6, [0, 1, 12, 13, 24]), (7, [4]), (8, [0, 1, 12, 13]), (9, [4])]
@[go_sem] def us29_6 : List Nat := [0, 0, 3, 7, 0, 0, 48, 112, 255]
theorem ac29 {T : Tab} (hT : TabOk Go.Proofs.Try.prog T) {ds : List D} {os : List (Nat × Ob)} {nx : Nat} {Q : D → List (Nat × Ob) → Nat → Prop} (hl : ds.length ≤ 26) (h : awp Go.Proofs.Try.prog T 26 nx lv29 (Go.Proofs.Try.f29.body.getD .skip) (fin Go.Proofs.Try.prog [.tmp 4] Q) ⟨prm 0 ds, os, nx⟩) : ACall Go.Proofs.Try.prog 29 ds os nx Q :=
  acall_intro hT.toS (fn := Go.Proofs.Try.f29) lv29 (by kernel_rfl) rfl rfl (by kernel_rfl) rfl hl rfl h
/-- slices.Backward[[]damson/api.Event,damson/api.Event]$1 -/
abbrev lv30 : Nat → Option (List Nat) := lvL [(0, [0, 1, 3]), (1, [0, 1, 3, 8]), (2, [0, 1, 3]), (3, [0, 1, 3, 18])]
theorem ac30 {T : Tab} (hT : TabOk Go.Proofs.Try.prog T) {ds : List D} {os : List (Nat × Ob)} {nx : Nat} {Q : D → List (Nat × Ob) → Nat → Prop} (hl : ds.length ≤ 19) (h : awp Go.Proofs.Try.prog T 19 nx lv30 (Go.Proofs.Try.f30.body.getD .skip) (fin Go.Proofs.Try.prog [] Q) ⟨prm 0 ds, os, nx⟩) : ACall Go.Proofs.Try.prog 30 ds os nx Q :=
  acall_intro hT.toS (fn := Go.Proofs.Try.f30) lv30 (by kernel_rfl) rfl rfl (by kernel_rfl) rfl hl rfl h
end Dm
