import Derived.Test.YtfngdpmbhfejcaaS15
import Derived.Test.YtfngdpmbhfejcaaProg
import Derived.KernelRfl
set_option linter.unusedSimpArgs false
set_option linter.unusedVariables false
/-! What the program's tables say of the types that its functions use. Printed by gen.py. -/
namespace Dm
open Go
@[go_sem] theorem arOf_23 : arOf Go.Proofs.Try.prog 23 = none := by kernel_rfl
@[go_sem] theorem arOf_26 : arOf Go.Proofs.Try.prog 26 = none := by kernel_rfl
@[go_sem] theorem bldOf_25 : bldOf Go.Proofs.Try.prog 25 = some [D.c (C.int IntKind.u64 0), D.nil] := by kernel_rfl
@[go_sem] theorem bldOf_33 : bldOf Go.Proofs.Try.prog 33 = some [D.c (C.int IntKind.u64 0), D.c (C.int IntKind.i64 0), D.c (C.int IntKind.u64 0), D.c (C.int IntKind.u64 0)] := by kernel_rfl
@[go_sem] theorem bldOf_39 : bldOf Go.Proofs.Try.prog 39 = some [D.c (C.int IntKind.u64 0), D.c (C.int IntKind.u64 0)] := by kernel_rfl
@[go_sem] theorem elOf_3 : elOf Go.Proofs.Try.prog 3 = none := by kernel_rfl
@[go_sem] theorem elOf_5 : elOf Go.Proofs.Try.prog 5 = none := by kernel_rfl
@[go_sem] theorem elOf_22 : elOf Go.Proofs.Try.prog 22 = none := by kernel_rfl
@[go_sem] theorem elOf_23 : elOf Go.Proofs.Try.prog 23 = some (33, 4, 32) := by kernel_rfl
@[go_sem] theorem elOf_26 : elOf Go.Proofs.Try.prog 26 = some (5, 1, 1) := by kernel_rfl
@[go_sem] theorem eqOf_33 : eqOf Go.Proofs.Try.prog 33 = some [(0, 0), (1, 0), (2, 0), (3, 0)] := by kernel_rfl
@[go_sem] theorem eqOf_39 : eqOf Go.Proofs.Try.prog 39 = some [(0, 0), (1, 0)] := by kernel_rfl
@[go_sem] theorem fldOf_25_0 : fldOf Go.Proofs.Try.prog 25 0 = some 0 := by kernel_rfl
@[go_sem] theorem fldOf_25_1 : fldOf Go.Proofs.Try.prog 25 1 = some 1 := by kernel_rfl
@[go_sem] theorem fldOf_33_0 : fldOf Go.Proofs.Try.prog 33 0 = some 0 := by kernel_rfl
@[go_sem] theorem fldOf_33_1 : fldOf Go.Proofs.Try.prog 33 1 = some 1 := by kernel_rfl
@[go_sem] theorem fldOf_33_3 : fldOf Go.Proofs.Try.prog 33 3 = some 3 := by kernel_rfl
@[go_sem] theorem fldOf_39_0 : fldOf Go.Proofs.Try.prog 39 0 = some 0 := by kernel_rfl
@[go_sem] theorem fldOf_39_1 : fldOf Go.Proofs.Try.prog 39 1 = some 1 := by kernel_rfl
@[go_sem] theorem inOf_3 : inOf Go.Proofs.Try.prog 3 = some IntKind.i64 := by kernel_rfl
@[go_sem] theorem inOf_22 : inOf Go.Proofs.Try.prog 22 = some IntKind.u64 := by kernel_rfl
@[go_sem] theorem kdOf_3 : kdOf Go.Proofs.Try.prog 3 = some (TypeDesc.int IntKind.i64) := by kernel_rfl
@[go_sem] theorem kdOf_4 : kdOf Go.Proofs.Try.prog 4 = some TypeDesc.bool := by kernel_rfl
@[go_sem] theorem kdOf_5 : kdOf Go.Proofs.Try.prog 5 = some (TypeDesc.int IntKind.u8) := by kernel_rfl
@[go_sem] theorem kdOf_22 : kdOf Go.Proofs.Try.prog 22 = some (TypeDesc.int IntKind.u64) := by kernel_rfl
@[go_sem] theorem kdOf_23 : kdOf Go.Proofs.Try.prog 23 = some (TypeDesc.slice 33) := by kernel_rfl
@[go_sem] theorem kdOf_28 : kdOf Go.Proofs.Try.prog 28 = some (TypeDesc.int IntKind.i64) := by kernel_rfl
@[go_sem] theorem plcOf_25_0 : plcOf Go.Proofs.Try.prog 25 0 = some (0, 1) := by kernel_rfl
@[go_sem] theorem plcOf_25_1 : plcOf Go.Proofs.Try.prog 25 1 = some (1, 1) := by kernel_rfl
@[go_sem] theorem plcOf_33_0 : plcOf Go.Proofs.Try.prog 33 0 = some (0, 1) := by kernel_rfl
@[go_sem] theorem plcOf_33_1 : plcOf Go.Proofs.Try.prog 33 1 = some (1, 1) := by kernel_rfl
@[go_sem] theorem plcOf_33_2 : plcOf Go.Proofs.Try.prog 33 2 = some (2, 1) := by kernel_rfl
@[go_sem] theorem plcOf_33_3 : plcOf Go.Proofs.Try.prog 33 3 = some (3, 1) := by kernel_rfl
@[go_sem] theorem plcOf_39_0 : plcOf Go.Proofs.Try.prog 39 0 = some (0, 1) := by kernel_rfl
@[go_sem] theorem plcOf_39_1 : plcOf Go.Proofs.Try.prog 39 1 = some (1, 1) := by kernel_rfl
@[go_sem] theorem tyOf_3 : tyOf Go.Proofs.Try.prog 3 = some (false, 1) := by kernel_rfl
@[go_sem] theorem tyOf_5 : tyOf Go.Proofs.Try.prog 5 = some (false, 1) := by kernel_rfl
@[go_sem] theorem tyOf_22 : tyOf Go.Proofs.Try.prog 22 = some (false, 1) := by kernel_rfl
@[go_sem] theorem tyOf_23 : tyOf Go.Proofs.Try.prog 23 = some (false, 1) := by kernel_rfl
@[go_sem] theorem tyOf_25 : tyOf Go.Proofs.Try.prog 25 = some (true, 2) := by kernel_rfl
@[go_sem] theorem tyOf_28 : tyOf Go.Proofs.Try.prog 28 = some (false, 1) := by kernel_rfl
@[go_sem] theorem tyOf_33 : tyOf Go.Proofs.Try.prog 33 = some (true, 4) := by kernel_rfl
@[go_sem] theorem tyOf_39 : tyOf Go.Proofs.Try.prog 39 = some (true, 2) := by kernel_rfl
@[go_sem] theorem zOf_22 : zOf Go.Proofs.Try.prog 22 = some (D.c (C.int IntKind.u64 0)) := by kernel_rfl
@[go_sem] theorem zOf_25 : zOf Go.Proofs.Try.prog 25 = some (D.agg [D.c (C.int IntKind.u64 0), D.nil]) := by kernel_rfl
@[go_sem] theorem zOf_28 : zOf Go.Proofs.Try.prog 28 = some (D.c (C.int IntKind.i64 0)) := by kernel_rfl
@[go_sem] theorem zOf_33 : zOf Go.Proofs.Try.prog 33 = some (D.agg [D.c (C.int IntKind.u64 0), D.c (C.int IntKind.i64 0), D.c (C.int IntKind.u64 0), D.c (C.int IntKind.u64 0)]) := by kernel_rfl
@[go_sem] theorem zOf_39 : zOf Go.Proofs.Try.prog 39 = some (D.agg [D.c (C.int IntKind.u64 0), D.c (C.int IntKind.u64 0)]) := by kernel_rfl
@[go_sem] theorem zc0_5 : zc0 Go.Proofs.Try.prog 5 = [C.int IntKind.u8 0] := by kernel_rfl
@[go_sem] theorem zc0_33 : zc0 Go.Proofs.Try.prog 33 = [C.int IntKind.u64 0, C.int IntKind.i64 0, C.int IntKind.u64 0, C.int IntKind.u64 0] := by kernel_rfl
@[go_sem] theorem zcOf_5 : zcOf Go.Proofs.Try.prog 5 = some [C.int IntKind.u8 0] := by kernel_rfl
@[go_sem] theorem zcOf_33 : zcOf Go.Proofs.Try.prog 33 = some [C.int IntKind.u64 0, C.int IntKind.i64 0, C.int IntKind.u64 0, C.int IntKind.u64 0] := by kernel_rfl
end Dm
