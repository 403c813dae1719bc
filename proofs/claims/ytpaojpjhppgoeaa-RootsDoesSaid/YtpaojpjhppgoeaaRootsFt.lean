import Derived.Test.YtpaojpjhppgoeaaS15
import Derived.Test.YtpaojpjhppgoeaaProg
import Derived.KernelRfl
set_option linter.unusedSimpArgs false
set_option linter.unusedVariables false
/-! What the program's tables say of the types that its functions use. Printed by gen.py. -/
namespace Dm
open Go
@[go_sem] theorem arOf_24 : arOf Go.Proofs.Try.prog 24 = none := by kernel_rfl
@[go_sem] theorem arOf_29 : arOf Go.Proofs.Try.prog 29 = none := by kernel_rfl
@[go_sem] theorem arOf_30 : arOf Go.Proofs.Try.prog 30 = none := by kernel_rfl
@[go_sem] theorem bldOf_39 : bldOf Go.Proofs.Try.prog 39 = some [D.c (C.int IntKind.u64 0), D.c (C.int IntKind.u64 0), D.c (C.bool false)] := by kernel_rfl
@[go_sem] theorem elOf_3 : elOf Go.Proofs.Try.prog 3 = none := by kernel_rfl
@[go_sem] theorem elOf_5 : elOf Go.Proofs.Try.prog 5 = none := by kernel_rfl
@[go_sem] theorem elOf_22 : elOf Go.Proofs.Try.prog 22 = none := by kernel_rfl
@[go_sem] theorem elOf_24 : elOf Go.Proofs.Try.prog 24 = some (39, 3, 24) := by kernel_rfl
@[go_sem] theorem elOf_29 : elOf Go.Proofs.Try.prog 29 = some (5, 1, 1) := by kernel_rfl
@[go_sem] theorem elOf_30 : elOf Go.Proofs.Try.prog 30 = some (22, 1, 8) := by kernel_rfl
@[go_sem] theorem elOf_62 : elOf Go.Proofs.Try.prog 62 = none := by kernel_rfl
@[go_sem] theorem eqOf_39 : eqOf Go.Proofs.Try.prog 39 = some [(0, 0), (1, 0), (2, 1)] := by kernel_rfl
@[go_sem] theorem fldOf_39_0 : fldOf Go.Proofs.Try.prog 39 0 = some 0 := by kernel_rfl
@[go_sem] theorem fldOf_39_1 : fldOf Go.Proofs.Try.prog 39 1 = some 1 := by kernel_rfl
@[go_sem] theorem fldOf_39_2 : fldOf Go.Proofs.Try.prog 39 2 = some 2 := by kernel_rfl
@[go_sem] theorem inOf_3 : inOf Go.Proofs.Try.prog 3 = some IntKind.i64 := by kernel_rfl
@[go_sem] theorem inOf_22 : inOf Go.Proofs.Try.prog 22 = some IntKind.u64 := by kernel_rfl
@[go_sem] theorem inOf_62 : inOf Go.Proofs.Try.prog 62 = some IntKind.u64 := by kernel_rfl
@[go_sem] theorem kdOf_3 : kdOf Go.Proofs.Try.prog 3 = some (TypeDesc.int IntKind.i64) := by kernel_rfl
@[go_sem] theorem kdOf_4 : kdOf Go.Proofs.Try.prog 4 = some TypeDesc.bool := by kernel_rfl
@[go_sem] theorem kdOf_5 : kdOf Go.Proofs.Try.prog 5 = some (TypeDesc.int IntKind.u8) := by kernel_rfl
@[go_sem] theorem kdOf_22 : kdOf Go.Proofs.Try.prog 22 = some (TypeDesc.int IntKind.u64) := by kernel_rfl
@[go_sem] theorem kdOf_24 : kdOf Go.Proofs.Try.prog 24 = some (TypeDesc.slice 39) := by kernel_rfl
@[go_sem] theorem kdOf_25 : kdOf Go.Proofs.Try.prog 25 = some (TypeDesc.int IntKind.i64) := by kernel_rfl
@[go_sem] theorem kdOf_62 : kdOf Go.Proofs.Try.prog 62 = some (TypeDesc.int IntKind.u64) := by kernel_rfl
@[go_sem] theorem plcOf_39_0 : plcOf Go.Proofs.Try.prog 39 0 = some (0, 1) := by kernel_rfl
@[go_sem] theorem plcOf_39_1 : plcOf Go.Proofs.Try.prog 39 1 = some (1, 1) := by kernel_rfl
@[go_sem] theorem plcOf_39_2 : plcOf Go.Proofs.Try.prog 39 2 = some (2, 1) := by kernel_rfl
@[go_sem] theorem tyOf_4 : tyOf Go.Proofs.Try.prog 4 = some (false, 1) := by kernel_rfl
@[go_sem] theorem tyOf_5 : tyOf Go.Proofs.Try.prog 5 = some (false, 1) := by kernel_rfl
@[go_sem] theorem tyOf_22 : tyOf Go.Proofs.Try.prog 22 = some (false, 1) := by kernel_rfl
@[go_sem] theorem tyOf_24 : tyOf Go.Proofs.Try.prog 24 = some (false, 1) := by kernel_rfl
@[go_sem] theorem tyOf_39 : tyOf Go.Proofs.Try.prog 39 = some (true, 3) := by kernel_rfl
@[go_sem] theorem zOf_39 : zOf Go.Proofs.Try.prog 39 = some (D.agg [D.c (C.int IntKind.u64 0), D.c (C.int IntKind.u64 0), D.c (C.bool false)]) := by kernel_rfl
@[go_sem] theorem zc0_5 : zc0 Go.Proofs.Try.prog 5 = [C.int IntKind.u8 0] := by kernel_rfl
@[go_sem] theorem zc0_22 : zc0 Go.Proofs.Try.prog 22 = [C.int IntKind.u64 0] := by kernel_rfl
@[go_sem] theorem zc0_39 : zc0 Go.Proofs.Try.prog 39 = [C.int IntKind.u64 0, C.int IntKind.u64 0, C.bool false] := by kernel_rfl
@[go_sem] theorem zcOf_5 : zcOf Go.Proofs.Try.prog 5 = some [C.int IntKind.u8 0] := by kernel_rfl
@[go_sem] theorem zcOf_22 : zcOf Go.Proofs.Try.prog 22 = some [C.int IntKind.u64 0] := by kernel_rfl
@[go_sem] theorem zcOf_39 : zcOf Go.Proofs.Try.prog 39 = some [C.int IntKind.u64 0, C.int IntKind.u64 0, C.bool false] := by kernel_rfl
end Dm
