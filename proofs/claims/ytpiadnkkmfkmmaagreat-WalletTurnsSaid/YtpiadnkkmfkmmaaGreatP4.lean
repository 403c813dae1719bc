import Derived.Test.YtpiadnkkmfkmmaaGreatP3
import Derived.Below
import Derived.ChangeOld
import Derived.KernelRfl
import Derived.LoopNIn
import Derived.Shelf.SlSortCmp.NoneTotal
import Derived.Test.YtpiadnkkmfkmmaaGreatProg
set_option linter.unusedSimpArgs false
set_option linter.unusedVariables false
set_option linter.unusedSectionVars false
set_option linter.defProp false
set_option maxRecDepth 20000
set_option maxHeartbeats 4000000
noncomputable section
namespace Dm
open Go
@[go_sem] theorem arOf_9:arOf Go.Proofs.Tryz.prog 9=none:=by kernel_rfl
@[go_sem] theorem arOf_22:arOf Go.Proofs.Tryz.prog 22=none:=by kernel_rfl
@[go_sem] theorem arOf_23:arOf Go.Proofs.Tryz.prog 23=none:=by kernel_rfl
@[go_sem] theorem arOf_24:arOf Go.Proofs.Tryz.prog 24=none:=by kernel_rfl
@[go_sem] theorem arOf_25:arOf Go.Proofs.Tryz.prog 25=none:=by kernel_rfl
@[go_sem] theorem arOf_27:arOf Go.Proofs.Tryz.prog 27=none:=by kernel_rfl
@[go_sem] theorem arOf_32:arOf Go.Proofs.Tryz.prog 32=none:=by kernel_rfl
@[go_sem] theorem arOf_120:arOf Go.Proofs.Tryz.prog 120=none:=by kernel_rfl
@[go_sem] theorem arOf_189:arOf Go.Proofs.Tryz.prog 189=none:=by kernel_rfl
@[go_sem] theorem arOf_212:arOf Go.Proofs.Tryz.prog 212=none:=by kernel_rfl
@[go_sem] theorem arOf_235:arOf Go.Proofs.Tryz.prog 235=none:=by kernel_rfl
@[go_sem] theorem bldOf_29:bldOf Go.Proofs.Tryz.prog 29=some [D.c (C.int IntKind.u64 0),D.nil]:=by kernel_rfl
@[go_sem] theorem bldOf_31:bldOf Go.Proofs.Tryz.prog 31=some [D.nil,D.nil,D.nil,D.nil,D.c (C.int IntKind.u64 0),D.nil,D.c (C.int IntKind.u64 0),D.c (C.int IntKind.u64 0)]:=by kernel_rfl
@[go_sem] theorem bldOf_34:bldOf Go.Proofs.Tryz.prog 34=some [D.c (C.int IntKind.u64 0),D.c (C.int IntKind.u64 0),D.c (C.int IntKind.u64 0),D.c (C.int IntKind.u64 0),D.c (C.int IntKind.u64 0),D.nil,D.c (C.bool false)]:=by kernel_rfl
@[go_sem] theorem bldOf_49:bldOf Go.Proofs.Tryz.prog 49=some [D.c (C.int IntKind.u64 0),D.c (C.int IntKind.u64 0)]:=by kernel_rfl
@[go_sem] theorem bldOf_51:bldOf Go.Proofs.Tryz.prog 51=some [D.c (C.int IntKind.u64 0),D.c (C.int IntKind.u64 0),D.c (C.int IntKind.u64 0),D.c (C.int IntKind.i64 0)]:=by kernel_rfl
@[go_sem] theorem bldOf_62:bldOf Go.Proofs.Tryz.prog 62=some [D.c (C.int IntKind.u64 0),D.c (C.int IntKind.i64 0),D.c (C.int IntKind.u64 0),D.c (C.int IntKind.u64 0)]:=by kernel_rfl
@[go_sem] theorem bldOf_77:bldOf Go.Proofs.Tryz.prog 77=some [D.nil,D.nil,D.nil,D.nil,D.c (C.int IntKind.u64 0),D.nil,D.c (C.int IntKind.u64 0),D.c (C.int IntKind.u64 0),D.c (C.int IntKind.i64 0)]:=by kernel_rfl
@[go_sem] theorem bldOf_81:bldOf Go.Proofs.Tryz.prog 81=some [D.c (C.int IntKind.u64 0),D.c (C.int IntKind.u64 0),D.c (C.int IntKind.u64 0),D.c (C.int IntKind.u64 0),D.c (C.int IntKind.i64 0)]:=by kernel_rfl
@[go_sem] theorem bldOf_182:bldOf Go.Proofs.Tryz.prog 182=some [D.c (C.int IntKind.u64 0),D.c (C.int IntKind.u64 0),D.c (C.int IntKind.u64 0)]:=by kernel_rfl
@[go_sem] theorem bldOf_196:bldOf Go.Proofs.Tryz.prog 196=some [D.c (C.int IntKind.u64 0),D.c (C.flt FloatKind.f64 (some 0))]:=by kernel_rfl
@[go_sem] theorem elOf_3:elOf Go.Proofs.Tryz.prog 3=none:=by kernel_rfl
@[go_sem] theorem elOf_5:elOf Go.Proofs.Tryz.prog 5=none:=by kernel_rfl
@[go_sem] theorem elOf_9:elOf Go.Proofs.Tryz.prog 9=none:=by kernel_rfl
@[go_sem] theorem elOf_22:elOf Go.Proofs.Tryz.prog 22=some (34,7,72):=by kernel_rfl
@[go_sem] theorem elOf_23:elOf Go.Proofs.Tryz.prog 23=some (60,2,16):=by kernel_rfl
@[go_sem] theorem elOf_24:elOf Go.Proofs.Tryz.prog 24=some (51,4,32):=by kernel_rfl
@[go_sem] theorem elOf_25:elOf Go.Proofs.Tryz.prog 25=some (81,5,40):=by kernel_rfl
@[go_sem] theorem elOf_26:elOf Go.Proofs.Tryz.prog 26=none:=by kernel_rfl
@[go_sem] theorem elOf_27:elOf Go.Proofs.Tryz.prog 27=some (62,4,32):=by kernel_rfl
@[go_sem] theorem elOf_32:elOf Go.Proofs.Tryz.prog 32=some (49,2,16):=by kernel_rfl
@[go_sem] theorem elOf_58:elOf Go.Proofs.Tryz.prog 58=none:=by kernel_rfl
@[go_sem] theorem elOf_120:elOf Go.Proofs.Tryz.prog 120=some (26,1,8):=by kernel_rfl
@[go_sem] theorem elOf_189:elOf Go.Proofs.Tryz.prog 189=some (196,2,16):=by kernel_rfl
@[go_sem] theorem elOf_212:elOf Go.Proofs.Tryz.prog 212=some (58,1,8):=by kernel_rfl
@[go_sem] theorem elOf_223:elOf Go.Proofs.Tryz.prog 223=none:=by kernel_rfl
@[go_sem] theorem elOf_235:elOf Go.Proofs.Tryz.prog 235=some (3,1,8):=by kernel_rfl
@[go_sem] theorem elOf_248:elOf Go.Proofs.Tryz.prog 248=none:=by kernel_rfl
@[go_sem] theorem elOf_253:elOf Go.Proofs.Tryz.prog 253=none:=by kernel_rfl
@[go_sem] theorem eqOf_49:eqOf Go.Proofs.Tryz.prog 49=some [(0,0),(1,0)]:=by kernel_rfl
@[go_sem] theorem eqOf_51:eqOf Go.Proofs.Tryz.prog 51=some [(0,0),(1,0),(2,0),(3,0)]:=by kernel_rfl
@[go_sem] theorem eqOf_62:eqOf Go.Proofs.Tryz.prog 62=some [(0,0),(1,0),(2,0),(3,0)]:=by kernel_rfl
@[go_sem] theorem eqOf_81:eqOf Go.Proofs.Tryz.prog 81=some [(0,0),(1,0),(2,0),(3,0),(4,0)]:=by kernel_rfl
@[go_sem] theorem fldOf_29_0:fldOf Go.Proofs.Tryz.prog 29 0=some 0:=by kernel_rfl
@[go_sem] theorem fldOf_29_1:fldOf Go.Proofs.Tryz.prog 29 1=some 1:=by kernel_rfl
@[go_sem] theorem fldOf_31_0:fldOf Go.Proofs.Tryz.prog 31 0=some 0:=by kernel_rfl
@[go_sem] theorem fldOf_31_1:fldOf Go.Proofs.Tryz.prog 31 1=some 1:=by kernel_rfl
@[go_sem] theorem fldOf_31_2:fldOf Go.Proofs.Tryz.prog 31 2=some 2:=by kernel_rfl
@[go_sem] theorem fldOf_31_3:fldOf Go.Proofs.Tryz.prog 31 3=some 3:=by kernel_rfl
@[go_sem] theorem fldOf_31_4:fldOf Go.Proofs.Tryz.prog 31 4=some 4:=by kernel_rfl
@[go_sem] theorem fldOf_31_5:fldOf Go.Proofs.Tryz.prog 31 5=some 6:=by kernel_rfl
@[go_sem] theorem fldOf_31_6:fldOf Go.Proofs.Tryz.prog 31 6=some 7:=by kernel_rfl
@[go_sem] theorem fldOf_34_0:fldOf Go.Proofs.Tryz.prog 34 0=some 0:=by kernel_rfl
@[go_sem] theorem fldOf_34_1:fldOf Go.Proofs.Tryz.prog 34 1=some 1:=by kernel_rfl
@[go_sem] theorem fldOf_34_2:fldOf Go.Proofs.Tryz.prog 34 2=some 2:=by kernel_rfl
@[go_sem] theorem fldOf_34_3:fldOf Go.Proofs.Tryz.prog 34 3=some 3:=by kernel_rfl
@[go_sem] theorem fldOf_34_4:fldOf Go.Proofs.Tryz.prog 34 4=some 4:=by kernel_rfl
@[go_sem] theorem fldOf_34_5:fldOf Go.Proofs.Tryz.prog 34 5=some 5:=by kernel_rfl
@[go_sem] theorem fldOf_34_6:fldOf Go.Proofs.Tryz.prog 34 6=some 6:=by kernel_rfl
@[go_sem] theorem fldOf_36_1:fldOf Go.Proofs.Tryz.prog 36 1=some 1:=by kernel_rfl
@[go_sem] theorem fldOf_36_2:fldOf Go.Proofs.Tryz.prog 36 2=some 2:=by kernel_rfl
@[go_sem] theorem fldOf_36_3:fldOf Go.Proofs.Tryz.prog 36 3=some 3:=by kernel_rfl
@[go_sem] theorem fldOf_36_4:fldOf Go.Proofs.Tryz.prog 36 4=some 4:=by kernel_rfl
@[go_sem] theorem fldOf_36_5:fldOf Go.Proofs.Tryz.prog 36 5=some 5:=by kernel_rfl
@[go_sem] theorem fldOf_36_6:fldOf Go.Proofs.Tryz.prog 36 6=some 6:=by kernel_rfl
@[go_sem] theorem fldOf_36_7:fldOf Go.Proofs.Tryz.prog 36 7=some 13:=by kernel_rfl
@[go_sem] theorem fldOf_49_0:fldOf Go.Proofs.Tryz.prog 49 0=some 0:=by kernel_rfl
@[go_sem] theorem fldOf_49_1:fldOf Go.Proofs.Tryz.prog 49 1=some 1:=by kernel_rfl
@[go_sem] theorem fldOf_51_0:fldOf Go.Proofs.Tryz.prog 51 0=some 0:=by kernel_rfl
@[go_sem] theorem fldOf_51_1:fldOf Go.Proofs.Tryz.prog 51 1=some 1:=by kernel_rfl
@[go_sem] theorem fldOf_51_2:fldOf Go.Proofs.Tryz.prog 51 2=some 2:=by kernel_rfl
@[go_sem] theorem fldOf_51_3:fldOf Go.Proofs.Tryz.prog 51 3=some 3:=by kernel_rfl
@[go_sem] theorem fldOf_60_0:fldOf Go.Proofs.Tryz.prog 60 0=some 0:=by kernel_rfl
@[go_sem] theorem fldOf_60_1:fldOf Go.Proofs.Tryz.prog 60 1=some 1:=by kernel_rfl
@[go_sem] theorem fldOf_62_0:fldOf Go.Proofs.Tryz.prog 62 0=some 0:=by kernel_rfl
@[go_sem] theorem fldOf_62_1:fldOf Go.Proofs.Tryz.prog 62 1=some 1:=by kernel_rfl
@[go_sem] theorem fldOf_62_3:fldOf Go.Proofs.Tryz.prog 62 3=some 3:=by kernel_rfl
@[go_sem] theorem fldOf_77_0:fldOf Go.Proofs.Tryz.prog 77 0=some 0:=by kernel_rfl
@[go_sem] theorem fldOf_77_1:fldOf Go.Proofs.Tryz.prog 77 1=some 8:=by kernel_rfl
@[go_sem] theorem fldOf_81_0:fldOf Go.Proofs.Tryz.prog 81 0=some 0:=by kernel_rfl
@[go_sem] theorem fldOf_81_2:fldOf Go.Proofs.Tryz.prog 81 2=some 2:=by kernel_rfl
@[go_sem] theorem fldOf_81_3:fldOf Go.Proofs.Tryz.prog 81 3=some 3:=by kernel_rfl
@[go_sem] theorem fldOf_81_4:fldOf Go.Proofs.Tryz.prog 81 4=some 4:=by kernel_rfl
@[go_sem] theorem fldOf_196_0:fldOf Go.Proofs.Tryz.prog 196 0=some 0:=by kernel_rfl
@[go_sem] theorem fldOf_196_1:fldOf Go.Proofs.Tryz.prog 196 1=some 1:=by kernel_rfl
@[go_sem] theorem inOf_3:inOf Go.Proofs.Tryz.prog 3=some IntKind.i64:=by kernel_rfl
@[go_sem] theorem inOf_5:inOf Go.Proofs.Tryz.prog 5=some IntKind.u8:=by kernel_rfl
@[go_sem] theorem inOf_26:inOf Go.Proofs.Tryz.prog 26=some IntKind.u64:=by kernel_rfl
@[go_sem] theorem inOf_58:inOf Go.Proofs.Tryz.prog 58=none:=by kernel_rfl
@[go_sem] theorem inOf_223:inOf Go.Proofs.Tryz.prog 223=some IntKind.u64:=by kernel_rfl
@[go_sem] theorem inOf_248:inOf Go.Proofs.Tryz.prog 248=some IntKind.u32:=by kernel_rfl
@[go_sem] theorem inOf_253:inOf Go.Proofs.Tryz.prog 253=some IntKind.u64:=by kernel_rfl
@[go_sem] theorem kdOf_3:kdOf Go.Proofs.Tryz.prog 3=some (TypeDesc.int IntKind.i64):=by kernel_rfl
@[go_sem] theorem kdOf_4:kdOf Go.Proofs.Tryz.prog 4=some TypeDesc.bool:=by kernel_rfl
@[go_sem] theorem kdOf_5:kdOf Go.Proofs.Tryz.prog 5=some (TypeDesc.int IntKind.u8):=by kernel_rfl
@[go_sem] theorem kdOf_22:kdOf Go.Proofs.Tryz.prog 22=some (TypeDesc.slice 34):=by kernel_rfl
@[go_sem] theorem kdOf_23:kdOf Go.Proofs.Tryz.prog 23=some (TypeDesc.slice 60):=by kernel_rfl
@[go_sem] theorem kdOf_24:kdOf Go.Proofs.Tryz.prog 24=some (TypeDesc.slice 51):=by kernel_rfl
@[go_sem] theorem kdOf_25:kdOf Go.Proofs.Tryz.prog 25=some (TypeDesc.slice 81):=by kernel_rfl
@[go_sem] theorem kdOf_26:kdOf Go.Proofs.Tryz.prog 26=some (TypeDesc.int IntKind.u64):=by kernel_rfl
@[go_sem] theorem kdOf_27:kdOf Go.Proofs.Tryz.prog 27=some (TypeDesc.slice 62):=by kernel_rfl
@[go_sem] theorem kdOf_32:kdOf Go.Proofs.Tryz.prog 32=some (TypeDesc.slice 49):=by kernel_rfl
@[go_sem] theorem kdOf_40:kdOf Go.Proofs.Tryz.prog 40=some (TypeDesc.int IntKind.i64):=by kernel_rfl
@[go_sem] theorem kdOf_58:kdOf Go.Proofs.Tryz.prog 58=some (TypeDesc.float FloatKind.f64):=by kernel_rfl
@[go_sem] theorem kdOf_223:kdOf Go.Proofs.Tryz.prog 223=some (TypeDesc.int IntKind.u64):=by kernel_rfl
@[go_sem] theorem kdOf_241:kdOf Go.Proofs.Tryz.prog 241=some (TypeDesc.int IntKind.i64):=by kernel_rfl
@[go_sem] theorem kdOf_248:kdOf Go.Proofs.Tryz.prog 248=some (TypeDesc.int IntKind.u32):=by kernel_rfl
@[go_sem] theorem kdOf_253:kdOf Go.Proofs.Tryz.prog 253=some (TypeDesc.int IntKind.u64):=by kernel_rfl
@[go_sem] theorem mapOf_173:mapOf Go.Proofs.Tryz.prog 173=some ([KK.int IntKind.u64],D.c (C.int IntKind.i64 0)):=by kernel_rfl
@[go_sem] theorem mapOf_180:mapOf Go.Proofs.Tryz.prog 180=some ([KK.int IntKind.u64,KK.int IntKind.u64,KK.int IntKind.u64],D.c (C.int IntKind.i64 0)):=by kernel_rfl
@[go_sem] theorem plcOf_29_0:plcOf Go.Proofs.Tryz.prog 29 0=some (0,1):=by kernel_rfl
@[go_sem] theorem plcOf_29_1:plcOf Go.Proofs.Tryz.prog 29 1=some (1,1):=by kernel_rfl
@[go_sem] theorem plcOf_31_0:plcOf Go.Proofs.Tryz.prog 31 0=some (0,1):=by kernel_rfl
@[go_sem] theorem plcOf_31_1:plcOf Go.Proofs.Tryz.prog 31 1=some (1,1):=by kernel_rfl
@[go_sem] theorem plcOf_31_2:plcOf Go.Proofs.Tryz.prog 31 2=some (2,1):=by kernel_rfl
@[go_sem] theorem plcOf_31_3:plcOf Go.Proofs.Tryz.prog 31 3=some (3,1):=by kernel_rfl
@[go_sem] theorem plcOf_31_4:plcOf Go.Proofs.Tryz.prog 31 4=some (4,2):=by kernel_rfl
@[go_sem] theorem plcOf_31_5:plcOf Go.Proofs.Tryz.prog 31 5=some (6,1):=by kernel_rfl
@[go_sem] theorem plcOf_31_6:plcOf Go.Proofs.Tryz.prog 31 6=some (7,1):=by kernel_rfl
@[go_sem] theorem plcOf_34_0:plcOf Go.Proofs.Tryz.prog 34 0=some (0,1):=by kernel_rfl
@[go_sem] theorem plcOf_34_1:plcOf Go.Proofs.Tryz.prog 34 1=some (1,1):=by kernel_rfl
@[go_sem] theorem plcOf_34_4:plcOf Go.Proofs.Tryz.prog 34 4=some (4,1):=by kernel_rfl
@[go_sem] theorem plcOf_34_6:plcOf Go.Proofs.Tryz.prog 34 6=some (6,1):=by kernel_rfl
@[go_sem] theorem plcOf_49_0:plcOf Go.Proofs.Tryz.prog 49 0=some (0,1):=by kernel_rfl
@[go_sem] theorem plcOf_49_1:plcOf Go.Proofs.Tryz.prog 49 1=some (1,1):=by kernel_rfl
@[go_sem] theorem plcOf_51_0:plcOf Go.Proofs.Tryz.prog 51 0=some (0,1):=by kernel_rfl
@[go_sem] theorem plcOf_51_1:plcOf Go.Proofs.Tryz.prog 51 1=some (1,1):=by kernel_rfl
@[go_sem] theorem plcOf_51_2:plcOf Go.Proofs.Tryz.prog 51 2=some (2,1):=by kernel_rfl
@[go_sem] theorem plcOf_51_3:plcOf Go.Proofs.Tryz.prog 51 3=some (3,1):=by kernel_rfl
@[go_sem] theorem plcOf_62_0:plcOf Go.Proofs.Tryz.prog 62 0=some (0,1):=by kernel_rfl
@[go_sem] theorem plcOf_62_1:plcOf Go.Proofs.Tryz.prog 62 1=some (1,1):=by kernel_rfl
@[go_sem] theorem plcOf_62_2:plcOf Go.Proofs.Tryz.prog 62 2=some (2,1):=by kernel_rfl
@[go_sem] theorem plcOf_62_3:plcOf Go.Proofs.Tryz.prog 62 3=some (3,1):=by kernel_rfl
@[go_sem] theorem plcOf_77_0:plcOf Go.Proofs.Tryz.prog 77 0=some (0,8):=by kernel_rfl
@[go_sem] theorem plcOf_77_1:plcOf Go.Proofs.Tryz.prog 77 1=some (8,1):=by kernel_rfl
@[go_sem] theorem plcOf_81_0:plcOf Go.Proofs.Tryz.prog 81 0=some (0,1):=by kernel_rfl
@[go_sem] theorem plcOf_81_1:plcOf Go.Proofs.Tryz.prog 81 1=some (1,1):=by kernel_rfl
@[go_sem] theorem plcOf_81_2:plcOf Go.Proofs.Tryz.prog 81 2=some (2,1):=by kernel_rfl
@[go_sem] theorem plcOf_81_3:plcOf Go.Proofs.Tryz.prog 81 3=some (3,1):=by kernel_rfl
@[go_sem] theorem plcOf_81_4:plcOf Go.Proofs.Tryz.prog 81 4=some (4,1):=by kernel_rfl
@[go_sem] theorem plcOf_182_0:plcOf Go.Proofs.Tryz.prog 182 0=some (0,1):=by kernel_rfl
@[go_sem] theorem plcOf_182_1:plcOf Go.Proofs.Tryz.prog 182 1=some (1,2):=by kernel_rfl
@[go_sem] theorem plcOf_196_0:plcOf Go.Proofs.Tryz.prog 196 0=some (0,1):=by kernel_rfl
@[go_sem] theorem plcOf_196_1:plcOf Go.Proofs.Tryz.prog 196 1=some (1,1):=by kernel_rfl
@[go_sem] theorem tyOf_3:tyOf Go.Proofs.Tryz.prog 3=some (false,1):=by kernel_rfl
@[go_sem] theorem tyOf_4:tyOf Go.Proofs.Tryz.prog 4=some (false,1):=by kernel_rfl
@[go_sem] theorem tyOf_22:tyOf Go.Proofs.Tryz.prog 22=some (false,1):=by kernel_rfl
@[go_sem] theorem tyOf_23:tyOf Go.Proofs.Tryz.prog 23=some (false,1):=by kernel_rfl
@[go_sem] theorem tyOf_24:tyOf Go.Proofs.Tryz.prog 24=some (false,1):=by kernel_rfl
@[go_sem] theorem tyOf_25:tyOf Go.Proofs.Tryz.prog 25=some (false,1):=by kernel_rfl
@[go_sem] theorem tyOf_26:tyOf Go.Proofs.Tryz.prog 26=some (false,1):=by kernel_rfl
@[go_sem] theorem tyOf_27:tyOf Go.Proofs.Tryz.prog 27=some (false,1):=by kernel_rfl
@[go_sem] theorem tyOf_29:tyOf Go.Proofs.Tryz.prog 29=some (true,2):=by kernel_rfl
@[go_sem] theorem tyOf_31:tyOf Go.Proofs.Tryz.prog 31=some (true,8):=by kernel_rfl
@[go_sem] theorem tyOf_32:tyOf Go.Proofs.Tryz.prog 32=some (false,1):=by kernel_rfl
@[go_sem] theorem tyOf_34:tyOf Go.Proofs.Tryz.prog 34=some (true,7):=by kernel_rfl
@[go_sem] theorem tyOf_36:tyOf Go.Proofs.Tryz.prog 36=some (true,14):=by kernel_rfl
@[go_sem] theorem tyOf_40:tyOf Go.Proofs.Tryz.prog 40=some (false,1):=by kernel_rfl
@[go_sem] theorem tyOf_49:tyOf Go.Proofs.Tryz.prog 49=some (true,2):=by kernel_rfl
@[go_sem] theorem tyOf_51:tyOf Go.Proofs.Tryz.prog 51=some (true,4):=by kernel_rfl
@[go_sem] theorem tyOf_58:tyOf Go.Proofs.Tryz.prog 58=some (false,1):=by kernel_rfl
@[go_sem] theorem tyOf_60:tyOf Go.Proofs.Tryz.prog 60=some (true,2):=by kernel_rfl
@[go_sem] theorem tyOf_62:tyOf Go.Proofs.Tryz.prog 62=some (true,4):=by kernel_rfl
@[go_sem] theorem tyOf_81:tyOf Go.Proofs.Tryz.prog 81=some (true,5):=by kernel_rfl
@[go_sem] theorem tyOf_196:tyOf Go.Proofs.Tryz.prog 196=some (true,2):=by kernel_rfl
@[go_sem] theorem tyOf_253:tyOf Go.Proofs.Tryz.prog 253=some (false,1):=by kernel_rfl
@[go_sem] theorem zOf_3:zOf Go.Proofs.Tryz.prog 3=some (D.c (C.int IntKind.i64 0)):=by kernel_rfl
@[go_sem] theorem zOf_26:zOf Go.Proofs.Tryz.prog 26=some (D.c (C.int IntKind.u64 0)):=by kernel_rfl
@[go_sem] theorem zOf_29:zOf Go.Proofs.Tryz.prog 29=some (D.agg [D.c (C.int IntKind.u64 0),D.nil]):=by kernel_rfl
@[go_sem] theorem zOf_31:zOf Go.Proofs.Tryz.prog 31=some (D.agg [D.nil,D.nil,D.nil,D.nil,D.c (C.int IntKind.u64 0),D.nil,D.c (C.int IntKind.u64 0),D.c (C.int IntKind.u64 0)]):=by kernel_rfl
@[go_sem] theorem zOf_34:zOf Go.Proofs.Tryz.prog 34=some (D.agg [D.c (C.int IntKind.u64 0),D.c (C.int IntKind.u64 0),D.c (C.int IntKind.u64 0),D.c (C.int IntKind.u64 0),D.c (C.int IntKind.u64 0),D.nil,D.c (C.bool false)]):=by kernel_rfl
@[go_sem] theorem zOf_40:zOf Go.Proofs.Tryz.prog 40=some (D.c (C.int IntKind.i64 0)):=by kernel_rfl
@[go_sem] theorem zOf_49:zOf Go.Proofs.Tryz.prog 49=some (D.agg [D.c (C.int IntKind.u64 0),D.c (C.int IntKind.u64 0)]):=by kernel_rfl
@[go_sem] theorem zOf_51:zOf Go.Proofs.Tryz.prog 51=some (D.agg [D.c (C.int IntKind.u64 0),D.c (C.int IntKind.u64 0),D.c (C.int IntKind.u64 0),D.c (C.int IntKind.i64 0)]):=by kernel_rfl
@[go_sem] theorem zOf_60:zOf Go.Proofs.Tryz.prog 60=some (D.agg [D.c (C.int IntKind.u64 0),D.c (C.flt FloatKind.f64 (some 0))]):=by kernel_rfl
@[go_sem] theorem zOf_62:zOf Go.Proofs.Tryz.prog 62=some (D.agg [D.c (C.int IntKind.u64 0),D.c (C.int IntKind.i64 0),D.c (C.int IntKind.u64 0),D.c (C.int IntKind.u64 0)]):=by kernel_rfl
@[go_sem] theorem zOf_81:zOf Go.Proofs.Tryz.prog 81=some (D.agg [D.c (C.int IntKind.u64 0),D.c (C.int IntKind.u64 0),D.c (C.int IntKind.u64 0),D.c (C.int IntKind.u64 0),D.c (C.int IntKind.i64 0)]):=by kernel_rfl
@[go_sem] theorem zOf_196:zOf Go.Proofs.Tryz.prog 196=some (D.agg [D.c (C.int IntKind.u64 0),D.c (C.flt FloatKind.f64 (some 0))]):=by kernel_rfl
@[go_sem] theorem zOf_253:zOf Go.Proofs.Tryz.prog 253=some (D.c (C.int IntKind.u64 0)):=by kernel_rfl
@[go_sem] theorem zc0_3:zc0 Go.Proofs.Tryz.prog 3=[C.int IntKind.i64 0]:=by kernel_rfl
@[go_sem] theorem zc0_26:zc0 Go.Proofs.Tryz.prog 26=[C.int IntKind.u64 0]:=by kernel_rfl
@[go_sem] theorem zc0_34:zc0 Go.Proofs.Tryz.prog 34=[C.int IntKind.u64 0,C.int IntKind.u64 0,C.int IntKind.u64 0,C.int IntKind.u64 0,C.int IntKind.u64 0,C.sl [],C.bool false]:=by kernel_rfl
@[go_sem] theorem zc0_49:zc0 Go.Proofs.Tryz.prog 49=[C.int IntKind.u64 0,C.int IntKind.u64 0]:=by kernel_rfl
@[go_sem] theorem zc0_51:zc0 Go.Proofs.Tryz.prog 51=[C.int IntKind.u64 0,C.int IntKind.u64 0,C.int IntKind.u64 0,C.int IntKind.i64 0]:=by kernel_rfl
@[go_sem] theorem zc0_58:zc0 Go.Proofs.Tryz.prog 58=[C.flt FloatKind.f64 (some 0)]:=by kernel_rfl
@[go_sem] theorem zc0_60:zc0 Go.Proofs.Tryz.prog 60=[C.int IntKind.u64 0,C.flt FloatKind.f64 (some 0)]:=by kernel_rfl
@[go_sem] theorem zc0_62:zc0 Go.Proofs.Tryz.prog 62=[C.int IntKind.u64 0,C.int IntKind.i64 0,C.int IntKind.u64 0,C.int IntKind.u64 0]:=by kernel_rfl
@[go_sem] theorem zc0_81:zc0 Go.Proofs.Tryz.prog 81=[C.int IntKind.u64 0,C.int IntKind.u64 0,C.int IntKind.u64 0,C.int IntKind.u64 0,C.int IntKind.i64 0]:=by kernel_rfl
@[go_sem] theorem zc0_196:zc0 Go.Proofs.Tryz.prog 196=[C.int IntKind.u64 0,C.flt FloatKind.f64 (some 0)]:=by kernel_rfl
@[go_sem] theorem zcOf_3:zcOf Go.Proofs.Tryz.prog 3=some [C.int IntKind.i64 0]:=by kernel_rfl
@[go_sem] theorem zcOf_26:zcOf Go.Proofs.Tryz.prog 26=some [C.int IntKind.u64 0]:=by kernel_rfl
@[go_sem] theorem zcOf_34:zcOf Go.Proofs.Tryz.prog 34=some [C.int IntKind.u64 0,C.int IntKind.u64 0,C.int IntKind.u64 0,C.int IntKind.u64 0,C.int IntKind.u64 0,C.sl [],C.bool false]:=by kernel_rfl
@[go_sem] theorem zcOf_49:zcOf Go.Proofs.Tryz.prog 49=some [C.int IntKind.u64 0,C.int IntKind.u64 0]:=by kernel_rfl
@[go_sem] theorem zcOf_51:zcOf Go.Proofs.Tryz.prog 51=some [C.int IntKind.u64 0,C.int IntKind.u64 0,C.int IntKind.u64 0,C.int IntKind.i64 0]:=by kernel_rfl
@[go_sem] theorem zcOf_58:zcOf Go.Proofs.Tryz.prog 58=some [C.flt FloatKind.f64 (some 0)]:=by kernel_rfl
@[go_sem] theorem zcOf_60:zcOf Go.Proofs.Tryz.prog 60=some [C.int IntKind.u64 0,C.flt FloatKind.f64 (some 0)]:=by kernel_rfl
@[go_sem] theorem zcOf_62:zcOf Go.Proofs.Tryz.prog 62=some [C.int IntKind.u64 0,C.int IntKind.i64 0,C.int IntKind.u64 0,C.int IntKind.u64 0]:=by kernel_rfl
@[go_sem] theorem zcOf_81:zcOf Go.Proofs.Tryz.prog 81=some [C.int IntKind.u64 0,C.int IntKind.u64 0,C.int IntKind.u64 0,C.int IntKind.u64 0,C.int IntKind.i64 0]:=by kernel_rfl
@[go_sem] theorem zcOf_196:zcOf Go.Proofs.Tryz.prog 196=some [C.int IntKind.u64 0,C.flt FloatKind.f64 (some 0)]:=by kernel_rfl
def lvL (l:List (Nat×List Nat)) (i:Nat):Option (List Nat):=lk i l
@[go_sem] theorem lvL_eq (l:List (Nat×List Nat)) (i:Nat):lvL l i=lk i l:=rfl
abbrev lv4:Nat→Option (List Nat):=lvL [(0,[3,4,5]),(1,[3,4,5,28]),(2,[6]),(3,[3,4,5,41]),(4,[6]),(5,[3,4,5,7]),(6,[3,4,5,7,8,9]),(7,[3,4,5,7,8,9,10,11]),(8,[3,4,5,7,8,9,10,11,12,13]),(9,[3,4,5,7,8,9,10,11,12,13,14,15]),(10,[3,4,5,7,8,9,10,11,12,13,14,15,16,17]),(11,[3,4,5,7,8,9,10,11,12,13,14,15,16,17,18,19]),(12,[3,4,5,7,8,9,10,11,12,13,14,15,16,17,18,19,20,21]),(13,[3,4,7,8,9,10,11,12,13,14,15,16,17,18,19,20,21,22,23]),(14,[3,7,16,20,24]),(15,[3,7,16,20,24,161,162]),(16,[3,7,16,20,24,161,162,163]),(17,[3,7,16,20,24,25,161,162]),(18,[3,7,16,20,24,161,162]),(19,[3,7,16,20,24,161,162]),(20,[3,7,20,24,178,179]),(21,[3,7,20,24,178,179,180]),(22,[3,7,20,24,26,178,179]),(23,[3,7,20,24,178,179]),(24,[3,7,20,24,178,179]),(25,[6])]
@[go_sem] def us4_14:List Nat:=[0,0,3,7,15,15,63,127,255,511,511,2047,4095,8191,16383,16383,65535,131071,262143,524287,524287,2097151,4194303,8388607,16777215,16777215,67108863,134217727,268435455,536870911,536870911,2147483647,4294967295,8589934591,17179869183,17179869183,68719476735,137438953471,274877906943,549755813887,1099511627775,549755813887,4398046511103,8796093022207,17592186044415,35184372088831,70368744177663,70368744177663,281474976710655,70368744177663,70368744177663,2251799813685247,4503599627370495,9007199254740991,18014398509481983,36028797018963967,72057594037927935,144115188075855871,288230376151711743,576460752303423487]
abbrev lv5:Nat→Option (List Nat):=lvL [(0,[]),(1,[1,2]),(2,[1,2,3,4]),(3,[1,2,3,4,5,7]),(4,[1,2,3,4,5,7,8]),(5,[2,3,4,5,7,8,9,11]),(6,[0])]
abbrev lv6:Nat→Option (List Nat):=lvL [(0,[1]),(1,[2])]
abbrev lv7:Nat→Option (List Nat):=lvL [(0,[1,2]),(1,[2])]
@[go_sem] def us7_1:List Nat:=[0,1,3,0,8,31,0,64,255,0,512,2047,0,4096,12288,0,32768,98304,233471,524287,0,1048576,0,4194304,16777215,33554431]
abbrev lv8:Nat→Option (List Nat):=lvL [(0,[3,4,5,6]),(1,[3,4,5,6,9]),(2,[3,4,5,6,9]),(3,[3,4,5,6,9,10,11]),(4,[3,4,5,6,9,10]),(5,[3,4,5,6,9,10]),(6,[3,5,6,9,10]),(7,[3,5,6,9]),(8,[3,6,9]),(9,[3,6,9]),(10,[3,6,11,12]),(11,[3,6,11,12,77]),(12,[6,7,8]),(13,[6,7,8])]
@[go_sem] def us8_13:List Nat:=[0,0,2,1,15,31]
abbrev lv10:Nat→Option (List Nat):=lvL [(0,[3,4,5,6]),(1,[4,5,6,8]),(2,[4,5,6,8]),(3,[4,5,6,8,9]),(4,[4,5,6,8,9]),(5,[4,5,6,8,9,10]),(6,[4,6,8,9,10,27]),(7,[4,6,8,9,10]),(8,[6,8]),(9,[6,7])]
abbrev lv18:Nat→Option (List Nat):=lvL [(0,[2,3]),(1,[2,3,58]),(2,[4]),(3,[2,3,61,62]),(4,[2,3,61,62,63]),(5,[2,3,5,61,62]),(6,[2,3,61,62,93]),(7,[4]),(8,[2,3,61,62]),(9,[4])]
@[go_sem] def us18_6:List Nat:=[0,1,0,7,15,31,0,64,0,448,960,1984,4095,8191,16383,32767,16383,131071,262143,524287,16383,1064959,16383,7356415,15745023,32522239,67108863,134217727,268435455]
abbrev lv19:Nat→Option (List Nat):=lvL [(0,[1]),(1,[2])]
abbrev lv20:Nat→Option (List Nat):=lvL [(0,[2,3,4]),(1,[3,4,6]),(2,[3,4,6]),(3,[4,6]),(4,[4,5])]
abbrev lv21:Nat→Option (List Nat):=lvL [(0,[2,3,4]),(1,[2,3,4,10]),(2,[4,5]),(3,[2,3,4,6,7]),(4,[2,3,4,6,7,20]),(5,[4,5]),(6,[2,3,4]),(7,[4,5])]
abbrev lv22:Nat→Option (List Nat):=lvL [(0,[2,3,4]),(1,[3,4,6]),(2,[3,4,6]),(3,[4,6]),(4,[4,5])]
abbrev lv23:Nat→Option (List Nat):=lvL [(0,[1,2,4]),(1,[1,2,4,10]),(2,[4,5]),(3,[1,2,4,6,7]),(4,[1,2,4,6,7,20]),(5,[4,5]),(6,[1,2,4]),(7,[4,5])]
abbrev lv24:Nat→Option (List Nat):=lvL [(0,[1,2,4]),(1,[1,4,6]),(2,[1,4,6]),(3,[4,6]),(4,[4,5])]
abbrev lv25:Nat→Option (List Nat):=lvL [(0,[1,2,4]),(1,[1,2,4,13]),(2,[4,5]),(3,[2,4]),(4,[4,5])]
abbrev lv26:Nat→Option (List Nat):=lvL [(0,[2,3,4]),(1,[2,3,4,6]),(2,[3,4,6]),(3,[3,4,6]),(4,[4,6]),(5,[4,5])]
abbrev lv27:Nat→Option (List Nat):=lvL [(0,[1,2,4]),(1,[1,2,4,8]),(2,[4,5]),(3,[1,2,4,13]),(4,[4,5]),(5,[1,2,4]),(6,[2,4]),(7,[4,5])]
abbrev lv28:Nat→Option (List Nat):=lvL [(0,[1]),(1,[1,37]),(2,[2]),(3,[1,3]),(4,[1,54]),(5,[2]),(6,[4,5]),(7,[68]),(8,[2]),(9,[2])]
@[go_sem] def us28_4:List Nat:=[0,1,3,7,15,7,39,127,255,511,7,1031,4095,8191]
abbrev lv29:Nat→Option (List Nat):=lvL [(0,[1]),(1,[1,44]),(2,[2]),(3,[1,46,47,48]),(4,[1,46,47,48,49]),(5,[1,4,46,47,48]),(6,[1,46,47,48,56]),(7,[2]),(8,[1,46,47,48]),(9,[5]),(10,[67]),(11,[2]),(12,[2])]
abbrev lv30:Nat→Option (List Nat):=lvL [(0,[2,3]),(1,[4])]
abbrev lv31:Nat→Option (List Nat):=lvL [(0,[0]),(1,[0])]
abbrev lv32:Nat→Option (List Nat):=lvL [(0,[0]),(1,[0])]
abbrev lv33:Nat→Option (List Nat):=lvL [(0,[0,2,3]),(1,[0,2,3,4]),(2,[0,2,3,4,12]),(3,[2,3,4]),(4,[2,3,14,15,16]),(5,[2,3,14,15,16,17]),(6,[2,3,6,14,15,16]),(7,[2,3,6,7,8,14,15,16]),(8,[2,3,6,7,8,14,15,16,26]),(9,[2,3,4]),(10,[2,3,6,14,15,16]),(11,[2,3,6,14,15,16,32]),(12,[2,3,14,15,16]),(13,[2,3,14,15,16]),(14,[2,3,4])]
abbrev lv34:Nat→Option (List Nat):=lvL [(0,[0]),(1,[0,5,6,7]),(2,[0,5,6,7,8]),(3,[0,4,5,6,7]),(4,[0,5,6,7,14]),(5,[2]),(6,[0,5,6,7]),(7,[2])]
abbrev lv35:Nat→Option (List Nat):=lvL [(0,[0]),(1,[0,3]),(2,[3,6,7,8]),(3,[3,6,7,8,9]),(4,[3,5,6,7,8]),(5,[3,6,7,8]),(6,[3,6,7,8]),(7,[2])]
abbrev lv36:Nat→Option (List Nat):=lvL [(0,[1]),(1,[2])]
@[go_sem] def us36_1:List Nat:=[0,0,2,7,15,31]
abbrev lv37:Nat→Option (List Nat):=lvL [(0,[0,2,14]),(1,[])]
abbrev lv38:Nat→Option (List Nat):=lvL [(0,[0]),(1,[10]),(2,[2]),(3,[2])]
abbrev lv39:Nat→Option (List Nat):=lvL [(0,[0,1,2]),(1,[8,9]),(2,[8,9,17]),(3,[6,7]),(4,[8,21]),(5,[6,7]),(6,[6,7])]
abbrev lv40:Nat→Option (List Nat):=lvL [(0,[0,1,2,12]),(1,[0,1,6,7]),(2,[0,1,6,7,22]),(3,[]),(4,[])]
abbrev lv41:Nat→Option (List Nat):=lvL [(0,[0,1,2,3,4]),(1,[6,7])]
abbrev lv42:Nat→Option (List Nat):=lvL [(0,[0,3]),(1,[0,3,6,7]),(2,[0,3,6,7,16]),(3,[4,5]),(4,[0,3,6,29]),(5,[4,5]),(6,[0,3,6]),(7,[0,3,6,36]),(8,[0,3,6,8]),(9,[0,3,6,8,40]),(10,[4,5]),(11,[0,3,6,8]),(12,[0,3,6,48]),(13,[0,3,6]),(14,[4,5])]
abbrev lv43:Nat→Option (List Nat):=lvL [(0,[0,1,2,12]),(1,[0,1,6,7]),(2,[0,1,6,7,22]),(3,[]),(4,[])]
abbrev lv44:Nat→Option (List Nat):=lvL [(0,[0,1,2,3]),(1,[5,6])]
abbrev lv45:Nat→Option (List Nat):=lvL [(0,[1,4,6,7]),(1,[8,9])]
abbrev lv46:Nat→Option (List Nat):=lvL [(0,[0,5,6,7]),(1,[])]
abbrev lv47:Nat→Option (List Nat):=lvL [(0,[0,2]),(1,[0,2,8]),(2,[2,3]),(3,[2,3])]
@[go_sem] def us47_2:List Nat:=[0,0,2,6,14,1,63]
abbrev lv48:Nat→Option (List Nat):=lvL [(0,[0]),(1,[5,6,7]),(2,[5,6,7,8]),(3,[4,5,6,7]),(4,[5,6,7,12]),(5,[2]),(6,[5,6,7]),(7,[2])]
abbrev lv52:Nat→Option (List Nat):=lvL [(0,[1,2,3,4,8]),(1,[4,8,10,12]),(2,[4,8,10,12,24]),(3,[8,9]),(4,[4,8]),(5,[8,9])]
abbrev lv53:Nat→Option (List Nat):=lvL [(0,[0,1,2]),(1,[4,5])]
abbrev lv54:Nat→Option (List Nat):=lvL [(0,[0,1,2]),(1,[0,2,8,9]),(2,[0,2,8,9,16]),(3,[6,7]),(4,[0,2,8,20]),(5,[6,7]),(6,[0,2,8]),(7,[0,2,8]),(8,[0,8,33]),(9,[0]),(10,[6,7])]
abbrev lv55:Nat→Option (List Nat):=lvL [(0,[0,1,2,3]),(1,[0,6]),(2,[5,6])]
abbrev lv56:Nat→Option (List Nat):=lvL [(0,[0,4,5,7]),(1,[0,4,5,7,8,9]),(2,[0,4,5,7,8,9,17]),(3,[6,7,8]),(4,[6,7,8]),(5,[6,7,8])]
@[go_sem] def us56_5:List Nat:=[0,0,0,1,11,31]
abbrev lv59:Nat→Option (List Nat):=lvL [(0,[0,1,2,12]),(1,[0,1,6,7]),(2,[0,1,6,7,22]),(3,[]),(4,[])]
abbrev lv72:Nat→Option (List Nat):=lvL [(0,[0,1]),(1,[0,1,10]),(2,[4]),(3,[0,1,12,13]),(4,[0,1,12,13,14]),(5,[0,1,5,12,13]),(6,[0,1,12,13,25]),(7,[4]),(8,[0,1,12,13]),(9,[4])]
@[go_sem] def us72_6:List Nat:=[0,0,3,7,0,0,48,112,255,511]
abbrev lv73:Nat→Option (List Nat):=lvL [(0,[0,1]),(1,[0,1,10]),(2,[4]),(3,[0,1,12,13]),(4,[0,1,12,13,14]),(5,[0,1,5,12,13]),(6,[0,1,12,13,24]),(7,[4]),(8,[0,1,12,13]),(9,[4])]
@[go_sem] def us73_6:List Nat:=[0,0,3,7,0,0,48,112,255]
abbrev lv74:Nat→Option (List Nat):=lvL [(0,[0,1]),(1,[0,1,10]),(2,[4]),(3,[0,1,12,13]),(4,[0,1,12,13,14]),(5,[0,1,5,12,13]),(6,[0,1,12,13,24]),(7,[4]),(8,[0,1,12,13]),(9,[4])]
@[go_sem] def us74_6:List Nat:=[0,0,3,7,0,0,48,112,255]
abbrev lv75:Nat→Option (List Nat):=lvL [(0,[2,3]),(1,[4])]
abbrev lv76:Nat→Option (List Nat):=lvL [(0,[0,1]),(1,[4])]
abbrev lv77:Nat→Option (List Nat):=lvL [(0,[0,1]),(1,[3,4])]
abbrev lv78:Nat→Option (List Nat):=lvL [(0,[0,3]),(1,[0,3,26]),(2,[4,5]),(3,[0,3,6,7]),(4,[0,3,6,34]),(5,[4,5]),(6,[0,3,6,36]),(7,[4,5]),(8,[0]),(9,[0,49]),(10,[4,5]),(11,[4,5])]
@[go_sem] def us78_8:List Nat:=[0,1,0,0,11,27,63,127]
abbrev lv79:Nat→Option (List Nat):=lvL [(0,[0,3]),(1,[0,3,27]),(2,[4,5]),(3,[0,3,32]),(4,[4,5]),(5,[0,3,35]),(6,[4,5]),(7,[6]),(8,[6,8]),(9,[6,45]),(10,[4,5]),(11,[4,5])]
abbrev lv80:Nat→Option (List Nat):=lvL [(0,[0,1]),(1,[3,4])]
abbrev lv81:Nat→Option (List Nat):=lvL [(0,[0,1]),(1,[4,5])]
abbrev lv82:Nat→Option (List Nat):=lvL [(0,[0,1]),(1,[0,6,7]),(2,[0,6,7,16]),(3,[4,5]),(4,[0,7,8]),(5,[0,7,8,24]),(6,[4,5]),(7,[4,5])]
abbrev lv83:Nat→Option (List Nat):=lvL [(0,[0,1]),(1,[3,4])]
abbrev lv84:Nat→Option (List Nat):=lvL [(0,[0,3]),(1,[0,3,6]),(2,[0,3,6,11]),(3,[4,5]),(4,[0,7]),(5,[4,5])]
abbrev lv85:Nat→Option (List Nat):=lvL [(0,[0,1]),(1,[0,1,11]),(2,[4,5]),(3,[0,1,6]),(4,[1,6,12,13,14]),(5,[1,6,12,13,14,15]),(6,[1,6,8,12,13,14]),(7,[1,6,8,12,13,14,26]),(8,[1,6,12,13,14]),(9,[1,6,12,13,14]),(10,[4,5])]
abbrev lv86:Nat→Option (List Nat):=lvL [(0,[0]),(1,[4]),(2,[2])]
abbrev lv87:Nat→Option (List Nat):=lvL [(0,[0]),(1,[0,7]),(2,[2]),(3,[0,8,9,10]),(4,[0,8,9,10,11]),(5,[0,3,4,8,9,10]),(6,[0,8,9,10,43]),(7,[2]),(8,[0,8,9,10]),(9,[2])]
@[go_sem] def us87_6:List Nat:=[0,1,3,7,7,23,63,127,7,263,1023,2047,4095,8191,16383,32767,65535,131071,262143,524287,1048575,2097151,4194303,8388607,16777215,33554431,67108863,134217727,268435455]
abbrev lv88:Nat→Option (List Nat):=lvL [(0,[1,2,31]),(1,[1,2,24,31]),(2,[2]),(3,[1,2,3,31]),(4,[2,3,29,31]),(5,[2,3,5,31]),(6,[2,3,5,31]),(7,[2,3,31,43]),(8,[2]),(9,[2])]
abbrev lv89:Nat→Option (List Nat):=lvL [(0,[0,1]),(1,[0,1,22]),(2,[4,5]),(3,[0,1,6,7,8]),(4,[0,6,7,8,25,26,27]),(5,[0,6,7,8,25,26,27,28]),(6,[0,6,7,8,10,25,26,27]),(7,[0,6,7,8,10,25,26,27]),(8,[0,6,7,8,10,25,26,27,40]),(9,[4,5]),(10,[0,6,7,8,10,25,26,27,42,43,44]),(11,[0,6,7,8,10,25,26,27,42,43,44,45]),(12,[0,6,7,8,10,12,25,26,27,42,43,44]),(13,[0,6,7,8,10,25,26,27,42,43,44]),(14,[0,6,7,8,10,25,26,27,42,43,44]),(15,[0,6,7,8,10,25,26,27,42,43,44]),(16,[0,6,7,8,25,26,27]),(17,[6,8,61,62,63]),(18,[6,8,61,62,63,64]),(19,[6,8,14,61,62,63]),(20,[6,8,14,61,62,63,69]),(21,[6,8,61,62,63,80]),(22,[4,5]),(23,[6,8,61,62,63]),(24,[6,8,61,62,63]),(25,[4,5])]
@[go_sem] def us89_13:List Nat:=[0,0,2,0,14,31,63,31,159,511]
abbrev lv90:Nat→Option (List Nat):=lvL [(0,[0]),(1,[0,11]),(2,[2]),(3,[0,12,13,14]),(4,[0,12,13,14,15]),(5,[0,3,4,12,13,14]),(6,[0,3,4,12,13,14,36]),(7,[2]),(8,[0,3,12,13,14,38,39,40]),(9,[0,3,12,13,14,38,39,40,41]),(10,[0,3,6,12,13,14,38,39,40]),(11,[0,3,12,13,14,38,39,40,50]),(12,[2]),(13,[0,3,12,13,14,38,39,40]),(14,[0,12,13,14]),(15,[8]),(16,[59]),(17,[2]),(18,[2])]
@[go_sem] def us90_6:List Nat:=[0,1,3,7,15,31,63,127,127,383,1023,2047,4095,127,8319,32767,65535,131071]
@[go_sem] def us90_11:List Nat:=[0,0,3,0,8,31,63]
abbrev lv91:Nat→Option (List Nat):=lvL [(0,[0]),(1,[0,7]),(2,[2]),(3,[0,8,9,10]),(4,[0,8,9,10,11]),(5,[0,3,4,8,9,10]),(6,[0,8,9,10,49]),(7,[2]),(8,[0,8,9,10]),(9,[2])]
@[go_sem] def us91_6:List Nat:=[0,1,3,7,7,23,63,127,255,7,519,2047,4095,8191,16383,32767,65535,131071,262143,524287,1048575,2097151,4194303,8388607,16777215,33554431,67108863,134217727,268435455,536870911,1073741823,2147483647,4294967295,8589934591,17179869183]
abbrev lv92:Nat→Option (List Nat):=lvL [(0,[0]),(1,[0,7]),(2,[2]),(3,[0,8,9,10]),(4,[0,8,9,10,11]),(5,[0,3,4,8,9,10]),(6,[0,8,9,10,32]),(7,[2]),(8,[0,8,9,10]),(9,[2])]
@[go_sem] def us92_6:List Nat:=[0,1,3,7,7,23,63,127,255,7,519,2047,4095,8191,16383,32767,65535,131071]
abbrev lv93:Nat→Option (List Nat):=lvL [(0,[1]),(1,[1,23]),(2,[2]),(3,[1,25,26,27]),(4,[1,25,26,27,28]),(5,[1,3,4,25,26,27]),(6,[1,25,26,27,53]),(7,[2]),(8,[1,25,26,27]),(9,[2])]
abbrev lv94:Nat→Option (List Nat):=lvL [(0,[0,1]),(1,[0,1,21]),(2,[4,5]),(3,[0,1,6]),(4,[0,1,6,22,23,24]),(5,[0,1,6,22,23,24,25]),(6,[0,1,6,7,8,22,23,24]),(7,[0,1,6,8,22,23,24,31,32,33]),(8,[0,1,6,8,22,23,24,31,32,33,34]),(9,[0,1,6,8,10,22,23,24,31,32,33]),(10,[0,1,6,8,22,23,24,31,32,33,41]),(11,[4,5]),(12,[0,1,6,8,22,23,24,31,32,33]),(13,[0,1,6,22,23,24]),(14,[0,1,6,22,23,24]),(15,[0,1,6,11]),(16,[1,6,11,49,50,51]),(17,[1,6,11,49,50,51,52]),(18,[1,6,11,13,49,50,51]),(19,[1,6,11,13,49,50,51,57]),(20,[1,6,11,13,49,50,51]),(21,[1,6,11,49,50,51,69]),(22,[4,5]),(23,[1,6,11,49,50,51]),(24,[4,5])]
abbrev lv95:Nat→Option (List Nat):=lvL [(0,[0,1]),(1,[4])]
abbrev lv96:Nat→Option (List Nat):=lvL [(0,[0,1,2]),(1,[0,1,2,14]),(2,[6]),(3,[1,2,15,16,17]),(4,[1,2,15,16,17,18]),(5,[1,2,7,8,15,16,17]),(6,[1,2,8,9,15,16,17]),(7,[1,2,15,16,17,30]),(8,[6]),(9,[1,2,15,16,17]),(10,[6])]
abbrev lv97:Nat→Option (List Nat):=lvL [(0,[2,3]),(1,[4])]
abbrev lv98:Nat→Option (List Nat):=lvL [(0,[0,1]),(1,[4])]
abbrev lv99:Nat→Option (List Nat):=lvL [(0,[0,1]),(1,[4])]
abbrev lv100:Nat→Option (List Nat):=lvL [(0,[2,3]),(1,[4])]
abbrev lv101:Nat→Option (List Nat):=lvL [(0,[0]),(1,[0])]
abbrev lv102:Nat→Option (List Nat):=lvL [(0,[0]),(1,[0])]
abbrev lv103:Nat→Option (List Nat):=lvL [(0,[1]),(1,[4,6]),(2,[2,3])]
abbrev lv104:Nat→Option (List Nat):=lvL [(0,[1,2]),(1,[1,2]),(2,[2])]
abbrev lv105:Nat→Option (List Nat):=lvL [(0,[0]),(1,[0,7]),(2,[0]),(3,[0,3]),(4,[0,3,4]),(5,[0,3,4,15]),(6,[0,3,4]),(7,[0,3,4]),(8,[2])]
abbrev lv106:Nat→Option (List Nat):=lvL [(0,[0,1,2]),(1,[0,1,2,8]),(2,[0,1,2,8,21]),(3,[6,7]),(4,[0,1,2,9]),(5,[1,2,9,23,24,25]),(6,[1,2,9,23,24,25,26]),(7,[1,2,9,11,23,24,25]),(8,[1,2,9,11,12,13,23,24,25]),(9,[1,2,9,11,23,24,25,46]),(10,[1,2,9,11,13,14,23,24,25]),(11,[1,2,9,11,13,14,23,24,25,59]),(12,[6,7]),(13,[1,2,9,11,14,23,24,25,62]),(14,[1,2,9,11,14,23,24,25]),(15,[1,2,9,23,24,25]),(16,[1,2,9,23,24,25]),(17,[9]),(18,[9,15]),(19,[15,77,78,79]),(20,[15,77,78,79,80]),(21,[15,16,17,77,78,79]),(22,[15,77,78,79]),(23,[15,77,78,79]),(24,[6,7])]
@[go_sem] def us106_10:List Nat:=[0,0,0,4,14,0,32,127,255,511,511,1023,4095]
abbrev lv107:Nat→Option (List Nat):=lvL [(0,[0,1]),(1,[0,1,6]),(2,[0,1,6,12]),(3,[4,5]),(4,[7,8]),(5,[7,21]),(6,[4,5]),(7,[4,5])]
abbrev lv108:Nat→Option (List Nat):=lvL [(0,[1]),(1,[2])]
abbrev lv109:Nat→Option (List Nat):=lvL [(0,[0]),(1,[0,4]),(2,[2]),(3,[2])]
abbrev lv110:Nat→Option (List Nat):=lvL [(0,[0,1]),(1,[0,1,7,8]),(2,[0,1,7,8,9]),(3,[0,1,5,7,8]),(4,[0,1,5,7,8,16]),(5,[4]),(6,[0,1,7,8]),(7,[4])]
abbrev lv111:Nat→Option (List Nat):=lvL [(0,[1]),(1,[2])]
abbrev lv112:Nat→Option (List Nat):=lvL [(0,[0,1,2]),(1,[0,1,2]),(2,[0,1,2,16]),(3,[6]),(4,[0,1,2,7]),(5,[0,7]),(6,[0]),(7,[6])]
@[go_sem] def us112_5:List Nat:=[0,0,3,0,0,24,63,127]
abbrev lv113:Nat→Option (List Nat):=lvL [(0,[0,1,2]),(1,[0,1,2]),(2,[0,1,2,7]),(3,[0,1,2,7,16]),(4,[6]),(5,[0,1,2,7,8]),(6,[0,1,2,7,8,22]),(7,[6]),(8,[0,1,2,7,8,31]),(9,[0,1,2,7,9]),(10,[0,1,7,9]),(11,[9]),(12,[6]),(13,[0,1,2,7,8]),(14,[0,1,2,7,8,68]),(15,[0,1,2]),(16,[0]),(17,[6]),(18,[0,1,7]),(19,[0]),(20,[6])]
@[go_sem] def us113_11:List Nat:=[0,0,0,6,15,0,0,96,255]
@[go_sem] def us113_15:List Nat:=[0,0,0,6,15,0,0,96,255]
open Go Go.Proofs
theorem acT {T:Tab} (hT:TabOk Go.Proofs.Tryz.prog T) (f:FuncId) (fn:Func) (n:Nat) (rs:List ResultVar) (lv:Nat→Option (List Nat)) (hf:Go.Proofs.Tryz.prog.funcs[f]? =some fn) (hb:(!(fn.name== "runtime.NumGoroutine")&&fn.body.isSome&&dstOk n (fn.body.getD .skip)&&fn.ntmps==n)=true) (hrs:fn.results.toList=rs) {ds:List D} {os:List (Nat×Ob)} {nx:Nat} {Q:D→List (Nat×Ob)→Nat→Prop} (hl:ds.length≤n) (h:awp Go.Proofs.Tryz.prog T n nx lv (fn.body.getD .skip) (fin Go.Proofs.Tryz.prog rs Q) ⟨prm 0 ds,os,nx⟩):ACall Go.Proofs.Tryz.prog f ds os nx Q:=by
 simp only [Bool.and_eq_true,Bool.not_eq_true',beq_iff_eq]at hb
 obtain⟨⟨⟨h1,h2⟩,h3⟩,h4⟩:=hb
 refine acall_intro hT.toS (fn:=fn) lv hf ?_ ?_ h3 h4 hl hrs h
 ·simpa using h1
 ·cases hc:fn.body with
  |none=>rw [hc]at h2;cases h2
  |some c=>rfl
def ac113 {T:Tab} (hT:TabOk Go.Proofs.Tryz.prog T):= @acT T hT 113 Go.Proofs.Tryz.f113 95 [.tmp 6] lv113 (by kernel_rfl) (by kernel_rfl) rfl
abbrev lv114:Nat→Option (List Nat):=lvL [(0,[0,1,2]),(1,[0,2,8,9]),(2,[0,2,8,9,18]),(3,[6,7]),(4,[0,8,9,10]),(5,[0,8,9,10,30]),(6,[6,7]),(7,[0,8,10]),(8,[0]),(9,[6,7])]
abbrev lv115:Nat→Option (List Nat):=lvL [(0,[1,2,3,4,5]),(1,[2,3,4,5,8]),(2,[2,3,4,5,16]),(3,[5,6]),(4,[5,6])]
abbrev lv116:Nat→Option (List Nat):=lvL [(0,[0,1]),(1,[0,1,6,7]),(2,[0,1,6,7,16]),(3,[4,5]),(4,[0,8,9]),(5,[0,8,25]),(6,[4,5]),(7,[4,5])]
abbrev lv117:Nat→Option (List Nat):=lvL [(0,[1,2,3,6]),(1,[1,2,3,6,8,10]),(2,[1,2,3,6,8,10,11,12]),(3,[1,2,3,6,8,11,12,26]),(4,[6,7]),(5,[1,2,3,6,8,11,12,40]),(6,[6,7]),(7,[1,2,3,6,8,11,45]),(8,[6,7]),(9,[1,2,3,6,8,11,48]),(10,[6,7]),(11,[1,2,3,6,8,11,54]),(12,[6,7]),(13,[1,2,3,6,11,70]),(14,[6,7]),(15,[1,2,3,6,11]),(16,[3,6]),(17,[6,7])]
abbrev lv118:Nat→Option (List Nat):=lvL [(0,[0,1,2,12]),(1,[0,1,6,7]),(2,[0,1,6,7,22]),(3,[]),(4,[])]
abbrev lv119:Nat→Option (List Nat):=lvL [(0,[1,2,3,4,5]),(1,[4,5,8]),(2,[5,6])]
abbrev lv120:Nat→Option (List Nat):=lvL [(0,[1,2,3,4,8]),(1,[1,2,3,4,8,13]),(2,[8,9,10]),(3,[1,2,3,4,8,23]),(4,[8,9,10]),(5,[1,2,3,4,8,11]),(6,[8,11,12]),(7,[8,9,10])]
abbrev lv121:Nat→Option (List Nat):=lvL [(0,[1,2]),(1,[1,2]),(2,[1,2,28,29,30]),(3,[1,2,28,29,30,31]),(4,[1,2,3,4,28,29,30]),(5,[1,2,28,29,30]),(6,[1,2,28,29,30]),(7,[2])]
@[go_sem] def us121_1:List Nat:=[0,1,3,0,8,31,0,64,255,0,512,2047,0,4096,12288,32767,30431,131071,262143,524287,1048575,2097151,4194303,8388607,16777215,33554431,67108863]
@[go_sem] def us121_5:List Nat:=[0,1,0,0,8,24,63,127,255]
abbrev lv123:Nat→Option (List Nat):=lvL [(0,[1]),(1,[2])]
abbrev lv127:Nat→Option (List Nat):=lvL [(0,[0,1,4]),(1,[0,1,4,9]),(2,[4,5]),(3,[0,4,6]),(4,[0,4,6,15]),(5,[4,5]),(6,[4,5])]
abbrev lv128:Nat→Option (List Nat):=lvL [(0,[0,1]),(1,[1,9,10,11]),(2,[1,9,10,11,12]),(3,[1,5,6,9,10,11]),(4,[1,5,9,10,11,17,18,19]),(5,[1,5,9,10,11,17,18,19,20]),(6,[1,5,8,9,10,11,17,18,19]),(7,[1,5,9,10,11,17,18,19,26]),(8,[4]),(9,[1,5,9,10,11,17,18,19]),(10,[1,9,10,11]),(11,[4])]
abbrev lv130:Nat→Option (List Nat):=lvL [(0,[0,3]),(1,[0,3,5]),(2,[0,3,5,10,11,12]),(3,[0,3,5,10,11,12,13]),(4,[0,3,5,7,10,11,12]),(5,[0,3,5,7,10,11,12,20]),(6,[0,3,5,10,11,12]),(7,[0,3,5,10,11,12]),(8,[0,3,5]),(9,[3,5,30,31,32]),(10,[3,5,30,31,32,33]),(11,[3,5,9,30,31,32]),(12,[3,5,9,30,31,32,40]),(13,[3,5,30,31,32]),(14,[3,5,30,31,32]),(15,[4])]
abbrev lv131:Nat→Option (List Nat):=lvL [(0,[1,2,3,4,8]),(1,[1,2,3,4,8,22]),(2,[8,9,10]),(3,[1,2,3,4,8,26]),(4,[8,9,10]),(5,[4,8,11]),(6,[4,8,11,41]),(7,[4,8,11]),(8,[8,9,10])]
@[go_sem] def us131_5:List Nat:=[0,1,3,0,8,0,0,0,248,504,1023,2047]
@[go_sem] def us131_8:List Nat:=[0,1,3,0,15,0,32,31,255,511]
abbrev lv132:Nat→Option (List Nat):=lvL [(0,[1,2,3,4,5]),(1,[1,2,3,4,5,7]),(2,[2,3,4,5,7,8]),(3,[2,3,4,5,7]),(4,[5,6]),(5,[5,6])]
abbrev lv133:Nat→Option (List Nat):=lvL [(0,[1,2,4]),(1,[4,5,6])]
abbrev lv134:Nat→Option (List Nat):=lvL [(0,[1,2,4]),(1,[4,5,6])]
abbrev lv139:Nat→Option (List Nat):=lvL [(0,[0]),(1,[2])]
abbrev lv141:Nat→Option (List Nat):=lvL [(0,[0]),(1,[0,4]),(2,[2]),(3,[2])]
abbrev lv149:Nat→Option (List Nat):=lvL [(0,[2,3]),(1,[2,3,54]),(2,[4]),(3,[2,3,57,58]),(4,[2,3,57,58,59]),(5,[2,3,5,57,58]),(6,[2,3,57,58,71]),(7,[4]),(8,[2,3,57,58]),(9,[4])]
@[go_sem] def us149_6:List Nat:=[0,1,0,7,15,0,32,0,224,480,1023]
abbrev lv150:Nat→Option (List Nat):=lvL [(0,[0,1]),(1,[0,1,10]),(2,[4]),(3,[0,1,12,13]),(4,[0,1,12,13,14]),(5,[0,1,5,12,13]),(6,[0,1,12,13,24]),(7,[4]),(8,[0,1,12,13]),(9,[4])]
@[go_sem] def us150_6:List Nat:=[0,0,3,7,0,0,48,112,255]
abbrev lv151:Nat→Option (List Nat):=lvL [(0,[0,1]),(1,[0,1,7]),(2,[4]),(3,[4])]
abbrev lv152:Nat→Option (List Nat):=lvL [(0,[1]),(1,[5]),(2,[2])]
abbrev lv153:Nat→Option (List Nat):=lvL [(0,[0,1,2]),(1,[0,1,2,8]),(2,[0,1,2,8,9,10]),(3,[0,1,2,8,9,10,17]),(4,[0,1,2,8,9,10,11]),(5,[0,1,2,8,9,10,11,31]),(6,[0,1,2,8,9,10]),(7,[0,1,2,8,9,10]),(8,[6,7])]
abbrev lv154:Nat→Option (List Nat):=lvL [(0,[1,2]),(1,[4])]
abbrev lv155:Nat→Option (List Nat):=lvL [(0,[0,1,2]),(1,[0,1,2]),(2,[0,1,2,7]),(3,[0,1,2,7,16]),(4,[6]),(5,[0,1,2,7,8]),(6,[0,1,2,7,8,22]),(7,[6]),(8,[0,1,2,7,8,31]),(9,[0,1,2,7,9]),(10,[0,1,7,9]),(11,[9]),(12,[6]),(13,[0,1,2,7,8]),(14,[0,1,2,7,8,68]),(15,[0,1,2]),(16,[0]),(17,[6]),(18,[0,1,7]),(19,[0]),(20,[6])]
@[go_sem] def us155_11:List Nat:=[0,0,0,6,15,0,0,96,255]
@[go_sem] def us155_15:List Nat:=[0,0,0,6,15,0,0,96,255]
def ac155 {T:Tab} (hT:TabOk Go.Proofs.Tryz.prog T):= @acT T hT 155 Go.Proofs.Tryz.f155 95 [.tmp 6] lv155 (by kernel_rfl) (by kernel_rfl) rfl
abbrev lv156:Nat→Option (List Nat):=lvL [(0,[0]),(1,[0]),(2,[0,7,8,9]),(3,[0,7,8,9,10]),(4,[0,3,4,7,8,9]),(5,[0,7,8,9]),(6,[0,7,8,9]),(7,[2])]
abbrev lv157:Nat→Option (List Nat):=lvL [(0,[1,2]),(1,[1,2]),(2,[2])]
abbrev lv158:Nat→Option (List Nat):=lvL [(0,[1]),(1,[1,32]),(2,[2]),(3,[1,34,35,36]),(4,[1,34,35,36,37]),(5,[1,3,4,34,35,36]),(6,[1,34,35,36,59]),(7,[2]),(8,[1,34,35,36]),(9,[1,5,6]),(10,[1,5,75]),(11,[2]),(12,[8]),(13,[87]),(14,[2]),(15,[2])]
@[go_sem] def us158_6:List Nat:=[0,1,3,7,15,31,63,127,255,127,639,2047,4095,8191,127,16511,65535,131071,262143]
abbrev lv159:Nat→Option (List Nat):=lvL [(0,[0,1]),(1,[1,7,8,9]),(2,[1,7,8,9,10]),(3,[1,5,6,7,8,9]),(4,[1,5,7,8,9,17]),(5,[4]),(6,[1,7,8,9]),(7,[4])]
abbrev lv160:Nat→Option (List Nat):=lvL [(0,[0]),(1,[0,4]),(2,[4,11,12,13]),(3,[4,11,12,13,14]),(4,[4,6,11,12,13]),(5,[4,7,11,12,13]),(6,[9,10,11,12,13]),(7,[9,11,12,13,30]),(8,[2,3]),(9,[4,11,12,13]),(10,[4,11,12,13]),(11,[2,3])]
abbrev lv161:Nat→Option (List Nat):=lvL [(0,[1,2]),(1,[1,2,4]),(2,[2,3]),(3,[1,2,9]),(4,[2,3]),(5,[1,2,14]),(6,[2,3]),(7,[1,2]),(8,[2,3])]
abbrev lv162:Nat→Option (List Nat):=lvL [(0,[1,2]),(1,[1,2,6]),(2,[2,3]),(3,[1,2,10]),(4,[2,3]),(5,[1,2,15]),(6,[2,3]),(7,[1,2]),(8,[1,2]),(9,[2,3])]
abbrev lv163:Nat→Option (List Nat):=lvL [(0,[1,2]),(1,[3])]
abbrev lv164:Nat→Option (List Nat):=lvL [(0,[1,2]),(1,[2,13]),(2,[4]),(3,[4])]
abbrev lv165:Nat→Option (List Nat):=lvL [(0,[0,1]),(1,[0,1,5]),(2,[0,1,5,12]),(3,[4]),(4,[0,1,5,6]),(5,[0,1,5,6,19]),(6,[0,1,5,6]),(7,[0,1,5,6,7]),(8,[0,1,5,6,7,29]),(9,[0,1,5,6]),(10,[0,1,5,6]),(11,[0,5]),(12,[4])]
abbrev lv166:Nat→Option (List Nat):=lvL [(0,[1,2]),(1,[4])]
abbrev lv167:Nat→Option (List Nat):=lvL [(0,[0]),(1,[0,16]),(2,[2,3]),(3,[0,4,5]),(4,[0,4,5,18,19,20]),(5,[0,4,5,18,19,20,21]),(6,[0,4,5,6,7,18,19,20]),(7,[0,4,5,6,7,8,9,18,19,20]),(8,[0,4,5,6,7,8,18,19,20,46]),(9,[2,3]),(10,[0,4,5,6,7,9,18,19,20]),(11,[0,4,5,6,7,18,19,20,55]),(12,[2,3]),(13,[0,4,5,6,18,19,20,57,58,59]),(14,[0,4,5,6,18,19,20,57,58,59,60]),(15,[0,4,5,6,11,18,19,20,57,58,59]),(16,[0,4,5,6,11,13,18,19,20,57,58,59]),(17,[0,4,5,6,11,18,19,20,57,58,59,70]),(18,[2,3]),(19,[0,4,5,6,18,19,20,57,58,59]),(20,[0,4,5,6,18,19,20,57,58,59]),(21,[0,4,5,18,19,20]),(22,[2,3])]
@[go_sem] def us167_8:List Nat:=[0,1,3,7,15,31,63,63,191,511,1023,63,2111,8191,16383,32767,65535]
abbrev lv168:Nat→Option (List Nat):=lvL [(0,[1,2]),(1,[4])]
abbrev lv169:Nat→Option (List Nat):=lvL [(0,[1]),(1,[2])]
abbrev lv170:Nat→Option (List Nat):=lvL [(0,[0]),(1,[2])]
abbrev lv171:Nat→Option (List Nat):=lvL [(0,[0]),(1,[0,7]),(2,[2]),(3,[0,8,9,10]),(4,[0,8,9,10,11]),(5,[0,3,4,8,9,10]),(6,[0,8,9,10,32]),(7,[2]),(8,[0,8,9,10]),(9,[2])]
@[go_sem] def us171_6:List Nat:=[0,1,3,7,15,31,63,127,127,383,1023,2047,127,4223,16383,32767,65535,131071]
abbrev lv172:Nat→Option (List Nat):=lvL [(0,[0,1,5]),(1,[1,5,11,12,13]),(2,[1,5,11,12,13,14]),(3,[1,5,8,11,12,13]),(4,[1,5,8,11,12,13,18,19,20]),(5,[1,5,8,11,12,13,18,19,20,21]),(6,[1,5,8,10,11,12,13,18,19,20]),(7,[1,5,8,11,12,13,18,19,20,32]),(8,[6]),(9,[1,5,8,11,12,13,18,19,20]),(10,[1,5,11,12,13]),(11,[6])]
abbrev lv173:Nat→Option (List Nat):=lvL [(0,[0,1,2]),(1,[0,1,2,14]),(2,[6]),(3,[1,2,15,16,17]),(4,[1,2,15,16,17,18]),(5,[1,2,7,8,15,16,17]),(6,[1,2,8,9,15,16,17]),(7,[1,2,15,16,17,30]),(8,[6]),(9,[1,2,15,16,17]),(10,[6])]
abbrev lv174:Nat→Option (List Nat):=lvL [(0,[2,3]),(1,[4])]
abbrev lv175:Nat→Option (List Nat):=lvL [(0,[0,1]),(1,[0,1,5]),(2,[0,1,5,6]),(3,[0,1,6,11]),(4,[12]),(5,[4]),(6,[4]),(7,[0,1,13]),(8,[4]),(9,[0,1,16]),(10,[4]),(11,[19]),(12,[4]),(13,[4])]
abbrev lv176:Nat→Option (List Nat):=lvL [(0,[0,1,2]),(1,[0,1,2,14]),(2,[6]),(3,[1,2,15,16,17]),(4,[1,2,15,16,17,18]),(5,[1,2,7,8,15,16,17]),(6,[1,2,8,9,15,16,17]),(7,[1,2,15,16,17,30]),(8,[6]),(9,[1,2,15,16,17]),(10,[6])]
abbrev lv177:Nat→Option (List Nat):=lvL [(0,[2,3]),(1,[4])]
abbrev lv178:Nat→Option (List Nat):=lvL [(0,[0,1]),(1,[0,1,10]),(2,[4]),(3,[0,1,12,13]),(4,[0,1,12,13,14]),(5,[0,1,5,12,13]),(6,[0,1,12,13,24]),(7,[4]),(8,[0,1,12,13]),(9,[4])]
@[go_sem] def us178_6:List Nat:=[0,0,3,7,0,0,48,112,255]
abbrev lv179:Nat→Option (List Nat):=lvL [(0,[0,1]),(1,[0,1,10]),(2,[4]),(3,[0,1,12,13]),(4,[0,1,12,13,14]),(5,[0,1,5,12,13]),(6,[0,1,12,13,24]),(7,[4]),(8,[0,1,12,13]),(9,[4])]
@[go_sem] def us179_6:List Nat:=[0,0,3,7,0,0,48,112,255]
abbrev lv180:Nat→Option (List Nat):=lvL [(0,[1,2]),(1,[1,2,30]),(2,[2,3,4]),(3,[1,2,32,33,34]),(4,[1,2,32,33,34,35]),(5,[1,2,5,6,32,33,34]),(6,[1,2,6,32,33,34,57]),(7,[2,3,4]),(8,[1,2,4,32,33,34]),(9,[1,2,32,33,34,73]),(10,[2,3,4]),(11,[1,2,32,33,34]),(12,[2,3,4]),(13,[2,3,86]),(14,[2,3,4]),(15,[2,3,4])]
@[go_sem] def us180_6:List Nat:=[0,1,3,7,15,31,63,127,255,127,639,2047,4095,127,8319,32767,65535,131071,262143]
abbrev lv181:Nat→Option (List Nat):=lvL [(0,[1]),(1,[1,4,6]),(2,[1,4,6,26]),(3,[2,3]),(4,[1,4,6,7]),(5,[1,4,6,7,37]),(6,[2,3]),(7,[2,3])]
abbrev lv182:Nat→Option (List Nat):=lvL [(0,[1,2,3]),(1,[1,2,3,8,9]),(2,[1,2,3,8,9,19]),(3,[6,7]),(4,[1,2,8,9,10]),(5,[1,2,8,9,10,27]),(6,[6,7]),(7,[1,10,11]),(8,[1,12]),(9,[6,7])]
abbrev lv183:Nat→Option (List Nat):=lvL [(0,[0,3]),(1,[0,5]),(2,[0,5,10]),(3,[4]),(4,[4])]
abbrev lv184:Nat→Option (List Nat):=lvL [(0,[0]),(1,[2])]
abbrev lv185:Nat→Option (List Nat):=lvL [(0,[]),(1,[0])]
abbrev lv187:Nat→Option (List Nat):=lvL [(0,[2,3]),(1,[4])]
@[go_sem] def us187_1:List Nat:=[0,1,0,4,15,0,32,0,128,511,1023,2047,4095]
abbrev lv188:Nat→Option (List Nat):=lvL [(0,[0]),(1,[0,3]),(2,[3,6,7,8]),(3,[3,6,7,8,9]),(4,[3,5,6,7,8]),(5,[3,5,6,7,8,14]),(6,[2]),(7,[3,6,7,8]),(8,[2])]
abbrev lv189:Nat→Option (List Nat):=lvL [(0,[0,1]),(1,[0,1,5]),(2,[0,1,5,6]),(3,[0,1,6,11]),(4,[12]),(5,[4]),(6,[4]),(7,[0,1,13]),(8,[4]),(9,[0,1,16]),(10,[4]),(11,[19]),(12,[4]),(13,[4])]
abbrev lv190:Nat→Option (List Nat):=lvL [(0,[0,1,2]),(1,[0,1,2,8]),(2,[0,1,2,8,9,10]),(3,[0,1,2,8,9,10,17]),(4,[0,1,2,8,9,10,11]),(5,[0,1,2,8,9,10,11,31]),(6,[0,1,2,8,9,10]),(7,[0,1,2,8,9,10]),(8,[6,7])]
abbrev lv191:Nat→Option (List Nat):=lvL [(0,[1,2]),(1,[4])]
abbrev lv194:Nat→Option (List Nat):=lvL [(0,[0,1]),(1,[0,1,6]),(2,[0,1,6,12]),(3,[4,5]),(4,[7,8]),(5,[7,21]),(6,[4,5]),(7,[4,5])]
abbrev lv195:Nat→Option (List Nat):=lvL [(0,[0,1,2]),(1,[0,1,2,8]),(2,[0,1,2,8,9,10]),(3,[0,1,2,8,9,10,17]),(4,[0,1,2,8,9,10,11]),(5,[0,1,2,8,9,10,11,31]),(6,[0,1,2,8,9,10]),(7,[0,1,2,8,9,10]),(8,[6,7])]
abbrev lv196:Nat→Option (List Nat):=lvL [(0,[1,2]),(1,[4])]
abbrev lv197:Nat→Option (List Nat):=lvL [(0,[0,1,2]),(1,[0,1,2]),(2,[0,1,2,7]),(3,[0,1,2,7,16]),(4,[6]),(5,[0,1,2,7,8]),(6,[0,1,2,7,8,22]),(7,[6]),(8,[0,1,2,7,8,31]),(9,[0,1,2,7,9]),(10,[0,1,7,9]),(11,[9]),(12,[6]),(13,[0,1,2,7,8]),(14,[0,1,2,7,8,68]),(15,[0,1,2]),(16,[0]),(17,[6]),(18,[0,1,7]),(19,[0]),(20,[6])]
@[go_sem] def us197_11:List Nat:=[0,0,0,6,15,0,0,96,255]
@[go_sem] def us197_15:List Nat:=[0,0,0,6,15,0,0,96,255]
def ac197 {T:Tab} (hT:TabOk Go.Proofs.Tryz.prog T):= @acT T hT 197 Go.Proofs.Tryz.f197 95 [.tmp 6] lv197 (by kernel_rfl) (by kernel_rfl) rfl
abbrev lv198:Nat→Option (List Nat):=lvL [(0,[0]),(1,[0,4]),(2,[2]),(3,[2])]
abbrev lv199:Nat→Option (List Nat):=lvL [(0,[0]),(1,[0,4]),(2,[2]),(3,[2])]
abbrev lv200:Nat→Option (List Nat):=lvL [(0,[0]),(1,[0,4]),(2,[2]),(3,[2])]
abbrev lv201:Nat→Option (List Nat):=lvL [(0,[0]),(1,[0,4]),(2,[2]),(3,[2])]
abbrev lv205:Nat→Option (List Nat):=lvL [(0,[1]),(1,[1,6]),(2,[2,3]),(3,[2,3])]
abbrev lv207:Nat→Option (List Nat):=lvL [(0,[1,2,3,6]),(1,[1,2,3,6,9]),(2,[1,2,3,6,9,16]),(3,[6,7,8]),(4,[2,3,6,10,11]),(5,[2,3,6,10,27]),(6,[6,7,8]),(7,[2,3,6,10,12]),(8,[2,3,6,12]),(9,[3,6,12]),(10,[6,7,8])]
abbrev lv208:Nat→Option (List Nat):=lvL [(0,[0]),(1,[2])]
abbrev lv209:Nat→Option (List Nat):=lvL [(0,[0]),(1,[2])]
abbrev lv215:Nat→Option (List Nat):=lvL [(0,[0,1]),(1,[0,1,6,7]),(2,[6,7,14]),(3,[4,5]),(4,[6,20]),(5,[4,5]),(6,[4,5])]
abbrev lv218:Nat→Option (List Nat):=lvL [(0,[0]),(1,[0,9]),(2,[2,3]),(3,[0,4]),(4,[4,10,11,12]),(5,[4,10,11,12,13]),(6,[4,6,10,11,12]),(7,[4,6,10,11,12,19]),(8,[2,3]),(9,[4,10,11,12]),(10,[4,10,11,12]),(11,[2,3])]
abbrev lv219:Nat→Option (List Nat):=lvL [(0,[0]),(1,[0,3]),(2,[3,6,7,8]),(3,[3,6,7,8,9]),(4,[3,5,6,7,8]),(5,[3,6,7,8]),(6,[3,6,7,8]),(7,[2])]
abbrev lv220:Nat→Option (List Nat):=lvL [(0,[1]),(1,[1,4,5]),(2,[1,4,5,12]),(3,[2,3]),(4,[2,3])]
abbrev lv221:Nat→Option (List Nat):=lvL [(0,[0,1]),(1,[0,1,7,8]),(2,[0,1,7,8,9]),(3,[0,1,5,7,8]),(4,[0,1,5,7,8,16]),(5,[4]),(6,[0,1,7,8]),(7,[4])]
abbrev lv222:Nat→Option (List Nat):=lvL [(0,[1]),(1,[5,6]),(2,[2,3])]
abbrev lv223:Nat→Option (List Nat):=lvL [(0,[0,2]),(1,[0,2,3]),(2,[0,2,3,9]),(3,[2,3]),(4,[2,11,12,13]),(5,[2,11,12,13,14]),(6,[2,5,11,12,13]),(7,[2,11,12,13]),(8,[2,11,12,13,21]),(9,[2,3]),(10,[2,11,12,13]),(11,[2,3])]
abbrev lv225:Nat→Option (List Nat):=lvL [(0,[0,1]),(1,[0,1,10]),(2,[4]),(3,[0,1,12,13]),(4,[0,1,12,13,14]),(5,[0,1,5,12,13]),(6,[0,1,12,13,24]),(7,[4]),(8,[0,1,12,13]),(9,[4])]
@[go_sem] def us225_6:List Nat:=[0,0,3,7,0,0,48,112,255]
abbrev lv226:Nat→Option (List Nat):=lvL [(0,[0]),(1,[2])]
abbrev lv227:Nat→Option (List Nat):=lvL [(0,[0,1]),(1,[0,1,7,8]),(2,[0,1,7,8,9]),(3,[0,1,5,7,8]),(4,[0,1,5,7,8,16]),(5,[4]),(6,[0,1,7,8]),(7,[4])]
abbrev lv228:Nat→Option (List Nat):=lvL [(0,[1,2]),(1,[3])]
abbrev lv232:Nat→Option (List Nat):=lvL [(0,[0]),(1,[2])]
abbrev lv236:Nat→Option (List Nat):=lvL [(0,[0,1,2]),(1,[0,1,2]),(2,[0,1,2,16]),(3,[6]),(4,[0,1,2,7]),(5,[0,7]),(6,[0]),(7,[6])]
@[go_sem] def us236_5:List Nat:=[0,0,3,0,0,24,63,127]
open Go
section
variable {P:Program} {g g':G} {w w':World}
def Grown (z:Nat) (e:TypeId) (els:List (List C)) (d:D) (os:List (Nat×Ob)):Prop:=∃k,d= .vec k els.length∧lk k os=some (.vec true z e els)
theorem ACall.grow {f:FuncId} {i j nx m n:Nat} {os:List (Nat×Ob)} {z e:Nat} {h1 h2:Bool} {A B E:List (List C)} {mid:List D} {Q:D→List (Nat×Ob)→Nat→Prop}
 (h:ACall P f (.vec 0 n::mid++[.vec 1 m]) [(1, .vec h2 z e B),(0, .vec h1 z e A)] 2 fun d os' _=>Grown z e E d os')
 (hi:lk i os=some (.vec h1 z e A)) (hj:lk j os=some (.vec h2 z e B)) (hne:i≠j) (hn:A.length<E.length) (hmid:∀d∈mid,∀g g' w v,VRel g w v d→VRel g' w v d)
 (hQ:Q (.vec i E.length) ((i, .vec true z e E)::rmv os [i,j]) nx):ACall P f (.vec i n::mid++[.vec j m]) os nx Q:=by
 refine⟨h.1,fun g w vs ho hsz hv=> ?_⟩
 have hib:=ho.lt hi
 have hjb:=ho.lt hj
 let g0:G:=⟨fun _=>none,fun k=>if k=0 then g.κ i else if k=1 then g.κ j else none,g.I⟩
 have hoi:=ho.ok i _ hi
 have hoj:=ho.ok j _ hj
 have hk0:g0.κ 0=g.κ i:=rfl
 have hk1:g0.κ 1=g.κ j:=rfl
 have hlk0:∀id o,lk id [(1,Ob.vec h2 z e B),(0,Ob.vec h1 z e A)]=some o→(id=0∧o= .vec h1 z e A)∨(id=1∧o= .vec h2 z e B):=fun id o h=>by
  simp only [lk_cons]at h
  split at h
  ·rename_i hid;cases h;exact .inr ⟨hid,rfl⟩
  ·split at h
   ·rename_i hid;cases h;exact .inl ⟨hid,rfl⟩
   ·cases h
 have hb0:∀o:Ob,(∃hd z e els,o= .vec hd z e els)→g0.blk 0 o=g.blk i o:=fun o ⟨hd,z,e,els,ho⟩=>by subst ho;rfl
 have hb1:∀o:Ob,(∃hd z e els,o= .vec hd z e els)→g0.blk 1 o=g.blk j o:=fun o ⟨hd,z,e,els,ho⟩=>by subst ho;rfl
 have hown0:∀b,Own g0 ⟨[],[(1, .vec h2 z e B),(0, .vec h1 z e A)],2⟩ b→g.blk i (.vec h1 z e A)=some b∨g.blk j (.vec h2 z e B)=some b:=fun b ⟨id,o,h3,h4⟩=>by
  rcases hlk0 id o h3 with⟨rfl,rfl⟩|⟨rfl,rfl⟩
  ·exact .inl h4
  ·exact .inr h4
 have hownG:∀b,Own g0 ⟨[],[(1, .vec h2 z e B),(0, .vec h1 z e A)],2⟩ b→Own g ⟨[],os,nx⟩ b:=fun b h=>(hown0 b h).elim (fun h=>⟨i,_,hi,h⟩) fun h=>⟨j,_,hj,h⟩
 have ho0:RelO g0 ⟨[],[(1, .vec h2 z e B),(0, .vec h1 z e A)],2⟩ w:=by
  refine⟨fun id o h=> ?_,fun id o id' o' b h3 h4 h5 h6=> ?_,fun id hid=> ?_,fun b hb=>⟨(ho.imm b hb).1,fun h=>(ho.imm b hb).2 (hownG b h)⟩,ho.cel⟩
  ·rcases hlk0 id o h with⟨rfl,rfl⟩|⟨rfl,rfl⟩
   ·exact hoi
   ·exact hoj
  ·rcases hlk0 id o h3 with⟨rfl,rfl⟩|⟨rfl,rfl⟩<;>rcases hlk0 id' o' h4 with⟨rfl,rfl⟩|⟨rfl,rfl⟩
   ·rfl
   ·exact absurd (ho.apart i _ j _ b hi hj h5 h6) hne
   ·exact absurd (ho.apart i _ j _ b hi hj h6 h5) hne
   ·rfl
  ·have hid':2≤id:=hid
   refine⟨rfl, ?_⟩
   show(if id=0 then g.κ i else if id=1 then g.κ j else none)=none
   rw [if_neg (by omega),if_neg (by omega)]
 have hvec:∀{k k' m:Nat} {v:Value},g0.κ k'=g.κ k→VRel g w v (.vec k m)→VRel g0 w v (.vec k' m):=fun{k k' m v} hk hv=>by
  cases hv with
  |vec a' cap' _ _ a0 len cap hkk hle hm ha hvq=>exact .vec _ _ _ _ a0 len cap (by rw [hk];exact hkk) hle hm ha hvq
 have hv0:∀(k:Nat) (v:Value) (d:D),vs[k]? =some v→(D.vec 0 n::mid++[.vec 1 m])[k]? =some d→VRel g0 w v d:=fun k v d hk hd=>by
  have hlen:(D.vec i n::mid++[D.vec j m]).length=mid.length+2:=by simp
  rcases k with _|k
  ·simp at hd;subst hd
   exact hvec hk0 (hv 0 v _ hk (by simp))
  ·simp only [List.cons_append,List.getElem?_cons_succ]at hd
   rw [List.getElem?_append]at hd
   split at hd
   ·rename_i hlt
    have:=hv (k+1) v d hk (by simp only [List.cons_append,List.getElem?_cons_succ];rw [List.getElem?_append_left hlt];exact hd)
    exact hmid d (List.mem_of_getElem? hd) _ _ _ _ this
   ·rename_i hlt
    have hk':k=mid.length:=by
     have:=(List.getElem?_eq_some_iff.1 hd).1
     simp at this;omega
    subst hk'
    simp at hd;subst hd
    exact hvec hk1 (hv (mid.length+1) v _ hk (by simp))
 refine(h.2 g0 w vs ho0 (by simpa using hsz) hv0).mono ?_
 rintro ex w' ⟨v,d,g',os',nx',rfl,⟨k,rfl,hk⟩,hro,hvr,hst⟩
 have hok:=hro.ok k _ hk
 obtain⟨a2,cap2,h6,h7,h8,h9,h10⟩:=hok
 let g2:G:=⟨g.ρ,fun id=>if id=i then some (a2,E.length,cap2)else g.κ id,g'.I⟩
 have h2i:g2.κ i=g'.κ k:=by show(if i=i then _ else _)=_;rw [if_pos rfl,h6]
 have h2o:∀id,id≠i→g2.κ id=g.κ id:=fun id hid=>if_neg hid
 obtain⟨a1,cap1,hi1,hi2⟩:=hoi
 have hle:g.Le g2:=by
  refine⟨fun _ _ h=>h,fun id x l c hid=> ?_,fun b hb=>hst.le.I b hb⟩
  by_cases hii:id=i
  ·subst hii
   rw [hi1]at hid
   cases hid
   exact⟨a2,E.length,cap2,by rw [h2i,h6],by omega,fun e=>by omega⟩
  ·exact⟨x,l,c,by rw [h2o id hii];exact hid,Nat.le_refl _,fun _=>⟨rfl,rfl⟩⟩
 have hin:∀id o,lk id ((i,Ob.vec true z e E)::rmv os [i,j])=some o→(id=i∧o= .vec true z e E)∨(id≠i∧id≠j∧lk id os=some o):=fun id o h=>by
  simp only [lk_cons,lk_rmv]at h
  split at h
  ·rename_i hid;cases h;exact .inl ⟨hid,rfl⟩
  ·rename_i hid
   split at h
   ·cases h
   ·rename_i hid2
    simp at hid2
    exact .inr ⟨hid,hid2.2,h⟩
 have hblko:∀id o,id≠i→g2.blk id o=g.blk id o:=fun id o hid=>by
  cases o with
  |box cs=>rfl
  |map _ _=>rfl
  |it _ _=>rfl
  |vec _ _ _ _=>simp only [G.blk,h2o id hid]
 have hblki:∀b,g2.blk i (.vec true z e E)=some b→g'.blk k (.vec true z e E)=some b:=fun b hb=>by
  simp only [G.blk,h2i]at hb⊢
  exact hb
 have hrest:∀id o b,id≠i→id≠j→lk id os=some o→g.blk id o=some b→b<w.heap.size∧¬Own g0 ⟨[],[(1, .vec h2 z e B),(0, .vec h1 z e A)],2⟩ b:=fun id o b h11 h12 h13 h14=>by
  refine⟨(ho.ok id o h13).lt.1 b h14,fun h15=> ?_⟩
  rcases hown0 b h15 with h16|h16
  ·exact h11 (ho.apart id o i _ b h13 hi h14 h16)
  ·exact h12 (ho.apart id o j _ b h13 hj h14 h16)
 have hnew:∀b,g'.blk k (.vec true z e E)=some b→Own g' ⟨[],os',nx'⟩ b:=fun b hb=>⟨k,_,hk,hb⟩
 have hownN:∀b,Own g2 ⟨[],(i, .vec true z e E)::rmv os [i,j],nx⟩ b→Own g' ⟨[],os',nx'⟩ b∨Own g ⟨[],os,nx⟩ b∧b<w.heap.size∧¬Own g0 ⟨[],[(1, .vec h2 z e B),(0, .vec h1 z e A)],2⟩ b:=fun b ⟨id,o,h11,h12⟩=>by
  rcases hin id o h11 with⟨rfl,rfl⟩|⟨h13,h14,h15⟩
  ·exact .inl (hnew b (hblki b h12))
  ·rw [hblko id o h13]at h12
   exact .inr ⟨⟨id,o,h15,h12⟩,hrest id o b h13 h14 h15 h12⟩
 have hkeep:Keeps g.I w w':=fun b hb=>hst.same b (ho.imm b hb).1 fun h=>(ho.imm b hb).2 (hownG b h)
 have himm:∀b,b<w.heap.size→¬Own g ⟨[],os,nx⟩ b→g'.I b→g.I b:=fun b hb hno hi'=>hst.imm b hb (fun h=>hno (hownG b h)) hi'
 refine⟨v,_,g2,_,nx,rfl,hQ,⟨fun id o h=> ?_,fun id o id' o' b h11 h12 h13 h14=> ?_,fun id hid=> ?_,fun b hb=>⟨(hro.imm b hb).1,fun h=> ?_⟩,hro.cel⟩, ?_,⟨hle,hst.size,fun b hb hno=>hst.same b hb fun h=>hno (hownG b h),fun b hb hno h=> ?_,himm,hst.env⟩⟩
 ·rcases hin id o h with⟨rfl,rfl⟩|⟨h11,h12,h13⟩
  ·exact⟨a2,cap2,by rw [h2i,h6],h7,h8,h9,h10⟩
  ·exact(ho.ok id o h13).mono hkeep hle (fun b hb=>hst.same b (hrest id o b h11 h12 h13 hb).1 (hrest id o b h11 h12 h13 hb).2) (h2o id h11)
 ·have key:∀id o b,id≠i→id≠j→lk id os=some o→g.blk id o=some b→g'.blk k (.vec true z e E)=some b→False:=fun id o b h15 h16 h17 h18 h19=>by
   have:=hrest id o b h15 h16 h17 h18
   exact hst.own b this.1 this.2 (hnew b h19)
  rcases hin id o h11 with⟨rfl,rfl⟩|⟨h15,h16,h17⟩<;>rcases hin id' o' h12 with⟨rfl,rfl⟩|⟨h18,h19,h20⟩
  ·rfl
  ·rw [hblko id' o' h18]at h14
   exact(key id' o' b h18 h19 h20 h14 (hblki b h13)).elim
  ·rw [hblko id o h15]at h13
   exact(key id o b h15 h16 h17 h13 (hblki b h14)).elim
  ·rw [hblko id o h15]at h13
   rw [hblko id' o' h18]at h14
   exact ho.apart id o id' o' b h17 h20 h13 h14
 ·have:=ho.fresh id hid
  have h20:nx≤id:=hid
  have h21:i<nx:=hib
  have hne':id≠i:=by omega
  exact⟨this.1,by rw [h2o id hne'];exact this.2⟩
 ·rcases hownN b h with h11|⟨h11,h12,h13⟩
  ·exact(hro.imm b hb).2 h11
  ·exact(ho.imm b (hst.imm b h12 h13 hb)).2 h11
 ·cases hvr with
  |vec a' cap' _ _ a0 len cap hkk hle' hm ha hvq=>exact .vec _ _ _ _ a0 len cap (by rw [h2i];exact hkk) hle' hm ha hvq
 ·rcases hownN b h with h11|⟨h11,_⟩
  ·exact hst.own b hb (fun h=>hno (hownG b h)) h11
  ·exact hno h11
end
open Go
section
variable {κ:Type} [DecidableEq κ]
def alk (a:κ):List (κ×Int)→Option Int
 |[]=>none
 |(x,y)::l=>if x=a then some y else alk a l
def aset (a:κ) (b:Int):List (κ×Int)→List (κ×Int)
 |[]=>[(a,b)]
 |(x,y)::l=>if x=a then(x,b)::l else(x,y)::aset a b l
theorem alk_aset {a k:κ} {b:Int}:∀{l:List (κ×Int)},alk k (aset a b l)=if k=a then some b else alk k l
 |[]=>by
  simp only [aset,alk]
  by_cases h:a=k
  ·rw [if_pos h,if_pos h.symm]
  ·rw [if_neg h,if_neg (fun e=>h e.symm)]
 |(x,y)::l=>by
  rw [aset]
  by_cases hx:x=a
  ·subst hx
   rw [if_pos rfl,alk,alk]
   by_cases h:x=k
   ·rw [if_pos h,if_pos h.symm]
   ·rw [if_neg h,if_neg (fun e=>h e.symm),if_neg h]
  ·rw [if_neg hx,alk,alk,alk_aset]
   by_cases h:x=k
   ·rw [if_pos h,if_pos h]
    subst h
    rw [if_neg hx]
   ·rw [if_neg h,if_neg h]
end
abbrev K3:=Nat×Nat×Nat
def kv3 (l:List (K3×Int)):List (List C×D):=l.map fun x=>([.int .u64 x.1.1, .int .u64 x.1.2.1, .int .u64 x.1.2.2], .int .i64 x.2)
theorem mlk_kv3 {a b c:Nat}:∀{l:List (K3×Int)},mlk [.int .u64 (a:Int), .int .u64 (b:Int), .int .u64 (c:Int)] (kv3 l)=(alk (a,b,c) l).map fun b=> .int .i64 b
 |[]=>rfl
 |((x,y,z),v)::l=>by
  show mlk _ (([.int .u64 (x:Int), .int .u64 (y:Int), .int .u64 (z:Int)],_)::kv3 l)=_
  rw [mlk,alk]
  by_cases h:(x,y,z)=(a,b,c)
  ·rw [if_pos h];cases h;rw [if_pos rfl];rfl
  ·rw [if_neg h,if_neg,mlk_kv3]
   intro e
   simp only [List.cons.injEq,C.int.injEq,true_and,and_true,Int.natCast_inj]at e
   exact h (by rw [e.1,e.2.1,e.2.2])
attribute [go_sem] mlk_kv3
theorem mset_kv3 {a b c:Nat} {v:Int}:∀{l:List (K3×Int)},mset [.int .u64 (a:Int), .int .u64 (b:Int), .int .u64 (c:Int)] (.int .i64 v) (kv3 l)=kv3 (aset (a,b,c) v l)
 |[]=>rfl
 |((x,y,z),u)::l=>by
  show mset _ _ (([.int .u64 (x:Int), .int .u64 (y:Int), .int .u64 (z:Int)],_)::kv3 l)=_
  rw [mset,aset]
  by_cases h:(x,y,z)=(a,b,c)
  ·rw [if_pos h];cases h;rw [if_pos rfl];rfl
  ·rw [if_neg h,if_neg,mset_kv3]
   ·rfl
   ·intro e
    simp only [List.cons.injEq,C.int.injEq,true_and,and_true,Int.natCast_inj]at e
    exact h (by rw [e.1,e.2.1,e.2.2])
attribute [go_sem] mset_kv3
@[go_sem] theorem bel_kv3 {N:Nat} {l:List (K3×Int)}:mbel N (kv3 l)=true:=by
 simp [mbel,kv3,D.bel2,D.bel1,D.bel0]
@[go_sem] theorem mids_kv3:∀{l:List (K3×Int)},(kv3 l).map (·.2)=l.map fun x=>D.int .i64 x.2:=by
 intro l;simp [kv3]
@[go_sem] theorem midsL_int {α:Type} {k:IntKind} {f:α→Int}:∀{l:List α},midsL (l.map fun x=>D.int k (f x))=[]
 |[]=>rfl
 |x::l=>by
  rw [List.map_cons,midsL,midsL_int];rfl
@[go_sem] theorem midsL_mzero {key:List C} {k:IntKind} {n:Int}:∀{kv:List (List C×D)},midsL ((mzero key (.int k n) kv).map (·.2))=midsL (kv.map (·.2))
 |[]=>rfl
 |(k',d)::l=>by
  rw [mzero]
  split
  ·rfl
  ·rw [List.map_cons,List.map_cons,midsL,midsL,midsL_mzero]
attribute [go_sem] mput_mset
@[go_sem] theorem mpos_nn {k:List C} {kv:List (List C×D)}:(0≤((mpos k kv:Nat):Int))=True:=eq_true (by omega)
@[go_sem] theorem mpos_in {k:List C} {z:D} {kv:List (List C×D)}:(((mpos k kv:Nat):Int)<(((mzero k z kv).length:Nat):Int))=True:=eq_true (by have:=mpos_lt (k:=k) (z:=z) (kv:=kv);omega)
@[go_sem] theorem getD_mi {o:Option Int}:(o.map fun b=>D.int .i64 b).getD (.int .i64 0)= .int .i64 (o.getD 0):=by cases o<;>rfl
@[go_sem] theorem rdD_none {P:Program} {s:St}:rdD P s []=some (.tup []):=rfl
@[go_sem] theorem rdD_4 {P:Program} {s:St} {r r' r'' r3:ResultVar}:rdD P s [r,r',r'',r3]=match rd1 P s r,rd1 P s r',rd1 P s r'',rd1 P s r3 with|some x,some y,some z,some u=>some (.tup [x,y,z,u])|_,_,_,_=>none:=by
 unfold rdD rds rds rds rds rds
 cases rd1 P s r<;>cases rd1 P s r'<;>cases rd1 P s r''<;>cases rd1 P s r3<;>rfl
theorem okL_z {o:Option Int} {d:Option Nat} {s:St} {K:St→Prop}:okL (some (o.map fun b=>D.int .i64 b,D.int .i64 0)) false d s K=K (s.put d (.int .i64 (o.getD 0))):=by
 cases o<;>rfl
open Go
abbrev Sg (m:Nat):=List (Fin m)×Bool
section
variable {P:Program} {T:Tab} {g:G} {s s':St} {a:Act} {w w':World} {n l m:Nat}
structure YOk (P:Program) (l:Nat) (I:Nat→Prop) {m:Nat} (ys:Fin m→List D) (J Jx:List (Fin m)→World→Prop):Prop where
 round:∀pre x (vs:Array Value) W1,J pre W1→pre.length<m→vs.size=(ys x).length→(∀(j:Nat) (v:Value) (d:D),vs[j]? =some v→(ys x)[j]? =some d→VRel (G0 I) W1 v d)→YieldAt Fence.wide 3 P l vs W1 fun e W'=>
  (e= .returned (.bool true)∧J (pre++[x]) W'∧∀b,I b→Cel W1 b→W'.heap[b]? =W1.heap[b]?)∨(e= .returned (.bool false)∧Jx (pre++[x]) W'∧∀b,I b→Cel W1 b→W'.heap[b]? =W1.heap[b]?)
 grow:∀pre W W',J pre W→Ext W W'→J pre W'
 growx:∀pre W W',Jx pre W→Ext W W'→Jx pre W'
def RelY (I:Nat→Prop) {m:Nat} (J Jx:List (Fin m)→World→Prop) (s:St) (σ:Sg m) (a:Act) (w:World):Prop:=
 s.os=[]∧s.nx=0∧match σ.2 with
  |true=>Rel [] (G0 I) s a w∧J σ.1 w
  |false=>Rel [] (G0 I) s a w∧Jx σ.1 w
def SY (P:Program) (n:Nat) (I:Nat→Prop) {m:Nat} (J Jx:List (Fin m)→World→Prop) (c:Code) (Q:Exit→St→Sg m→Prop) (s:St) (σ:Sg m):Prop:=
 ∀a w,RelY I J Jx s σ a w→a.tmps.size=n→c.wpIn Fence.wide 4 P (fun e a' w'=>∃s' σ',Q e s' σ'∧RelY I J Jx s' σ' a' w'∧a'.tmps.size=n) a w
def yargs (o:Oper) (s:St) (l:Nat):Option (List D):=match o.op with
 | .call c=>match c.callee with
  | .value f=>match s.ev f with
   | .fn (.yield l') [] []=>if l'=l then some (c.args.toList.map s.ev)else none
   |_=>none
  |_=>none
 |_=>none
def numsL:List Nat→List (Nat×D)→List (Nat×D)
 |_,[]=>[]
 |seen,(t,d)::l=>if seen.contains t=true then numsL seen l else if d.scal=true then(t,d)::numsL (t::seen) l else numsL (t::seen) l
def St.nums (s:St):St:=⟨numsL [] s.tm,[],0⟩
def aopsY (P:Program) (T:Tab) (l:Nat) {m:Nat} (ys:Fin m→List D) (K:St→Sg m→Prop):List Oper→St→Sg m→Prop
 |[],s,σ=>K s σ
 |o::rest,s,σ=>o.guard=none∧match yargs o s l with
  |some ds=>σ.2=true∧σ.1.length<m∧∃x,ds=ys x∧aopsY P T l ys K rest (s.put o.dst (.bool true)) (σ.1++[x],true)∧aopsY P T l ys K rest (s.nums.put o.dst (.bool false)) (σ.1++[x],false)
  |none=>aopQ P T o s fun s'=>aopsY P T l ys K rest s' σ
variable {I:Nat→Prop} {ys:Fin m→List D} {J Jx:List (Fin m)→World→Prop}
theorem Rel.ext0 {I:Nat→Prop} (hr:Rel [] (G0 I) s a w) (hext:Ext w w'):Rel [] (G0 I) s a w':=by
 obtain⟨h1,h2⟩:=hr.o.grow hext (I:=I) (fun b hb=>hb) (fun b _ hb=>hb) (hr.o.cel.same fun b hb=>hext.2.1 b (hr.o.imm b hb).1)
 exact⟨fun t d ht=>let⟨v,h3,h4⟩:=hr.tm t d ht;⟨v,h3,h2.vrel hr.o h4⟩,hr.defers,h1⟩
theorem RelY.put {σ:Sg m} (h:RelY I J Jx s σ a w) (t:Option Tmp) {v:Value} {d:D} (hv:∀g,(σ.2=true→g=G0 I)→(σ.2=false→g=G0 I)→VRel g w v d) (ht:∀x,t=some x→x<a.tmps.size):RelY I J Jx (s.put t d) σ (a.put t v) w:=by
 obtain⟨h1,h2,h3⟩:=h
 refine⟨by cases t<;>exact h1,by cases t<;>exact h2, ?_⟩
 obtain⟨pre,b⟩:=σ
 cases b
 ·exact⟨h3.1.put t (hv _ (fun h=>by cases h) fun _=>rfl) ht,h3.2⟩
 ·exact⟨h3.1.put t (hv _ (fun _=>rfl) fun h=>by cases h) ht,h3.2⟩
theorem RelY.ext {σ:Sg m} (hY:YOk P l I ys J Jx) (h:RelY I J Jx s σ a w) (hext:Ext w w'):RelY I J Jx s σ a w':=by
 obtain⟨h1,h2,h3⟩:=h
 refine⟨h1,h2, ?_⟩
 obtain⟨pre,b⟩:=σ
 cases b
 ·exact⟨h3.1.ext0 hext,hY.growx _ _ _ h3.2 hext⟩
 ·exact⟨h3.1.ext0 hext,hY.grow _ _ _ h3.2 hext⟩
theorem opY (hT:TabOk P T) (hY:YOk P l I ys J Jx) {σ:Sg m} {o:Oper} {K:St→Prop} (h:aopQ P T o s K) (hr:RelY I J Jx s σ a w) (hn:a.tmps.size=n) (hd:∀x,o.dst=some x→x<n) {KK:Act→World→Prop} {Q:Exit→Act→World→Prop}
 (hK:∀s' a' w',K s'→RelY I J Jx s' σ a' w'→a'.tmps.size=n→KK a' w'):o.wpIn Fence.wide 4 P a w KK Q:=by
 have main:∃(v:Value) (d:D),QVal P o a w v∧K (s.put o.dst d)∧∀w',Ext w w'→RelY I J Jx (s.put o.dst d) σ (a.put o.dst v) w':=by
  obtain⟨h1,h2,h3⟩:=hr
  obtain⟨pre,b⟩:=σ
  cases b
  ·obtain⟨v,d,h4,h5,h6⟩:=aopQ_sound hT o h h3.1
   refine⟨v,d,h4,h6,fun w' hext=>RelY.ext hY (σ:=(pre,false)) (RelY.put (σ:=(pre,false)) ⟨h1,h2,h3⟩ o.dst (fun g _ hg=>by rw [hg rfl];exact h5) (fun x hx=>by rw [hn];exact hd x hx)) hext⟩
  ·obtain⟨v,d,h4,h5,h6⟩:=aopQ_sound hT o h h3.1
   refine⟨v,d,h4,h6,fun w' hext=>RelY.ext hY (σ:=(pre,true)) (RelY.put (σ:=(pre,true)) ⟨h1,h2,h3⟩ o.dst (fun g hg _=>by rw [hg rfl];exact h5) (fun x hx=>by rw [hn];exact hd x hx)) hext⟩
 obtain⟨v,d,h4,h5,h6⟩:=main
 refine⟨fun f _=>trivial, ?_⟩
 have hq:=h4 w (.refl w)
 unfold Oper.quietAt at hq
 have hsem:Oper.semAt Fence.wide.round a.eval o=execOp a.eval o:=rfl
 rw [hsem]
 generalize (execOp a.eval o).run P w=r at hq⊢
 have fin:∀w',Ext w w'→KK (a.put o.dst v) w':=fun w' hext=>hK _ _ _ h5 (h6 w' hext) (by rw [put_size,hn])
 cases r with
 |ok nx w1=>
  cases nx with
  |value u=>obtain⟨rfl,rfl⟩:=hq;exact fin _ (.refl _)
  |skip=>obtain⟨rfl,rfl⟩:=hq;exact fin _ (.refl _)
  |enter f args=>
   obtain⟨rfl,hc⟩:=hq
   refine⟨fun hh=>(by cases hh),callsIn_wide.2 (hc.mono ?_)⟩
   rintro e w2 ⟨rfl,hext⟩
   exact fin w2 hext
  |_=>exact hq.elim
 |halt x w1=>exact hq.elim
theorem nums_lk {t:Nat} {d:D}:∀(tm:List (Nat×D)) (seen:List Nat),lk t (numsL seen tm)=some d→seen.contains t=false∧lk t tm=some d∧d.scal=true
 |[],seen,h=>by cases h
 |(u,e)::l,seen,h=>by
  simp only [numsL]at h
  split at h
  ·rename_i hc
   obtain⟨h1,h2,h3⟩:=nums_lk l seen h
   refine⟨h1, ?_,h3⟩
   rw [lk_cons,if_neg (fun e=>by subst e;rw [h1]at hc;cases hc)]
   exact h2
  ·rename_i hc
   split at h
   ·rename_i hs
    rw [lk_cons]at h
    split at h
    ·rename_i e'
     cases h
     subst e'
     exact⟨by simpa using hc,by rw [lk_cons,if_pos rfl],hs⟩
    ·rename_i hne
     obtain⟨h1,h2,h3⟩:=nums_lk l _ h
     exact⟨by simp at h1⊢;exact h1.2,by rw [lk_cons,if_neg hne];exact h2,h3⟩
   ·obtain⟨h1,h2,h3⟩:=nums_lk l _ h
    have hne:¬t=u:=by simp at h1;exact h1.1
    exact⟨by simp at h1⊢;exact h1.2,by rw [lk_cons,if_neg hne];exact h2,h3⟩
theorem yieldY (hY:YOk P l I ys J Jx) {pre:List (Fin m)} {o:Oper} {ds:List D} (hy:yargs o s l=some ds) (hlen:pre.length<m) {x:Fin m} (hx:ds=ys x) (hr:RelY I J Jx s (pre,true) a w) (hn:a.tmps.size=n) (hd:∀t,o.dst=some t→t<n)
 {KK:Act→World→Prop} {Q:Exit→Act→World→Prop}
 (hK:∀w',RelY I J Jx (s.put o.dst (.bool true)) (pre++[x],true) (a.put o.dst (.bool true)) w'→KK (a.put o.dst (.bool true)) w')
 (hK':∀w',RelY I J Jx (s.nums.put o.dst (.bool false)) (pre++[x],false) (a.put o.dst (.bool false)) w'→KK (a.put o.dst (.bool false)) w'):o.wpIn Fence.wide 4 P a w KK Q:=by
 obtain⟨h1,h2,h3,h4⟩:=hr
 unfold yargs at hy
 split at hy<;>try cases hy
 rename_i c ho
 split at hy<;>try cases hy
 rename_i f hc
 split at hy<;>try cases hy
 rename_i l' hf
 split at hy<;>cases hy
 rename_i hl
 subst hl
 have hff:=h3.ev f
 rw [hf]at hff
 generalize hfv:a.eval f=fv at hff
 cases hff with
 |fn _ fiv cav _ _ h5 h6 h7 h8=>
 have e1:fiv= #[]:=Array.eq_empty_of_size_eq_zero (by simpa using h5)
 have e2:cav= #[]:=Array.eq_empty_of_size_eq_zero (by simpa using h6)
 subst e1;subst e2
 obtain⟨h9,h10⟩:=map_rel h3 c.args
 have hvs:∀(j:Nat) (v:Value) (d:D),(c.args.map a.eval)[j]? =some v→(ys x)[j]? =some d→VRel (G0 I) w v d:=fun j v d hv hd=>h10 j v d hv (by rw [hx];exact hd)
 obtain⟨fn,tmps,assign,body,hrun,hround⟩:=hY.round pre x (c.args.map a.eval) w h4 hlen (by rw [h9,hx]) hvs
 refine⟨fun f _=>trivial, ?_⟩
 have hsem:Oper.semAt Fence.wide.round a.eval o=execOp a.eval o:=rfl
 rw [hsem]
 have hex:(execOp a.eval o).run P w= .ok (.round l' fn tmps assign body) w:=by
  unfold execOp
  simp [ho,resolve,hc,hfv,Deferred.ofValue,invoke,hrun]
 rw [hex]
 refine⟨fun hh=>(by cases hh),hround.mono ?_⟩
 rintro e w' (⟨rfl,hj,hkp⟩|⟨rfl,hj,hkp⟩)
 ·refine hK w' (RelY.put (σ:=(pre++[x],true)) ⟨h1,h2, ?_,hj⟩ o.dst (fun g _ _=> .c _ _ (.bool _)) fun t ht=>by rw [hn];exact hd t ht)
  have hk:Keeps I w w':=fun b hb=>hkp b hb (h3.o.cel b hb)
  refine⟨fun t d ht=>let⟨v,h11,h12⟩:=h3.tm t d ht;⟨v,h11,h12.mono hk (.refl _)⟩,h3.defers,⟨fun id o h=> ?_,fun id o id' o' b h=> ?_,fun id _=>⟨rfl,rfl⟩,fun b hb=>⟨((h3.o.cel b hb).keep (hk b hb)).lt,(h3.o.imm b hb).2⟩,h3.o.cel.same fun b hb=>hk b hb⟩⟩
  ·rw [h1]at h;cases h
  ·rw [h1]at h;cases h
 ·have hk:Keeps I w w':=fun b hb=>hkp b hb (h3.o.cel b hb)
  refine hK' w' (RelY.put (σ:=(pre++[x],false)) ⟨rfl,rfl,⟨fun t d ht=> ?_,h3.defers,⟨fun id o h=>(by cases h),fun id o id' o' b h=>(by cases h),fun id _=>⟨rfl,rfl⟩,fun b hb=>⟨((h3.o.cel b hb).keep (hk b hb)).lt,fun⟨_,_,h,_⟩=>by cases h⟩,h3.o.cel.same fun b hb=>hk b hb⟩⟩,hj⟩ o.dst (fun g _ _=> .c _ _ (.bool _)) fun t ht=>by rw [hn];exact hd t ht)
  obtain⟨_,h11,h12⟩:=nums_lk _ _ ht
  obtain⟨v,h13,h14⟩:=h3.tm t d h11
  exact⟨v,h13,h14.any h12⟩
theorem aopsY_sound (hT:TabOk P T) (hY:YOk P l I ys J Jx) (all:Array Oper) {K:St→Sg m→Prop} {Q:Exit→Act→World→Prop}:∀(ops:List Oper) {s:St} {σ:Sg m} {a:Act} {w:World},(∀o∈ops,dstOk1 n o=true)→aopsY P T l ys K ops s σ→RelY I J Jx s σ a w→a.tmps.size=n→
 (∀s' σ' a' w',K s' σ'→RelY I J Jx s' σ' a' w'→a'.tmps.size=n→Q .normal a' w')→wpListIn Fence.wide 4 P all Q ops a w
 |[],s,σ,a,w,_,h,hr,hn,hQ=>hQ _ _ _ _ h hr hn
 |o::rest,s,σ,a,w,hd,h,hr,hn,hQ=>by
  have hdo:∀x,o.dst=some x→x<n:=fun x hx=>by
   have:=hd o (by simp)
   unfold dstOk1 at this
   rw [hx]at this
   simpa using this
  have hrest:∀o∈rest,dstOk1 n o=true:=fun o ho=>hd o (by simp [ho])
  obtain⟨hg,h⟩:=h
  have hw:Region.wanted o (yielded all a.tmps)=true:=by simp [Region.wanted,hg]
  simp only [wpListIn,hw,if_true]
  split at h
  ·rename_i ds hds
   obtain⟨hlive,hlen,x,hx,h1,h2⟩:=h
   obtain⟨pre,b⟩:=σ
   have hb:b=true:=hlive
   subst hb
   exact yieldY hY hds hlen hx hr hn hdo (fun w' hr'=>aopsY_sound hT hY all rest hrest h1 hr' (by rw [put_size,hn]) hQ) (fun w' hr'=>aopsY_sound hT hY all rest hrest h2 hr' (by rw [put_size,hn]) hQ)
  ·exact opY hT hY h hr hn hdo fun s' a' w' hK hr' hn'=>aopsY_sound hT hY all rest hrest hK hr' hn' hQ
theorem RelY.sub {σ:Sg m} (h:RelY I J Jx s σ a w) (hs:s'.os=[]∧s'.nx=0∧subT s.tm s'.tm):RelY I J Jx s' σ a w:=by
 obtain⟨h1,h2,h3⟩:=h
 have key:∀{I:Nat→Prop},Rel [] (G0 I) s a w→Rel [] (G0 I) s' a w:=fun hr=>⟨fun t d ht=>by
  obtain⟨d',h4,h5⟩:=subT_get hs.2.2 ht
  obtain⟨v,h6,h7⟩:=hr.tm t d' h4
  exact⟨v,h6,h7.le h5⟩,hr.defers,⟨fun id o h=>(by rw [hs.1]at h;cases h),fun id o id' o' b h=>(by rw [hs.1]at h;cases h),fun id _=>⟨rfl,rfl⟩,fun b hb=>⟨(hr.o.imm b hb).1,fun⟨id,o,h,_⟩=>by rw [hs.1]at h;cases h⟩,hr.o.cel⟩⟩
 refine⟨hs.1,hs.2.1, ?_⟩
 obtain⟨pre,b⟩:=σ
 cases b
 ·exact⟨key h3.1,h3.2⟩
 ·exact⟨key h3.1,h3.2⟩
theorem SY.region (hT:TabOk P T) (hY:YOk P l I ys J Jx) {i:Nat} {ops:Array Oper} {Q:Exit→St→Sg m→Prop} {σ:Sg m} (hd:ops.toList.all (dstOk1 n)=true) (h:aopsY P T l ys (Q .normal) ops.toList s σ):SY P n I J Jx (.region i ops false) Q s σ:=fun a w hr hn=>
 wpIn_region_list (aopsY_sound hT hY ops ops.toList (fun o ho=>List.all_eq_true.1 hd o ho) h hr hn fun s' σ' a' w' h1 h2 h3=>⟨s',σ',h1,h2,h3⟩)
theorem SY.seq {x y:Code} {Q:Exit→St→Sg m→Prop} {σ:Sg m} (h:SY P n I J Jx x (fun e s σ=>match e with| .normal=>SY P n I J Jx y Q s σ|e=>Q e s σ) s σ):SY P n I J Jx (.seq x y) Q s σ:=fun a w hr hn=>by
 refine wpIn_seq (wpIn_mono (h a w hr hn) fun e a' w' ⟨s',σ',h1,h2,h3⟩=> ?_)
 cases e with
 |normal=>exact h1 a' w' h2 h3
 |_=>exact⟨s',σ',h1,h2,h3⟩
theorem RelY.ev {σ:Sg m} (h:RelY I J Jx s σ a w) {c:Operand} {b:Bool} (hc:s.ev c= .bool b):a.eval c= .bool b:=by
 obtain⟨h1,h2,h3⟩:=h
 obtain⟨pre,b'⟩:=σ
 cases b'
 ·have:=h3.1.ev c;rw [hc]at this;exact this.bool_inv
 ·have:=h3.1.ev c;rw [hc]at this;exact this.bool_inv
theorem SY.cond {c:Operand} {x y:Code} {b:Bool} {Q:Exit→St→Sg m→Prop} {σ:Sg m} (hc:s.ev c= .bool b) (h1:b=true→SY P n I J Jx x Q s σ) (h2:b=false→SY P n I J Jx y Q s σ):SY P n I J Jx (.cond c x y) Q s σ:=fun a w hr hn=>by
 refine wpIn_cond (hr.ev hc) ?_
 cases b with
 |true=>exact h1 rfl a w hr hn
 |false=>exact h2 rfl a w hr hn
theorem SY.skip {Q:Exit→St→Sg m→Prop} {σ:Sg m} (h:Q .normal s σ):SY P n I J Jx .skip Q s σ:=fun a w hr hn=>wpIn_skip ⟨s,σ,h,hr,hn⟩
theorem SY.ret {Q:Exit→St→Sg m→Prop} {σ:Sg m} (h:Q .ret s σ):SY P n I J Jx .ret Q s σ:=fun a w hr hn=>wpIn_ret ⟨s,σ,h,hr,hn⟩
theorem SY.exit {i:Nat} {Q:Exit→St→Sg m→Prop} {σ:Sg m} (h:Q (.exit i) s σ):SY P n I J Jx (.exit i) Q s σ:=fun a w hr hn=>wpIn_exit ⟨s,σ,h,hr,hn⟩
theorem SY.block {i:Nat} {c:Code} {Q:Exit→St→Sg m→Prop} {σ:Sg m} (h:SY P n I J Jx c (fun e s σ=>match e with| .exit j=>if j=i then Q .normal s σ else Q (.exit j) s σ|e=>Q e s σ) s σ):SY P n I J Jx (.block i c) Q s σ:=fun a w hr hn=>by
 refine wpIn_block (wpIn_mono (h a w hr hn) fun e a' w' ⟨s',σ',h1,h2,h3⟩=> ?_)
 cases e with
 |exit j=>
  simp only [Exit.inBlock]
  dsimp only at h1
  split
  ·rename_i hj;rw [if_pos hj]at h1;exact⟨s',σ',h1,h2,h3⟩
  ·rename_i hj;rw [if_neg hj]at h1;exact⟨s',σ',h1,h2,h3⟩
 |_=>exact⟨s',σ',h1,h2,h3⟩
theorem SY.loop {c:Code} {Q:Exit→St→Sg m→Prop} {σ:Sg m} (k:Nat) (S:Nat→St) (G':Nat→Sg m) (i0:Nat) (h0:∀a w,RelY I J Jx s σ a w→RelY I J Jx (S i0) (G' i0) a w) (hi0:i0≤k)
 (hround:∀i,i≤k→SY P n I J Jx c (fun e s' σ'=>match e with| .normal=>i<k∧σ'=G' (i+1)∧(S (i+1)).os=[]∧(S (i+1)).nx=0∧subT s'.tm (S (i+1)).tm|e=>Q e s' σ') (S i) (G' i)):SY P n I J Jx (.loop c) Q s σ:=by
 have key:∀(j i:Nat) (a:Act) (w:World),i≤k→k - i=j→RelY I J Jx (S i) (G' i) a w→a.tmps.size=n→
  Code.roundsIn Fence.wide 4 P c (fun e a' w'=>∃s' σ',Q e s' σ'∧RelY I J Jx s' σ' a' w'∧a'.tmps.size=n) (j+1) a w:=by
  intro j
  induction j with
  |zero=>
   intro i a w hi hj hr hn
   refine wpIn_mono (hround i hi a w hr hn) fun e a' w' ⟨s',σ',h1,h2,h3⟩=> ?_
   cases e with
   |normal=>have:=h1.1;omega
   |_=>exact⟨s',σ',h1,h2,h3⟩
  |succ j ih=>
   intro i a w hi hj hr hn
   refine wpIn_mono (hround i hi a w hr hn) fun e a' w' ⟨s',σ',h1,h2,h3⟩=> ?_
   cases e with
   |normal=>
    obtain⟨h4,rfl,h5,h6,h7⟩:=h1
    exact ih (i+1) a' w' h4 (by omega) (h2.sub ⟨h5,h6,h7⟩) h3
   |_=>exact⟨s',σ',h1,h2,h3⟩
 exact fun a w hr hn=>wpIn_loop_rounds (k - i0+1) (key (k - i0) i0 a w hi0 rfl (h0 a w hr) hn)
end
open Go
section
variable {P:Program} {T:Tab} {g:G} {s s':St} {a:Act} {w w':World} {n l m:Nat}
theorem IterOk.of {gf:FuncId} {fn:Func} {c:Code} {caps:List D} {ys:Fin m→List D} {order:List (Fin m)}
 (hf:P.funcs[gf]? =some fn) (hname:(fn.name== "runtime.NumGoroutine")=false) (hb:fn.body=some c) (hn:fn.ntmps=n) (hl:caps.length+1≤n) (hrs:fn.results.toList=[])
 (h:∀(l:Nat) (I:Nat→Prop) (J Jx:List (Fin m)→World→Prop),YOk P l I ys J Jx→
  SY P n I J Jx c (fun e _ σ=>(e= .normal∨e= .ret)∧((σ.2=true∧σ.1=order)∨(σ.2=false∧σ.1<+:order))) ⟨prm 0 (.fn (.yield l) [] []::caps),[],0⟩ ([],true)):IterOk P gf caps ys order:=by
 refine⟨Go.Proofs.enters_of hf hname hb,fun I w lb hI hsz hv=> ?_⟩
 ·intro l J Jx W hbel hJ hJx hround h0
  refine callsIn_of_wp hf hb trivial ?_
  subst hn
  have hY:YOk P l I ys J Jx:=
   ⟨hround,hJ,hJx⟩
  have hcel:Cels I W:=hI.same fun b hb=>hbel.block b (hI b hb).lt
  have hk:Keeps I w W:=fun b hb=>hbel.block b (hI b hb).lt
  have hr:Rel [] (G0 I) ⟨prm 0 (.fn (.yield l) [] []::caps),[],0⟩ {tmps:=(#[Value.func (.yield l) #[] #[]]++lb)++Array.replicate (fn.ntmps - (#[Value.func (.yield l) #[] #[]]++lb).size) undef,defers:=[]} W:=by
   refine⟨fun t d ht=> ?_,rfl,(RelO.none I W hcel).tm⟩
   obtain⟨_,h2⟩:=lk_prm _ 0 t d ht
   rw [Nat.sub_zero]at h2
   have hs:(#[Value.func (.yield l) #[] #[]]++lb).size=caps.length+1:=by simp [hsz];omega
   have ht:t<(#[Value.func (.yield l) #[] #[]]++lb).size:=by
    rw [hs]
    have:=(List.getElem?_eq_some_iff.1 h2).1
    simpa using this
   refine⟨(#[Value.func (.yield l) #[] #[]]++lb)[t],by rw [Array.getElem?_append_left ht,Array.getElem?_eq_getElem ht], ?_⟩
   cases t with
   |zero=>
    simp at h2
    subst h2
    simp
    exact .fn _ _ _ _ _ rfl rfl (fun i v d h=>by simp at h) (fun i v d h=>by simp at h)
   |succ t=>
    have h3:caps[t]? =some d:=by simpa using h2
    have h4:lb[t]? =some (#[Value.func (.yield l) #[] #[]]++lb)[t+1]:=by
     rw [Array.getElem_append_right (by simp)]
     simp
    exact(hv t _ d h4 h3).mono hk (.refl _)
  refine wpIn_mono (h l I J Jx hY _ W ⟨rfl,rfl,hr,h0⟩ (by simp [hsz];omega)) ?_
  rintro e a' w' ⟨s',σ',⟨h1,h2⟩,h3,h4⟩
  have fin:a'.defers=[]∧∃v,(results fn a'.tmps).run P w'= .ok v w'∧((∃u,Ending.returned v= .returned u)∧((∃xs,xs=order∧J xs w')∨(∃pre,pre<+:order∧Jx pre w'))):=by
   obtain⟨h5,h6,h7⟩:=h3
   obtain⟨pre,b⟩:=σ'
   cases b
   ·obtain⟨h8,h9⟩:=h7
    obtain⟨v,h10,_⟩:=rdD_sound h8 fn hrs (d:= .tup []) rfl
    refine⟨h8.defers,v,h10,⟨v,rfl⟩, .inr ⟨pre, ?_,h9⟩⟩
    rcases h2 with⟨h,_⟩|⟨_,h⟩
    ·cases h
    ·exact h
   ·obtain⟨h8,h9⟩:=h7
    obtain⟨v,h10,_⟩:=rdD_sound h8 fn hrs (d:= .tup []) rfl
    refine⟨h8.defers,v,h10,⟨v,rfl⟩, .inl ⟨pre, ?_,h9⟩⟩
    rcases h2 with⟨_,h⟩|⟨h,_⟩
    ·exact h
    ·cases h
  rcases h1 with rfl|rfl
  ·exact fin
  ·exact fin
end
open Go Go.Proofs Go.Shelf Go.RowKit Go.Lib Go.Sort
section
variable {P:Program} {ρ:Ren} {w w':World}
theorem ext_grow (h:Ext w w'):∃q os',w'=Sort.grow (w.drewN q) os':=by
 refine⟨w'.drawn - w.drawn,w'.heap.extract w.heap.size w'.heap.size, ?_⟩
 obtain⟨h1,h2,h3⟩:=h
 have e1:w'.heap=w.heap++w'.heap.extract w.heap.size w'.heap.size:=by
  apply Array.ext_getElem?
  intro i
  rw [Array.getElem?_append]
  split
  ·rename_i hi;exact h2 i hi
  ·rename_i hi
   rw [Array.getElem?_extract]
   by_cases hi2:i<w'.heap.size
   ·rw [if_pos (by omega),show w.heap.size+(i - w.heap.size)=i by omega]
   ·rw [if_neg (by omega),Array.getElem?_eq_none (by omega)]
 have e2:w'.drawn=w.drawn+(w'.drawn - w.drawn):=by have:=h3.drw;omega
 obtain⟨a1,a2,a3,a4,a5⟩:=w'
 obtain⟨b1,b2,b3,b4,b5⟩:=w
 have h31:=h3.os
 have h32:=h3.out
 have h33:=h3.tape
 simp only at e1 e2 h31 h32 h33
 subst h31;subst h32;subst h33
 simp only [Sort.grow,World.drewN,World.mk.injEq,and_self,and_true,true_and]
 exact⟨e1,e2⟩
theorem putCells_get {off:Nat} {F cells:Array Value} {t:Nat} (ht:t<cells.size):(putCells id off F cells)[t]? =if off≤t∧t<off+F.size then some F[t - off]! else cells[t]? :=by
 unfold putCells
 rw [Array.getElem?_mapIdx,Array.getElem?_eq_getElem ht]
 simp only [Option.map_some,id]
 split<;>rfl
theorem sw_heap {enc:Nat→List Value} {k blk off m:Nat} {dk:Array Nat} {os:Array Obj} {cells:Array Value} {e:TypeId} {fz:Nat×Nat} (hb:w.heap[blk]? =some (.cells cells e fz)) {j:Nat} (hj:j<w.heap.size):
 (sortWorldK enc k w blk off m dk os).heap[j]? =if j=blk then some (.cells (putCells id off (flatK enc k dk) cells) e fz)else w.heap[j]? :=by
 unfold sortWorldK putRowK putRow mapBlock Sort.grow Sort.ahead
 have hs:(w.heap.modify blk (onCells (putCells id off (flatK enc k dk)))).size=w.heap.size:=by simp
 simp only
 rw [Array.getElem?_append_left (by rw [hs];exact hj),Array.getElem?_modify]
 by_cases h:j=blk
 ·subst h
  rw [if_pos rfl,if_pos rfl,hb];rfl
 ·rw [if_neg (fun e=>h e.symm),if_neg h]
theorem sw_size {enc:Nat→List Value} {k blk off m:Nat} {dk:Array Nat} {os:Array Obj}:w.heap.size≤(sortWorldK enc k w blk off m dk os).heap.size:=by
 unfold sortWorldK putRowK putRow mapBlock Sort.grow Sort.ahead
 simp
theorem sw_env {enc:Nat→List Value} {k blk off m:Nat} {dk:Array Nat} {os:Array Obj}:Env w (sortWorldK enc k w blk off m dk os):=⟨rfl,rfl,rfl,Nat.le_add_right _ _⟩
theorem ACall.sort (L:SlLaysF0.n6 P ρ) {k:Nat} (hk0:0<k) (aE:∀w,(isAgg (ρ.t 24)).run P w= .ok true w) (zE:∀w,(Go.sizeOf (ρ.t 24)).run P w= .ok k w)
 {f g:FuncId} (hf:ρ.f 6=f) {cf:List C→List C→Int} {id e nx n:Nat} {h0:Bool} {els:List (List C)} {os:List (Nat×Ob)} {Q:D→List (Nat×Ob)→Nat→Prop}
 (hi:lk id os=some (.vec h0 k e els)) (hn:n=els.length) (hsz:n<4611686018427387904)
 (hcmp:∀x∈els,∀y∈els,PureFn P g [.agg (x.map .c), .agg (y.map .c)] (.int .i64 (cf x y)))
 (h1:∀x∈els,¬cf x x<0) (h2:∀x∈els,∀y∈els,∀z∈els,cf x y<0→cf y z<0→cf x z<0) (h3:∀x∈els,∀y∈els,∀z∈els,¬cf x y<0→¬cf y z<0→¬cf x z<0)
 (hQ:∀els':List (List C),List.Perm els' els→els'.Pairwise (fun x y=>¬cf y x<0)→Q (.tup []) (upd id (.vec h0 k e els') os) nx):ACall P f [.vec id n, .fn (.func g) [] []] os nx Q:=by
 subst hf
 refine⟨?_,fun g0 w vs ho hsv hv=> ?_⟩
 ·obtain⟨nm,hnm,hfn⟩:=L.f6
  exact⟨_,hfn,hnm,rfl⟩
 have hlen:vs.size=2:=hsv
 have hv0:=hv 0 vs[0] _ (Array.getElem?_eq_getElem (by omega)) rfl
 have hv1:=hv 1 vs[1] _ (Array.getElem?_eq_getElem (by omega)) rfl
 have hvs:vs= #[vs[0],vs[1]]:=by
  apply Array.ext
  ·simpa using hlen
  ·intro i hi1 hi2
   have:i=0∨i=1:=by omega
   rcases this with rfl|rfl<;>rfl
 have hfn:vs[1]= .func (.func g) #[] #[]:=by
  generalize vs[1]=u at hv1
  cases hv1 with
  |fn _ fi ca _ _ hs1 hs2=>
   have e1:fi= #[]:=Array.eq_empty_of_size_eq_zero (by simpa using hs1)
   have e2:ca= #[]:=Array.eq_empty_of_size_eq_zero (by simpa using hs2)
   rw [e1,e2]
 rw [hfn]at hvs
 obtain⟨a,cap,hκ,hle,hcm,hw,hob⟩:=ho.ok id _ hi
 obtain⟨a',cap',hva,hcase⟩:∃a' cap',vs[0]= .slice a' n cap'∧(a'=a∧cap'=cap):=by
  generalize vs[0]=u at hv0
  cases hv0 with
  |vec a' cap' _ _ a0 len cap0 hk hle' hm ha hvq=>
   rw [hκ]at hk
   cases hk
   exact⟨a',cap',rfl,hvq hn⟩
 obtain⟨rfl,rfl⟩:=hcase
 rw [hva]at hvs
 clear hv0 hv1 hv hva hfn
 subst hvs
 have hrt:∀g' w',VRel g' w' (.tuple #[]) (.tup []):=fun g' w'=> .tup #[] [] rfl (fun i v d hv=>by simp at hv)
 by_cases hn0:n=0
 ·have hels:els=[]:=List.eq_nil_of_length_eq_zero (by omega)
  have hcon:=AnyF.slices_SortFunc_none L a' cap' (.func (.func g) #[] #[]) w
  subst hn0
  refine hcon.mono ?_
  rintro ex w' ⟨rfl,rfl⟩
  subst hels
  have hq:=hQ [] (.refl _) .nil
  obtain⟨hr1,hr2⟩:=ho.replace hi (.vec h0 k e []) [] (.refl g0) (fun _ h=>h) (fun _ _=>rfl) (fun _ _=>rfl) (Nat.le_refl _) (fun _ _ _=>rfl) (ho.ok id _ hi) (fun b hb=> .inl hb)
  exact⟨_,_,g0,_,nx,rfl,hq,hr1,hrt _ _,hr2⟩
 rcases hob with⟨_,hc0⟩|⟨b,off,cells,vals,rfl,hblk,hsz2,⟨hhd,hone⟩,hcell⟩
 ·omega
 have hlt:b<w.heap.size:=(Array.getElem?_eq_some_iff.1 hblk).1
 let ix:Nat→Nat:=fun i=>if i<n then i else 0
 have hix:∀i,ix i<n:=fun i=>by show(if i<n then i else 0)<n;split<;>omega
 let E:Nat→List C:=fun i=>els.getD (ix i) []
 have hE:∀i,E i∈els:=fun i=>by
  have h4:ix i<els.length:=by rw [←hn];exact hix i
  show els.getD (ix i) []∈els
  rw [List.getD_eq_getElem?_getD,List.getElem?_eq_getElem h4]
  exact List.getElem_mem h4
 have hE2:∀i,els[ix i]? =some (E i):=fun i=>by
  have h4:ix i<els.length:=by rw [←hn];exact hix i
  show els[ix i]? =some (els.getD (ix i) [])
  rw [List.getD_eq_getElem?_getD,List.getElem?_eq_getElem h4];rfl
 let enc:Nat→List Value:=fun i=>(List.range k).map (vals (ix i))
 have henc:∀x,(enc x).length=k:=fun x=>by simp [enc]
 have hcl:∀i j,j<k→∃y,(E i)[j]? =some y∧cells[off+ix i*k+j]? =some (vals (ix i) j)∧CRel g0.I w (vals (ix i) j) y:=fun i j hj=>by
  have hwd:(E i).length=k:=hw _ (hE i)
  have h4:(E i)[j]? =some ((E i)[j]'(by omega)):=List.getElem?_eq_getElem (by omega)
  exact⟨_,h4,hcell (ix i) j _ _ (hE2 i) h4⟩
 have hO:SWO (ltOf fun i j=>cf (E i) (E j)):=by
  refine⟨fun x=> ?_,fun x y z hx hy=> ?_,fun x y z hx hy=> ?_⟩
  ·unfold ltOf;exact decide_eq_false (h1 _ (hE x))
  ·unfold ltOf at*
   exact decide_eq_true (h2 _ (hE x) _ (hE y) _ (hE z) (of_decide_eq_true hx) (of_decide_eq_true hy))
  ·unfold ltOf at*
   exact decide_eq_false (h3 _ (hE x) _ (hE y) _ (hE z) (of_decide_eq_false hx) (of_decide_eq_false hy))
 have hmem0:E 0∈els:=hE 0
 have eg:∀args w,(callFunc g args).run P w= .ok (.enter g args) w:=by
  obtain⟨⟨fn,h4,h5,h6⟩,_⟩:=hcmp _ hmem0 _ hmem0
  cases hb:fn.body with
  |none=>rw [hb]at h6;cases h6
  |some c=>exact enters_of h4 h5 hb
 have hIb:∀b',g0.I b'→b'<w.heap.size∧b'≠b:=fun b' hb'=>⟨(ho.imm b' hb').1,fun e=>(ho.imm b' hb').2 ⟨id,_,hi,by rw [e];simp [G.blk,hκ]⟩⟩
 have hkeep:∀(m:Nat) (dk:Array Nat) (os':Array Obj),Keeps g0.I w (sortWorldK enc k w b off m dk os'):=fun m dk os' b' hb'=>by
  rw [sw_heap hblk (hIb b' hb').1,if_neg (hIb b' hb').2]
 have hcl2:CmpLays P g #[] enc k (fun i j=>cf (E i) (E j)) b off n w:=by
  intro m os' dk hdk x y
  have harg:∀(i:Nat) (v:Value) (d:D),(#[Value.agg (enc x).toArray, .agg (enc y).toArray]:Array Value)[i]? =some v→[D.agg ((E x).map .c), .agg ((E y).map .c)][i]? =some d→VRel (G0 g0.I) (sortWorldK enc k w b off m dk os') v d:=by
   have one:∀x,VRel (G0 g0.I) (sortWorldK enc k w b off m dk os') (.agg (enc x).toArray) (.agg ((E x).map .c)):=fun x=>by
    have hwd:(E x).length=k:=hw _ (hE x)
    refine .agg _ _ (by simp [henc,hwd]) fun i v d hv hd=> ?_
    simp only [List.getElem?_toArray,enc,List.getElem?_map]at hv
    have hik:i<k:=by
     rcases Nat.lt_or_ge i k with h|h
     ·exact h
     ·rw [List.getElem?_eq_none (by simpa using h)]at hv;cases hv
    rw [List.getElem?_range hik]at hv
    simp only [Option.map_some,Option.some.injEq]at hv
    obtain⟨z,h4,h5,h6⟩:=hcl x i hik
    rw [List.getElem?_map,h4]at hd
    simp only [Option.map_some,Option.some.injEq]at hd
    subst hv;subst hd
    exact .c _ _ (h6.mono (hkeep m dk os') fun b hb=>hb)
   intro i v d hv hd
   have:i=0∨i=1∨2≤i:=by omega
   rcases this with rfl|rfl|h
   ·simp at hv hd;subst hv;subst hd;exact one x
   ·simp at hv hd;subst hv;subst hd;exact one y
   ·rw [List.getElem?_eq_none (by simpa using h)]at hd;cases hd
  have hc:=(hcmp _ (hE x) _ (hE y)).2 g0.I (sortWorldK enc k w b off m dk os') #[.agg (enc x).toArray, .agg (enc y).toArray] (ho.cel.same fun b' hb'=>hkeep m dk os' b' hb') rfl harg
  refine hc.mono ?_
  rintro ex w' ⟨v,I',rfl,hvr,hext,_⟩
  have:=hvr.int_inv
  subst this
  exact⟨rfl,ext_grow hext⟩
 have hflat:∀(d:Array Nat) (t:Nat),t<d.size*k→(flatK enc k d)[t]! =vals (ix d[t / k]!) (t % k):=fun d t ht=>by
  rw [get_flatK _ _ _ _ ht]
  have:t % k<k:=Nat.mod_lt _ hk0
  simp [enc,this]
 have hH:HoldsK enc k w b off (Array.range n):=by
  intro t ht
  simp only [size_flatK,Array.size_range]at ht
  have h4:t / k<n:=(Nat.div_lt_iff_lt_mul hk0).2 ht
  rw [hflat _ _ (by simpa using ht)]
  have h5:(Array.range n)[t / k]! =t / k:=by simp [h4]
  rw [h5]
  have h6:ix (t / k)=t / k:=by show(if t / k<n then t / k else 0)=t / k;rw [if_pos h4]
  obtain⟨y,h7,h8,h9⟩:=hcl (t / k) (t % k) (Nat.mod_lt _ hk0)
  rw [h6,show off+t / k*k+t % k=off+t by rw [Nat.add_assoc,Nat.div_add_mod']]at h8
  rw [h6]
  refine⟨by simp only [World.cell?,hblk];simpa using h8,by simp [World.frozen?,hblk]⟩
 have hcon:=AnyQ.slices_SortFunc L k aE zE enc henc (fun x v hv=>by
  simp only [enc,List.mem_map,List.mem_range]at hv
  obtain⟨j,hj,rfl⟩:=hv
  obtain⟨y,h7,h8,h9⟩:=hcl x j hj
  exact hone _ (Array.mem_toList_iff.2 (Array.mem_of_getElem? h8))) (fun i j=>cf (E i) (E j)) hO g #[] b off cap' (Array.range n) w eg (by simpa using hcl2) hH hlt (by simpa using hsz)
 rw [Array.size_range]at hcon
 refine hcon.mono ?_
 rintro ex w' ⟨rfl,d',m,os',⟨hp1,_,hp2⟩,hso,rfl⟩
 rw [Array.size_range]at hp1
 have hperm:d'.toList.Perm (List.range n):=by
  have e1:d'.extract 0 n=d':=by rw [←hp1,Array.extract_size]
  have e2:(Array.range n).extract 0 n=Array.range n:=by
   have:(Array.range n).size=n:=Array.size_range
   conv=>lhs;arg 3;rw [←this]
   exact Array.extract_size
  rw [e1,e2,Array.toList_range]at hp2
  exact hp2
 have hEr:(List.range n).map E=els:=by
  apply List.ext_getElem?
  intro i
  rw [List.getElem?_map]
  by_cases hin:i<n
  ·rw [List.getElem?_range hin,Option.map_some,←hE2 i]
   show els[ix i]? =_
   have:ix i=i:=by show(if i<n then i else 0)=i;rw [if_pos hin]
   rw [this]
  ·rw [List.getElem?_eq_none (by simpa using hin),List.getElem?_eq_none (by omega)];rfl
 have hpe:(d'.toList.map E).Perm els:=by
  have:=hperm.map E
  rwa [hEr]at this
 have hlen':(d'.toList.map E).length=n:=by rw [hpe.length_eq];exact hn.symm
 have hpw:(d'.toList.map E).Pairwise (fun x y=>¬cf y x<0):=by
  rw [List.pairwise_map,List.pairwise_iff_getElem]
  intro i j hi hj hij
  have hi':i<d'.size:=by simpa using hi
  have hj':j<d'.size:=by simpa using hj
  have:=hso i j (Nat.zero_le _) hij (by omega)
  rw [getElem!_pos d' i hi',getElem!_pos d' j hj']at this
  have:=of_decide_eq_false this
  simpa using this
 have hq:=hQ _ hpe hpw
 have hdn:∀i,i<n→d'[i]! <n:=fun i hi=>by
  have hi':i<d'.size:=by omega
  rw [getElem!_pos d' i hi']
  exact List.mem_range.1 (hperm.mem_iff.1 (by simp))
 have hok:OK g0 (sortWorldK enc k w b off m d' os') id (.vec h0 k e (d'.toList.map E)):=by
  refine⟨some ⟨b,off,none⟩,cap',by rw [hlen',hn];exact hκ,by omega,hcm,fun x hx=>hw x (hpe.mem_iff.1 hx), .inr ⟨b,off,putCells _root_.id off (flatK enc k d') cells,fun i j=>vals (ix d'[i]!) j,rfl,by rw [sw_heap hblk hlt,if_pos rfl], ?_,⟨?_, ?_⟩, ?_⟩⟩
  ·simpa [putCells]using hsz2
  ·intro h
   have:=hhd h
   simpa [putCells]using this
  ·intro v hv
   rw [Array.mem_toList_iff]at hv
   obtain⟨t,ht,htv⟩:=Array.mem_iff_getElem.1 hv
   have ht':t<cells.size:=by simpa [putCells]using ht
   have h4:=putCells_get (off:=off) (F:=flatK enc k d') ht'
   rw [Array.getElem?_eq_getElem ht,htv]at h4
   split at h4
   ·rename_i h5
    simp only [Option.some.injEq]at h4
    rw [size_flatK]at h5
    rw [h4,hflat _ _ (by omega)]
    obtain⟨y,h7,h8,h9⟩:=hcl (d'[(t - off) / k]!) ((t - off) % k) (Nat.mod_lt _ hk0)
    exact hone _ (Array.mem_toList_iff.2 (Array.mem_of_getElem? h8))
   ·exact hone _ (Array.mem_toList_iff.2 (Array.mem_of_getElem? h4.symm))
  ·intro i j x y hx hy
   rw [List.getElem?_map]at hx
   have hin:i<n:=by
    rcases Nat.lt_or_ge i n with h|h
    ·exact h
    ·rw [List.getElem?_eq_none (by simp;omega)]at hx;cases hx
   have hi':i<d'.size:=by omega
   have h4:d'.toList[i]? =some d'[i]! :=by rw [getElem!_pos d' i hi',Array.getElem?_toList,Array.getElem?_eq_getElem hi']
   rw [h4]at hx
   simp only [Option.map_some,Option.some.injEq]at hx
   subst hx
   have hjk:j<k:=by
    have hwd:=hw _ (hE d'[i]!)
    have:=(List.getElem?_eq_some_iff.1 hy).1
    omega
   obtain⟨z,h7,h8,h9⟩:=hcl d'[i]! j hjk
   rw [h7]at hy
   cases hy
   have hb1:i*k+j<n*k:=by
    have:=Nat.mul_le_mul_right k (show i+1≤n from hin)
    rw [Nat.add_mul,Nat.one_mul]at this;omega
   have hb2:n*k≤cap'*k:=Nat.mul_le_mul_right k (by omega)
   have h10:off+i*k+j<cells.size:=by omega
   rw [putCells_get h10,if_pos ⟨by omega,by rw [size_flatK,hp1];omega⟩,show off+i*k+j - off=i*k+j by omega,hflat _ _ (by rw [hp1];exact hb1)]
   have e1:(i*k+j) / k=i:=by rw [Nat.add_comm,Nat.add_mul_div_right _ _ hk0,Nat.div_eq_of_lt hjk,Nat.zero_add]
   have e2:(i*k+j) % k=j:=by rw [Nat.add_comm,Nat.add_mul_mod_self_right,Nat.mod_eq_of_lt hjk]
   rw [e1,e2]
   exact⟨rfl,h9.mono (hkeep m d' os') fun b hb=>hb⟩
 obtain⟨hr1,hr2⟩:=ho.replace hi (.vec h0 k e (d'.toList.map E)) [] (.refl g0) (fun _ h=>h) (fun _ _=>rfl) (fun _ _=>rfl) sw_size (fun b' hb' hne=>by
  rw [sw_heap hblk hb',if_neg fun e=>hne (by rw [e];simp [G.blk,hκ])]) hok (fun b' hb'=> .inl (by simpa [G.blk,hκ]using hb')) sw_env
 exact⟨_,_,g0,_,nx,rfl,hq,hr1,hrt _ _,hr2⟩
end
open Go
def fzB (o:Option Ob) (id n t:Nat) (s:St) (K:St→Prop):Prop:=match o with
 |some (.vec _ _ _ els)=>n=els.length∧K ⟨upd t (.c (.sl els)) s.tm,rmv s.os [id],s.nx⟩
 |_=>False
def fzA (x:Option D) (t:Nat) (s:St) (K:St→Prop):Prop:=match x with
 |some (.vec id n)=>fzB (lk id s.os) id n t s K
 |some _=>K s
 |none=>False
def fzK:List Nat→St→(St→Prop)→Prop
 |[],s,K=>K s
 |t::l,s,K=>fzA (lk t s.tm) t s (fun s=>fzK l s K)
section
variable {δ:List Deferred} {P:Program} {g g':G} {s s':St} {a:Act} {w w':World} {n N:Nat} {K:St→Prop}
@[congr] theorem fzA_congr {x x':Option D} {t:Nat} (h:x=x'):fzA x t s K=fzA x' t s K:=by rw [h]
@[congr] theorem fzB_congr {x x':Option Ob} {id n t:Nat} (h:x=x'):fzB x id n t s K=fzB x' id n t s K:=by rw [h]
@[congr] theorem fzK_congr {l:List Nat} (h:s=s'):fzK l s K=fzK l s' K:=by rw [h]
@[go_sem] theorem fzK_nil:fzK [] s K=K s:=rfl
@[go_sem] theorem fzK_cons {t:Nat} {l:List Nat}:fzK (t::l) s K=fzA (lk t s.tm) t s (fun s=>fzK l s K):=rfl
@[go_sem] theorem fzA_vec {id m t:Nat}:fzA (some (.vec id m)) t s K=fzB (lk id s.os) id m t s K:=rfl
@[go_sem] theorem fzA_c {x:C} {t:Nat}:fzA (some (.c x)) t s K=K s:=rfl
@[go_sem] theorem fzA_nil {t:Nat}:fzA (some .nil) t s K=K s:=rfl
@[go_sem] theorem fzB_vec {id m t:Nat} {hd:Bool} {z:Nat} {e:TypeId} {els:List (List C)}:fzB (some (.vec hd z e els)) id m t s K=(m=els.length∧K ⟨upd t (.c (.sl els)) s.tm,rmv s.os [id],s.nx⟩):=rfl
def lpF {ι:Type} (fz:List Nat) (N:Nat) (S:ι→St) (μ:ι→Nat) (m:Nat) (Q:Exit→St→Prop):Exit→St→Prop
 | .normal,s=>fzK fz s fun s=>∃i,μ i<m∧Sub N s (S i)
 |e,s=>Q e s
variable {Q:Exit→St→Prop}
@[congr] theorem lpF_congr {ι:Type} {fz:List Nat} {S:ι→St} {μ:ι→Nat} {m:Nat} {e:Exit} (h':s=s'):lpF fz N S μ m Q e s=lpF fz N S μ m Q e s':=by rw [h']
@[go_sem] theorem lpF_n {ι:Type} {fz:List Nat} {S:ι→St} {μ:ι→Nat} {m:Nat}:lpF fz N S μ m Q .normal s=fzK fz s fun s=>∃i,μ i<m∧Sub N s (S i):=rfl
@[go_sem] theorem lpF_r {ι:Type} {fz:List Nat} {S:ι→St} {μ:ι→Nat} {m:Nat}:lpF fz N S μ m Q .ret s=Q .ret s:=rfl
@[go_sem] theorem lpF_e {ι:Type} {fz:List Nat} {S:ι→St} {μ:ι→Nat} {m i:Nat}:lpF fz N S μ m Q (.exit i) s=Q (.exit i) s:=rfl
end
open Go
def TypFs (T:TypeId→List C→Prop):List Field→List C→Prop
 |[],xs=>xs=[]
 |f::r,xs=>∃ys zs,xs=ys++zs∧T f.type ys∧TypFs T r zs
def TypR (T:List C→Prop):Nat→List C→Prop
 |0,xs=>xs=[]
 |n+1,xs=>∃ys zs,xs=ys++zs∧T ys∧TypR T n zs
def Typ (P:Program):Nat→TypeId→List C→Prop
 |0,_,_=>False
 |k+1,t,xs=>match P.underlying t with
  |some .bool=>∃b,xs=[.bool b]
  |some (.int kd)=>∃n,xs=[.int kd n]∧(Lit.int kd n).wf=true
  |some (.float kd)=>∃n,xs=[.flt kd (flo kd n)]∧(Lit.float kd n).wf=true
  |some .string=>∃s,xs=[.str s]∧s.size≤maxLen
  |some (.slice e)=>∃els,xs=[.sl els]∧els.length≤maxLen∧∀x∈els,Typ P k e x
  |some (.struct fs)=>TypFs (Typ P k) fs.toList xs
  |some (.array n e)=>TypR (Typ P k e) n xs
  |_=>False
def plainFs (P:Program) (ok:TypeId→Bool):Nat→List Field→Option Nat
 |o,[]=>some o
 |o,f::r=>if f.offset=o∧ok f.type=true then plainFs P ok (o+P.cellsOf f.type) r else none
def plain (P:Program):Nat→TypeId→Bool
 |0,_=>false
 |k+1,t=>match P.underlying t with
  |some .bool=>true
  |some (.int _)=>true
  |some (.float _)=>true
  |some .string=>true
  |some (.slice e)=>plain P k e&&P.cellsOf e != 0
  |some (.struct fs)=>plainFs P (plain P k) 0 fs.toList==some (P.cellsOf t)
  |some (.array n e)=>plain P k e&&n*P.cellsOf e==P.cellsOf t
  |_=>false
section
variable {H:Type} {enc:TypeId×Value→H} {P:Program} {w:World} {spare:Nat→Bool} {held:Bool}
def below (w:World) (b:Nat):Prop:=Cel w b
def Reads (w:World) (cs:List Value) (xs:List C):Prop:=xs.length=cs.length∧∀(i:Nat) (v:Value) (y:C),cs[i]? =some v→xs[i]? =some y→CRel (below w) w v y
theorem Reads.one {v:Value} {y:C} (h:CRel (below w) w v y):Reads w [v] [y]:=⟨rfl,fun i u z hu hz=>by
 cases i with
 |zero=>simp at hu hz;subst hu;subst hz;exact h
 |succ i=>simp at hu⟩
theorem Reads.app {cs ds:List Value} {xs ys:List C} (h:Reads w cs xs) (h':Reads w ds ys):Reads w (cs++ds) (xs++ys):=by
 refine⟨by simp [h.1,h'.1],fun i v y hv hy=> ?_⟩
 rw [List.getElem?_append]at hv hy
 rw [h.1]at hy
 split at hv
 ·rename_i hlt;rw [if_pos hlt]at hy;exact h.2 i v y hv hy
 ·rename_i hlt;rw [if_neg hlt]at hy;exact h'.2 _ v y hv hy
theorem mapM_cons_some {α β:Type} {f:α→Option β} {a:α} {l:List α} {r:List β} (h:(a::l).mapM f=some r):∃b bs,f a=some b∧l.mapM f=some bs∧r=b::bs:=by
 rw [List.mapM_cons]at h
 cases hf:f a with
 |none=>simp [hf]at h
 |some b=>
  cases hl:l.mapM f with
  |none=>simp [hf,hl]at h
  |some bs=>simp [hf,hl]at h;exact⟨b,bs,rfl,rfl,h.symm⟩
theorem plainFs_le {ok:TypeId→Bool}:∀{fs:List Field} {o e:Nat},plainFs P ok o fs=some e→o≤e
 |[],o,e,h=>by simp only [plainFs,Option.some.injEq]at h;omega
 |f::r,o,e,h=>by
  simp only [plainFs]at h
  split at h
  ·have:=plainFs_le h;omega
  ·cases h
theorem fields_conv {k fuel:Nat} {cs:List Value} (IH:∀(t:TypeId) (cs:List Value) (x:DataW H×List MemPlace),DataW.trod enc P w 0 spare held fuel t cs=some x→plain P k t=true→∃xs,Typ P k t xs∧Reads w cs xs):
 ∀(fs:List Field) (o:Nat) (ys:List (DataW H×List MemPlace)),plainFs P (plain P k) o fs=some cs.length→fs.mapM (fun f=>DataW.trod enc P w 0 spare held fuel f.type ((cs.drop f.offset).take (P.cellsOf f.type)))=some ys→
  ∃xs,TypFs (Typ P k) fs xs∧Reads w (cs.drop o) xs
 |[],o,ys,h,_=>by
  simp only [plainFs,Option.some.injEq]at h
  exact⟨[],rfl,by simp [Reads,h]⟩
 |f::r,o,ys,h,hm=>by
  simp only [plainFs]at h
  split at h
  ·rename_i hc
   obtain⟨hc1,hc2⟩:=hc
   have hle:=plainFs_le h
   obtain⟨b,bs,h1,h2,_⟩:=mapM_cons_some hm
   obtain⟨xs,h3,h4⟩:=IH _ _ _ h1 hc2
   obtain⟨zs,h5,h6⟩:=fields_conv IH r _ bs h h2
   refine⟨xs++zs,⟨xs,zs,rfl,h3,h5⟩, ?_⟩
   have e:cs.drop o=(cs.drop f.offset).take (P.cellsOf f.type)++cs.drop (o+P.cellsOf f.type):=by
    rw [hc1,←List.drop_drop,List.take_append_drop]
   rw [e]
   exact h4.app h6
  ·cases h
theorem array_conv {k fuel n sz:Nat} {e:TypeId} {cs:List Value} (IH:∀(t:TypeId) (cs:List Value) (x:DataW H×List MemPlace),DataW.trod enc P w 0 spare held fuel t cs=some x→plain P k t=true→∃xs,Typ P k t xs∧Reads w cs xs) (he:plain P k e=true):
 ∀(m j:Nat),j+m=n→n*sz=cs.length→(∀i,i<n→∃x,DataW.trod enc P w 0 spare held fuel e ((cs.drop (i*sz)).take sz)=some x)→∃xs,TypR (Typ P k e) m xs∧Reads w (cs.drop (j*sz)) xs
 |0,j,hj,hn,_=>⟨[],rfl,by
  have:j=n:=by omega
  subst this
  simp [Reads,hn]⟩
 |m+1,j,hj,hn,hall=>by
  obtain⟨x,hx⟩:=hall j (by omega)
  obtain⟨xs,h3,h4⟩:=IH _ _ _ hx he
  obtain⟨zs,h5,h6⟩:=array_conv IH he m (j+1) (by omega) hn hall
  refine⟨xs++zs,⟨xs,zs,rfl,h3,h5⟩, ?_⟩
  have e:cs.drop (j*sz)=(cs.drop (j*sz)).take sz++cs.drop ((j+1)*sz):=by
   rw [Nat.add_mul,Nat.one_mul,←List.drop_drop,List.take_append_drop]
  rw [e]
  exact h4.app h6
theorem mapM_range_get {β:Type} {f:Nat→Option β} {n:Nat} {r:List β} (h:(List.range n).mapM f=some r) (i:Nat) (hi:i<n):∃y,f i=some y∧r[i]? =some y:=by
 have key:∀(l:List Nat) (r:List β),l.mapM f=some r→∀(i x:Nat),l[i]? =some x→∃y,f x=some y∧r[i]? =some y:=by
  intro l
  induction l with
  |nil=>intro r _ i x hx;simp at hx
  |cons a l ih=>
   intro r hr i x hx
   obtain⟨b,bs,h1,h2,rfl⟩:=mapM_cons_some hr
   cases i with
   |zero=>simp at hx;subst hx;exact⟨b,h1,rfl⟩
   |succ i=>exact ih bs h2 i x (by simpa using hx)
 exact key _ _ h i i (by simp [hi])
theorem mapM_len {α β:Type} {f:α→Option β}:∀{l:List α} {r:List β},l.mapM f=some r→r.length=l.length
 |[],r,h=>by simp at h;simp [h]
 |a::l,r,h=>by
  obtain⟨b,bs,_,h2,rfl⟩:=mapM_cons_some h
  simp [mapM_len h2]
theorem trod_conv:∀(fuel k:Nat) (t:TypeId) (cs:List Value) (x:DataW H×List MemPlace),DataW.trod enc P w 0 spare held fuel t cs=some x→plain P k t=true→∃xs,Typ P k t xs∧Reads w cs xs
 |0,k,t,cs,x,h,_=>by simp [DataW.trod]at h
 |fuel+1,0,t,cs,x,h,hp=>by cases hp
 |fuel+1,k+1,t,cs,x,h,hp=>by
  have IH:=fun t cs x=>trod_conv fuel k t cs x
  simp only [plain]at hp
  simp only [Typ]
  unfold DataW.trod at h
  split at h
  ·rename_i b hu;rw [hu];exact⟨[.bool b],⟨b,rfl⟩, .one (.bool b)⟩
  ·rename_i kd k' n hu
   rw [hu]
   split at h
   ·rename_i hc;obtain⟨rfl,hc⟩:=hc
    exact⟨[.int _ n],⟨n,rfl,hc⟩, .one (.int _ n)⟩
   ·cases h
  ·rename_i kd k' n hu
   rw [hu]
   split at h
   ·rename_i hc;obtain⟨rfl,hc⟩:=hc
    exact⟨[.flt _ (flo _ n)],⟨n,rfl,hc⟩, .one (.flt _ n)⟩
   ·cases h
  ·rename_i s hu
   rw [hu]
   split at h
   ·rename_i hc
    exact⟨[.str s],⟨s,rfl,hc⟩, .one (.str s)⟩
   ·cases h
  ·rename_i hu;rw [hu]at hp;cases hp
  ·rename_i hu;rw [hu]at hp;cases hp
  ·rename_i e hu
   rw [hu]
   exact⟨[.sl []],⟨[],rfl,by simp,by simp⟩, .one (.slnil _ _ (by simp [maxLen]))⟩
  ·rename_i e a len cap hu
   rw [hu]at hp⊢
   simp only [Bool.and_eq_true,bne_iff_ne,ne_eq]at hp
   obtain⟨hp1,hp2⟩:=hp
   split at h
   ·rename_i hc
    obtain⟨_,hlc,hcm⟩:=hc
    cases hm:(List.range len).mapM (fun i=>(w.cells? 0 (a.add (i*P.cellsOf e)) (P.cellsOf e)).bind (DataW.trod enc P w 0 spare held fuel e))with
    |none=>dsimp only at h;rw [hm]at h;cases h
    |some elems=>
     have hel:∀i,i<len→∃ci xi,w.cells? 0 (a.add (i*P.cellsOf e)) (P.cellsOf e)=some ci∧Typ P k e xi∧Reads w ci xi:=by
      intro i hi
      obtain⟨y,h1,_⟩:=mapM_range_get hm i hi
      cases hcs:w.cells? 0 (a.add (i*P.cellsOf e)) (P.cellsOf e)with
      |none=>rw [hcs]at h1;cases h1
      |some ci=>
       rw [hcs]at h1
       obtain⟨xi,h2,h3⟩:=IH e ci y h1 hp1
       exact⟨ci,xi,rfl,h2,h3⟩
     have hch:∃(cf:Nat→List Value) (xf:Nat→List C),∀i,i<len→w.cells? 0 (a.add (i*P.cellsOf e)) (P.cellsOf e)=some (cf i)∧Typ P k e (xf i)∧Reads w (cf i) (xf i):=by
      refine⟨fun i=>if h:i<len then(hel i h).choose else [],fun i=>if h:i<len then(hel i h).choose_spec.choose else [],fun i hi=> ?_⟩
      simp only [dif_pos hi]
      exact(hel i hi).choose_spec.choose_spec
     obtain⟨cf,xf,hf⟩:=hch
     have hlen:∀i,i<len→(cf i).length=P.cellsOf e∧∀j,j<P.cellsOf e→w.cell? ((a.add (i*P.cellsOf e)).add j)=(cf i)[j]? :=by
      intro i hi
      have h1:=(hf i hi).1
      unfold World.cells? at h1
      rw [if_pos (Nat.zero_le _)]at h1
      refine⟨by have:=mapM_len h1;simpa using this,fun j hj=> ?_⟩
      obtain⟨y,h2,h3⟩:=mapM_range_get h1 j hj
      rw [h2,h3]
     refine⟨[.sl ((List.range len).map xf)],⟨_,rfl,by simp;omega,fun x hx=> ?_⟩, .one ?_⟩
     ·obtain⟨i,hi,rfl⟩:=List.mem_map.1 hx
      exact(hf i (by simpa using hi)).2.1
     ·by_cases h0:len=0
      ·subst h0;exact .slnil _ _ hcm
      ·have h00:=(hlen 0 (by omega))
       have hpos:0<P.cellsOf e:=by omega
       have hc0:=h00.2 0 hpos
       have hs:∃v,w.cell? a=some v:=by
        have:(cf 0)[0]? =some ((cf 0)[0]'(by omega)):=List.getElem?_eq_getElem _
        rw [this]at hc0
        simp only [Nat.zero_mul,Addr.add,Nat.add_zero]at hc0
        exact⟨_,hc0⟩
       obtain⟨v0,hv0⟩:=hs
       have hspot:a.spot=none∧Cel w a.block:=by
        unfold World.cell? at hv0
        split at hv0
        ·rename_i c _ _ hb
         split at hv0
         ·cases hv0
         ·rename_i hsp
          exact⟨by simpa using hsp, .of hb⟩
        ·cases hv0
       obtain⟨ab,ao,asp⟩:=a
       simp only at hspot
       obtain⟨rfl,hb⟩:=hspot
       have he:len=((List.range len).map xf).length:=by simp
       have hget:∀(i:Nat) (x:List C),((List.range len).map xf)[i]? =some x→i<len∧x=xf i:=fun i x hx=>by
        simp only [List.getElem?_map,Option.map_eq_some_iff]at hx
        obtain⟨j,hj,rfl⟩:=hx
        have:=List.getElem?_eq_some_iff.1 hj
        obtain⟨h1,h2⟩:=this
        simp at h1 h2
        subst h2
        exact⟨h1,rfl⟩
       conv=>arg 3;rw [he]
       refine .sl ab ao cap (P.cellsOf e) _ (fun i j=>(cf i).getD j .nilFunc) hb (by simpa using hlc) hcm (fun x hx=> ?_) (fun i j x y hx hy=> ?_) (fun i j x y hx hy=> ?_)
       ·obtain⟨i,hi,rfl⟩:=List.mem_map.1 hx
        have hi:i<len:=by simpa using hi
        rw [(hf i hi).2.2.1,(hlen i hi).1]
       ·obtain⟨hi,rfl⟩:=hget i x hx
        have hj:j<(cf i).length:=by
         rw [←(hf i hi).2.2.1]
         exact(List.getElem?_eq_some_iff.1 hy).1
        have h1:=(hlen i hi).2 j (by rw [←(hlen i hi).1];exact hj)
        rw [addr_add,addr_add]at h1
        rw [h1,List.getD_eq_getElem?_getD,List.getElem?_eq_getElem hj]
        rfl
       ·obtain⟨hi,rfl⟩:=hget i x hx
        have hj:j<(cf i).length:=by
         rw [←(hf i hi).2.2.1]
         exact(List.getElem?_eq_some_iff.1 hy).1
        refine(hf i hi).2.2.2 j _ y ?_ hy
        rw [List.getD_eq_getElem?_getD,List.getElem?_eq_getElem hj]
        rfl
   ·cases h
  ·rename_i cs0 _ _ fs hu
   rw [hu]at hp⊢
   split at h
   ·rename_i hc
    simp only [beq_iff_eq]at hp
    rw [←hc]at hp
    cases hm:fs.toList.mapM (fun f=>DataW.trod enc P w 0 spare held fuel f.type ((cs0.drop f.offset).take (P.cellsOf f.type)))with
    |none=>rw [hm]at h;simp at h
    |some ys=>
     obtain⟨xs,h1,h2⟩:=fields_conv IH fs.toList 0 ys hp hm
     exact⟨xs,h1,by simpa using h2⟩
   ·cases h
  ·rename_i cs0 _ _ n e hu
   rw [hu]at hp⊢
   simp only [Bool.and_eq_true,beq_iff_eq]at hp
   split at h
   ·rename_i hc
    cases hm:(List.range n).mapM (fun i=>DataW.trod enc P w 0 spare held fuel e ((cs0.drop (i*P.cellsOf e)).take (P.cellsOf e)))with
    |none=>rw [hm]at h;simp at h
    |some ys=>
     obtain⟨xs,h1,h2⟩:=array_conv (n:=n) (sz:=P.cellsOf e) (cs:=cs0) IH hp.1 n 0 (by omega) (by rw [hp.2,hc]) (fun i hi=>by
      obtain⟨y,h3,_⟩:=mapM_range_get hm i hi
      exact⟨y,h3⟩)
     exact⟨xs,h1,by simpa using h2⟩
   ·cases h
  all_goals (rename_i hu;first|(rw [hu]at hp;cases hp;done)|(cases h;done)|skip)
def one1:List C→D
 |[x]=> .c x
 |_=> .undef
def argD (P:Program) (t:TypeId) (xs:List C):D:=match P.underlying t with
 |some (.struct _)=> .agg (xs.map .c)
 |some (.array _ _)=> .agg (xs.map .c)
 |_=>one1 xs
theorem Reads.agg {cs:Array Value} {xs:List C} (h:Reads w cs.toList xs):VRel (G0 (below w)) w (.agg cs) (.agg (xs.map .c)):=by
 refine .agg cs _ (by simpa using h.1.symm) fun i v d hv hd=> ?_
 simp only [List.getElem?_map,Option.map_eq_some_iff]at hd
 obtain⟨y,hy,rfl⟩:=hd
 exact .c _ _ (h.2 i v y (by simpa using hv) hy)
theorem arg_conv {r:Reach} {base k:Nat} {t:TypeId} {v:Value} {d:DataW H} {ps:List MemPlace} (hv:Value.okWide P w r base t v) (h:DataW.Trod enc P w 0 spare held t v d ps) (hp:plain P k t=true):
 ∃xs,Typ P k t xs∧VRel (G0 (below w)) w v (argD P t xs):=by
 obtain⟨fuel,h⟩:=h
 obtain⟨xs,h1,h2⟩:=trod_conv fuel k t _ _ h hp
 refine⟨xs,h1, ?_⟩
 have one:∀(hc:v.cells= #[v]),VRel (G0 (below w)) w v (one1 xs):=by
  intro hc
  rw [hc]at h2
  match xs,h2 with
  |[],_=>exact .undef _
  |[x],h2=>exact .c _ _ (h2.2 0 v x rfl rfl)
  |_::_::_,_=>exact .undef _
 unfold argD
 unfold Value.okWide at hv
 split
 ·rename_i fs hu
  rw [hu]at hv
  obtain⟨cs,rfl,_⟩:=hv
  exact h2.agg
 ·rename_i n e hu
  rw [hu]at hv
  obtain⟨cs,rfl,_⟩:=hv
  exact h2.agg
 ·rename_i hn1 hn2
  refine one ?_
  cases v<;>try rfl
  rename_i cs
  exfalso
  cases k with
  |zero=>cases hp
  |succ k=>
   simp only [plain]at hp
   split at hv
   ·rename_i fs hu;exact hn1 fs hu
   ·rename_i n e hu;exact hn2 n e hu
   ·unfold Cell.okWide at hv
    split at hp<;>rename_i hu<;>first|(rw [hu]at hv;simp [Cell.ok,hu]at hv;done)|(exact absurd hu (hn1 _))|(exact absurd hu (hn2 _ _))|cases hp
theorem below_of (w w':World) (h:Ext w w'):RowKit.Below w.heap.size w w':=⟨h.2.2.os,h.2.2.tape,h.2.2.out,h.1,h.2.1⟩
end
open Go
section
variable {P:Program} {n N:Nat}
theorem lk_opn {id k c sz t:Nat}:∀{tm:List (Nat×D)},lk t (tm.map fun x=>(x.1,opnD id k c sz x.2))=(lk t tm).map (opnD id k c sz)
 |[]=>rfl
 |(u,d)::tm=>by
  rw [List.map_cons,lk_cons,lk_cons]
  split
  ·rfl
  ·exact lk_opn
theorem SWm.opn {code:Code} {Q:Exit→St→Prop} {s:St} (id:Nat) {hd:Bool} {sz:Nat} {e:TypeId} {els:List (List C)} (ho:lk id s.os=some (.vec hd sz e els))
 (h:∀c,els.length≤c→c≤9223372036854775807→SWm P n N code Q ⟨s.tm.map fun x=>(x.1,opnD id els.length c sz x.2),upd id (.vec hd sz e (fit c sz els)) s.os,s.nx⟩):SWm P n N code Q s:=fun δ g a w hr hn=>by
 obtain⟨c,g',h1,h2,h3,h4,h5⟩:=opn_rel (nx:=s.nx) hr.o.tm ho
 have hr':Rel δ g' ⟨s.tm.map fun x=>(x.1,opnD id els.length c sz x.2),upd id (.vec hd sz e (fit c sz els)) s.os,s.nx⟩ a w:=by
  refine⟨fun t d ht=> ?_,hr.defers,h3.tm⟩
  rw [lk_opn,Option.map_eq_some_iff]at ht
  obtain⟨d0,hd0,rfl⟩:=ht
  obtain⟨v,hv1,hv2⟩:=hr.tm t d0 hd0
  exact⟨v,hv1,h5 v d0 hv2⟩
 have h4':StepN N g s w g' ⟨s.tm.map fun x=>(x.1,opnD id els.length c sz x.2),upd id (.vec hd sz e (fit c sz els)) s.os,s.nx⟩ w:=(h4.toN (N:=N)).tm
 refine wp_mono (h c h1 h2 δ g' a w hr' hn) fun e a' w' ⟨Ds,g2,s',q1,q2,q3,q4,q5,q6⟩=>⟨Ds,g2,s',q1,q2,q3,q4,q5,h4'.trans q6⟩
end
open Go Go.Proofs Go.IntWalk
theorem follows_mixed:Tryz.prog.follows .mixedOrders=true:=by kernel_rfl
attribute [go_sem] Tryz.f232
@[go_sem] def c_isnan:Ct Tryz.prog:=⟨232,arg kU64 fun x=>pu (.bool false),arg_ok fun x=>ret_ok fun _=>by
 exact run [] Tryz.f232 lv232 fun hT=>vc0⟩
attribute [go_sem] Tryz.f189
@[go_sem] def c_cmp:Ct Tryz.prog:=⟨189,arg kU64 fun x=>arg kU64 fun y=>pu (.int .i64 (cmpS x y)),arg_ok fun x=>arg_ok fun y=>ret_ok fun _=>by
 refine run [c_isnan] Tryz.f189 lv189 fun hT=>vc ?_
 refine⟨fun h=> ?_,fun h=>⟨fun h1=> ?_,fun h1=> ?_⟩⟩<;>simp [cmpS]<;>omega⟩
def orS (l:List Int):Int:=(l.find? fun x=>decide (¬x=0)).getD 0
attribute [go_sem] Tryz.f188
@[go_sem] def c_cmpor:Ct Tryz.prog:=⟨188,arg (kSl i64s di64s) fun l=>pu (.int .i64 (orS l)),arg_ok fun l=>ret_ok fun _=>by
 refine run [] Tryz.f188 lv188 fun hT=>vc ?_
 refine fun hl=>SWp.loop (ι:={i:Nat // i≤l.length∧∀j,j<i→l.getD j default=0}) (fun i=>⟨[(3, .int .i64 0),(6, .sl (i64s l)),(7, .int .i64 l.length),(8, .int .i64 i.1)],[],0⟩) (fun i=>l.length - i.1) ⟨0,by simp⟩ ?_ ?_
 ·simp [go_sem]
 ·rintro⟨i,hi,hall⟩
  refine aw hT lv188 (vc ?_)
  refine⟨fun h=>⟨by omega,fun h1=>⟨⟨i+1,by omega,fun j hj=> ?_⟩,by dsimp only;omega,i64_in _ (by omega)⟩,fun h1=> ?_⟩,fun h=> ?_⟩
  ·by_cases hji:j=i
   ·subst hji;exact h1
   ·exact hall j (by omega)
  ·have hi':i<l.length:=by omega
   have:l.find? (fun x=>decide (¬x=0))=some (l.getD i default):=by
    rw [List.find?_eq_some_iff_getElem]
    refine⟨by simpa using h1,i,hi',(getD_lt hi').symm,fun j hj=> ?_⟩
    have:=hall j hj
    rw [getD_lt (by omega)]at this
    simpa using this
   rw [orS,this];rfl
  ·have:l.find? (fun x=>decide (¬x=0))=none:=by
    rw [List.find?_eq_none]
    intro x hx
    obtain⟨j,hj,rfl⟩:=mem_getD.1 hx
    simpa using hall j (by omega)
   rw [orS,this];rfl⟩
def maxS (l:List Nat):Nat:=l.foldl max 0
theorem maxS_succ {l:List Nat} {i:Nat} (h:i<l.length):maxS (l.take (i+1))=max (maxS (l.take i)) (l.getD i default):=by
 rw [take_succ h,maxS,List.foldl_append];rfl
attribute [go_sem] Tryz.f105
@[go_sem] def c_smax:Ct Tryz.prog:=⟨105,arg (kSl u64s du64s) fun l=>ret (0<l.length) (.int .u64 (maxS l:Int)) [],arg_ok fun l=>ret_ok fun h=>by
 refine run [c_isnan] Tryz.f105 lv105 fun hT=>vc ?_
 refine fun hl=>⟨fun h1=>by omega,fun h1=>⟨by omega, ?_⟩⟩
 refine SWp.loop (ι:={i:Nat // 0<i∧i≤l.length}) (fun i=>⟨[(0, .sl (u64s l)),(3, .int .u64 (maxS (l.take i.1):Nat)),(4, .int .i64 i.1)],[],0⟩) (fun i=>l.length - i.1) ⟨1,by omega⟩ ?_ ?_
 ·have:maxS (l.take 1)=l.getD 0 default:=by rw [maxS_succ h];simp [maxS]
  simp [go_sem,this]
 ·rintro⟨i,hi0,hi⟩
  refine aw hT lv105 (vc ?_)
  refine fun _=>⟨fun h2=>⟨by omega,⟨i+1,by omega,by omega⟩,by dsimp only;omega, ?_,i64_in _ (by omega)⟩,fun h2=> ?_⟩
  ·rw [maxS_succ (by omega)];omega
  ·rw [List.take_of_length_le (by omega)]⟩
def monS (l:List Nat):Int:=if l.all (fun n=>decide (n≤4611686018427387904))=true then 0 else 1
theorem max_all {l:List Nat} {m:Nat}:l.foldl max m≤4611686018427387904↔m≤4611686018427387904∧l.all (fun n=>decide (n≤4611686018427387904))=true:=by
 induction l generalizing m with
 |nil=>simp
 |cons x l ih=>
  rw [List.foldl_cons,ih,List.all_cons]
  simp only [Bool.and_eq_true,decide_eq_true_eq,←and_assoc]
  refine and_congr_left fun _=> ?_
  omega
attribute [go_sem] Tryz.f38
@[go_sem] def c_moncheck:Ct Tryz.prog:=⟨38,arg (kSl u64s du64s) fun l=>pu (.int .i64 (monS l)),arg_ok fun l=>ret_ok fun _=>by
 refine run [c_smax] Tryz.f38 lv38 fun hT=>vc ?_
 have hm:=max_all (l:=l) (m:=0)
 refine fun h=>⟨fun h1=>⟨by omega,fun h2=> ?_,fun h2=> ?_⟩,fun h1=> ?_⟩
 ·rw [monS,if_neg];intro h3;have:=hm.2 ⟨by omega,h3⟩;unfold maxS at h2;omega
 ·rw [monS,if_pos];unfold maxS at h2;exact(hm.1 (by omega)).2
 ·have:l=[]:=List.eq_nil_of_length_eq_zero (by omega)
  subst this;rfl⟩
def addM (l:List Nat):Nat×Int:=if monS l=0 then(if l.sum≤4611686018427387904 then(l.sum,0)else(0,8))else(0,1)
theorem sum_take {l:List Nat} {i:Nat} (h:i<l.length):(l.take (i+1)).sum=(l.take i).sum+l.getD i default:=by
 rw [take_succ h];simp
theorem sum_le {l:List Nat} {i:Nat}:(l.take i).sum≤l.sum:=by
 conv=>rhs;rw [←List.take_append_drop i l]
 rw [List.sum_append]
 omega
theorem monS_get {l:List Nat} (h:monS l=0) {i:Nat} (hi:i<l.length):l.getD i default≤4611686018427387904:=by
 unfold monS at h
 split at h
 ·rename_i h1
  have:=List.all_eq_true.1 h1 _ (mem_getD.2 ⟨i,hi,rfl⟩)
  simpa using this
 ·cases h
theorem monS_1 {l:List Nat} (h:¬monS l=0):monS l=1:=by
 unfold monS at*;split<;>simp_all
attribute [go_sem] Tryz.f223
@[go_sem] def c_monadd:Ct Tryz.prog:=⟨223,arg (kSl u64s du64s) fun l=>pu (.tup [.int .u64 ((addM l).1:Int), .int .i64 (addM l).2]),arg_ok fun l=>ret_ok fun _=>by
 refine run [c_moncheck] Tryz.f223 lv223 fun hT=>vc ?_
 refine⟨fun h hl=> ?_,fun h=> ?_⟩
 ·refine SWp.loop (ι:={i:Nat // i≤l.length∧(l.take i).sum≤4611686018427387904}) (fun i=>⟨[(2, .int .u64 ((l.take i.1).sum:Nat)),(11, .sl (u64s l)),(12, .int .i64 l.length),(13, .int .i64 i.1)],[],0⟩) (fun i=>l.length - i.1) ⟨0,by simp⟩ ?_ ?_
  ·simp [go_sem]
  ·rintro⟨i,hi,hs⟩
   refine aw hT lv223 (vc ?_)
   refine⟨fun h1=> ?_,fun h1=> ?_⟩
   ·have hi':i<l.length:=by omega
    have hg:=monS_get h hi'
    have hst:=sum_take hi'
    have hle:=sum_le (l:=l) (i:=i+1)
    rw [u64_in _ (by omega)]
    refine⟨by omega,fun h2=> ?_,fun h2=>⟨⟨i+1,by omega,by omega⟩,by dsimp only;omega,by dsimp only;omega,i64_in _ (by omega)⟩⟩
    rw [addM,if_pos h,if_neg (by omega)];exact⟨rfl,rfl⟩
   ·rw [List.take_of_length_le (by omega)]at hs⊢
    rw [addM,if_pos h,if_pos hs];exact⟨rfl,rfl⟩
 ·rw [addM,if_neg h]
  exact⟨rfl,monS_1 h⟩⟩
theorem mon1 (n:Nat):monS [n]=if n≤4611686018427387904 then 0 else 1:=by simp [monS]
theorem mon1_0 {n:Nat}:monS [n]=0↔n≤4611686018427387904:=by rw [mon1];split<;>simp_all
theorem mon2 (a b:Nat):monS [a,b]=if a≤4611686018427387904∧b≤4611686018427387904 then 0 else 1:=by simp [monS]
theorem addM_0 {l:List Nat}:(addM l).2=0↔(∀x∈l,x≤4611686018427387904)∧l.sum≤4611686018427387904:=by
 unfold addM monS
 simp only [List.all_eq_true,decide_eq_true_eq]
 by_cases h:∀x∈l,x≤4611686018427387904
 ·rw [if_pos h]
  by_cases h2:l.sum≤4611686018427387904
  ·simp [h2];exact h
  ·simp [h2]
 ·rw [if_neg h];simp [h]
theorem addM_1 {l:List Nat} (h:(addM l).2=0):(addM l).1=l.sum:=by
 have h1:=addM_0.1 h
 unfold addM monS
 simp only [List.all_eq_true,decide_eq_true_eq]
 rw [if_pos h1.1,if_pos rfl,if_pos h1.2]
def subM (a b:Nat):Nat×Int:=if a≤4611686018427387904∧b≤4611686018427387904 then(if b≤a then(a - b,0)else(0,9))else(0,1)
attribute [go_sem] Tryz.f215
@[go_sem] def c_monsub:Ct Tryz.prog:=⟨215,arg kU64 fun a=>arg kU64 fun b=>pu (.tup [.int .u64 ((subM a b).1:Int), .int .i64 (subM a b).2]),arg_ok fun a=>arg_ok fun b=>ret_ok fun _=>by
 refine run [ovC' 238,c_moncheck] Tryz.f215 lv215 fun hT=>vc ?_
 refine⟨⟨_,rfl,rfl,rfl,rfl,by kernel_rfl⟩, ?_⟩
 rw [mon2,subM]
 by_cases h:a≤4611686018427387904∧b≤4611686018427387904
 ·simp only [if_pos h]
  refine⟨fun _=>⟨fun h1=> ?_,fun h1=> ?_⟩,fun h1=>absurd trivial h1⟩
  ·have:¬b≤a:=fun h2=>by rw [if_neg (by omega)]at h1;omega
   rw [if_neg this];exact⟨rfl,rfl⟩
  ·have:b≤a:=by
    refine Classical.byContradiction fun h2=> ?_
    rw [if_pos (by omega)]at h1;omega
   rw [if_pos this];exact⟨by dsimp only;omega,rfl⟩
 ·simp only [if_neg h]
  refine⟨fun h=> ?_,fun _=>by simp⟩
  first|exact absurd h (by decide)|cases h⟩
open Go Go.Proofs Go.IntWalk
structure Hd where
 id:Nat
 n:Nat
deriving DecidableEq,Inhabited
@[go_sem] def Hd.enc (e:Hd):List C:=[.int .u64 (e.id:Int), .int .u64 (e.n:Int)]
@[go_sem] def Hd.dec:List C→Hd
 |[.int .u64 z2, .int .u64 z3]=>(⟨z2.toNat,z3.toNat⟩:Hd)
 |_=>default
def hds (l:List Hd):List (List C):=l.map Hd.enc
def dhds (l:List (List C)):List Hd:=l.map Hd.dec
abbrev kHd:=kAg Hd.enc Hd.dec
abbrev kHds:=kSl hds dhds
@[simp,go_sem] theorem hds_length (l:List Hd):(hds l).length=l.length:=by simp [hds]
@[go_sem] theorem hds_get (l:List Hd) (i:Nat):(hds l).getD i [.int .u64 0, .int .u64 0]=(l.getD i default).enc:=by
 simp only [hds,List.getD_eq_getElem?_getD,List.getElem?_map]
 cases l[i]? <;>rfl
@[go_sem] theorem hds_wide (l:List Hd):Wide 2 (hds l)=True:=by
 simp [Wide,hds,Hd.enc]
theorem Hd.dec_enc (e:Hd):Hd.dec e.enc=e:=by
 simp [Hd.enc,Hd.dec]
@[go_sem] theorem dhds_hds (l:List Hd):dhds (hds l)=l:=by
 simp only [dhds,hds,List.map_map]
 exact List.map_id'' (fun e=>Hd.dec_enc e) l
@[go_sem] theorem hds_app (a b:List Hd):hds a++hds b=hds (a++b):=by simp [hds]
@[go_sem] theorem hds_drop (l:List Hd) (k:Nat):(hds l).drop k=hds (l.drop k):=by simp [hds]
@[go_sem] theorem hds_take (l:List Hd) (k:Nat):(hds l).take k=hds (l.take k):=by simp [hds]
@[go_sem] theorem hds_one (z4:Int) (z5:Int) (hz4:0≤z4) (hz5:0≤z5):[[C.int .u64 z4,C.int .u64 z5]]=hds [⟨z4.toNat,z5.toNat⟩]:=by simp [hds,Hd.enc,Int.toNat_of_nonneg hz4,Int.toNat_of_nonneg hz5]
@[go_sem] theorem hds_set (l:List Hd) (i:Nat) (z4:Int) (z5:Int) (hz4:0≤z4) (hz5:0≤z5):(hds l).set i [C.int .u64 z4,C.int .u64 z5]=hds (l.set i ⟨z4.toNat,z5.toNat⟩):=by simp [hds,List.map_set,Hd.enc,Int.toNat_of_nonneg hz4,Int.toNat_of_nonneg hz5]
@[go_sem] theorem hds_cons (l:List Hd) (z4:Int) (z5:Int) (hz4:0≤z4) (hz5:0≤z5):[C.int .u64 z4,C.int .u64 z5]::hds l=hds (⟨z4.toNat,z5.toNat⟩::l):=by simp [hds,Hd.enc,Int.toNat_of_nonneg hz4,Int.toNat_of_nonneg hz5]
@[go_sem] theorem hds_flat (l:List Hd):flatE (hds l)=True:=eq_true fun x hx c hc=>by
 obtain⟨e,_,rfl⟩:=List.mem_map.1 hx
 simp only [Hd.enc,List.mem_cons,List.not_mem_nil,or_false]at hc
 rcases hc with rfl|rfl<;>rfl
@[go_sem] theorem Hd.eta {e:Hd}:(⟨e.id,e.n⟩:Hd)=e:=rfl
structure Ch where
 id:Nat
 loc:Nat
 rem:Nat
 res:Nat
 most:Nat
 holds:List Hd
 op:Bool
deriving DecidableEq,Inhabited
@[go_sem] def Ch.enc (e:Ch):List C:=[.int .u64 (e.id:Int), .int .u64 (e.loc:Int), .int .u64 (e.rem:Int), .int .u64 (e.res:Int), .int .u64 (e.most:Int), .sl (hds e.holds), .bool e.op]
@[go_sem] def Ch.dec:List C→Ch
 |[.int .u64 z7, .int .u64 z8, .int .u64 z9, .int .u64 z10, .int .u64 z11, .sl z12, .bool z13]=>(⟨z7.toNat,z8.toNat,z9.toNat,z10.toNat,z11.toNat,(dhds z12),z13⟩:Ch)
 |_=>default
def chs (l:List Ch):List (List C):=l.map Ch.enc
def dchs (l:List (List C)):List Ch:=l.map Ch.dec
abbrev kCh:=kAg Ch.enc Ch.dec
abbrev kChs:=kSl chs dchs
@[simp,go_sem] theorem chs_length (l:List Ch):(chs l).length=l.length:=by simp [chs]
@[go_sem] theorem chs_get (l:List Ch) (i:Nat):(chs l).getD i [.int .u64 0, .int .u64 0, .int .u64 0, .int .u64 0, .int .u64 0, .sl [], .bool false]=(l.getD i default).enc:=by
 simp only [chs,List.getD_eq_getElem?_getD,List.getElem?_map]
 cases l[i]? <;>rfl
@[go_sem] theorem chs_wide (l:List Ch):Wide 7 (chs l)=True:=by
 simp [Wide,chs,Ch.enc]
theorem Ch.dec_enc (e:Ch):Ch.dec e.enc=e:=by
 simp [Ch.enc,Ch.dec,dhds_hds]
@[go_sem] theorem dchs_chs (l:List Ch):dchs (chs l)=l:=by
 simp only [dchs,chs,List.map_map]
 exact List.map_id'' (fun e=>Ch.dec_enc e) l
@[go_sem] theorem chs_app (a b:List Ch):chs a++chs b=chs (a++b):=by simp [chs]
@[go_sem] theorem chs_drop (l:List Ch) (k:Nat):(chs l).drop k=chs (l.drop k):=by simp [chs]
@[go_sem] theorem chs_take (l:List Ch) (k:Nat):(chs l).take k=chs (l.take k):=by simp [chs]
@[go_sem] theorem chs_one (z14:Int) (z15:Int) (z16:Int) (z17:Int) (z18:Int) (z19:List Hd) (z20:Bool) (hz14:0≤z14) (hz15:0≤z15) (hz16:0≤z16) (hz17:0≤z17) (hz18:0≤z18):[[C.int .u64 z14,C.int .u64 z15,C.int .u64 z16,C.int .u64 z17,C.int .u64 z18,C.sl (hds z19),C.bool z20]]=chs [⟨z14.toNat,z15.toNat,z16.toNat,z17.toNat,z18.toNat,z19,z20⟩]:=by simp [chs,Ch.enc,Int.toNat_of_nonneg hz14,Int.toNat_of_nonneg hz15,Int.toNat_of_nonneg hz16,Int.toNat_of_nonneg hz17,Int.toNat_of_nonneg hz18]
@[go_sem] theorem chs_set (l:List Ch) (i:Nat) (z14:Int) (z15:Int) (z16:Int) (z17:Int) (z18:Int) (z19:List Hd) (z20:Bool) (hz14:0≤z14) (hz15:0≤z15) (hz16:0≤z16) (hz17:0≤z17) (hz18:0≤z18):(chs l).set i [C.int .u64 z14,C.int .u64 z15,C.int .u64 z16,C.int .u64 z17,C.int .u64 z18,C.sl (hds z19),C.bool z20]=chs (l.set i ⟨z14.toNat,z15.toNat,z16.toNat,z17.toNat,z18.toNat,z19,z20⟩):=by simp [chs,List.map_set,Ch.enc,Int.toNat_of_nonneg hz14,Int.toNat_of_nonneg hz15,Int.toNat_of_nonneg hz16,Int.toNat_of_nonneg hz17,Int.toNat_of_nonneg hz18]
@[go_sem] theorem chs_cons (l:List Ch) (z14:Int) (z15:Int) (z16:Int) (z17:Int) (z18:Int) (z19:List Hd) (z20:Bool) (hz14:0≤z14) (hz15:0≤z15) (hz16:0≤z16) (hz17:0≤z17) (hz18:0≤z18):[C.int .u64 z14,C.int .u64 z15,C.int .u64 z16,C.int .u64 z17,C.int .u64 z18,C.sl (hds z19),C.bool z20]::chs l=chs (⟨z14.toNat,z15.toNat,z16.toNat,z17.toNat,z18.toNat,z19,z20⟩::l):=by simp [chs,Ch.enc,Int.toNat_of_nonneg hz14,Int.toNat_of_nonneg hz15,Int.toNat_of_nonneg hz16,Int.toNat_of_nonneg hz17,Int.toNat_of_nonneg hz18]
@[go_sem] theorem Ch.eta {e:Ch}:(⟨e.id,e.loc,e.rem,e.res,e.most,e.holds,e.op⟩:Ch)=e:=rfl
def Hd.key (h:Hd):Nat:=h.id
def held (l:List Hd):Nat:=(l.map Hd.n).sum
abbrev ltN (a b:Nat):Prop:=a<b
abbrev MM:Nat:=4611686018427387904
def okCh (c:Ch):Prop:=c.res≤MM∧c.most≤MM∧c.holds.length≤64∧(c.op=false→c.holds=[])∧(∀h∈c.holds,h.n≠0)∧Srt.Chn Hd.key ltN c.holds∧held c.holds≤c.most∧c.loc≤MM∧c.rem≤MM∧held c.holds+c.loc+c.rem≤MM
instance (l:List Hd):Decidable (Srt.Chn Hd.key ltN l):=by unfold Srt.Chn;infer_instance
instance (c:Ch):Decidable (okCh c):=by unfold okCh;infer_instance
def sumsC (c:Ch):Nat×Nat×Int:=if okCh c then(held c.holds,held c.holds+c.loc+c.rem,0)else(0,0,1)
attribute [go_sem] Tryz.f196
@[go_sem] def c_horder:Ct Tryz.prog:=⟨196,arg kHd fun h=>arg kU64 fun id=>pu (.int .i64 (cmpS h.id id)),arg_ok fun h=>arg_ok fun id=>ret_ok fun _=>by
 exact run [c_cmp] Tryz.f196 lv196 fun hT=>vc0⟩
attribute [go_sem] Tryz.f180
@[go_sem] def c_csums:Ct Tryz.prog:=⟨180,arg kCh fun c=>pu (.tup [.int .u64 ((sumsC c).1:Int), .int .u64 ((sumsC c).2.1:Int), .int .i64 (sumsC c).2.2]),arg_ok fun c=>ret_ok fun _=>by
 refine run [c_moncheck,c_monadd,c_horder] Tryz.f180 lv180 fun hT=>vc ?_
 have hbad:¬okCh c→0=((sumsC c).1:Int)∧0=((sumsC c).2.1:Int)∧1=(sumsC c).2.2:=fun h=>by simp [sumsC,if_neg h]
 have hmon:monS [c.res,c.most]=0↔c.res≤MM∧c.most≤MM:=by rw [mon2];split<;>simp_all
 rw [hmon]
 refine⟨fun h1 hl=>⟨fun h2=>⟨fun h3 _=>⟨fun h4=>hbad fun h=> ?_,fun h4 _=> ?_⟩,fun h3 _=> ?_⟩,fun h2=>hbad fun h=> ?_⟩,fun h1=>hbad fun h=>h1 ⟨h.1,h.2.1⟩⟩
 ·have:=h.2.2.2.1 (by simpa using h3)
  rw [this]at h4;simp at h4
 rotate_left 2
 ·have:=h.2.2.1;omega
 all_goals
  have hop:c.op=false→c.holds=[]:=fun h=>by first|(rw [h]at h3;cases h3;done)|exact List.eq_nil_of_length_eq_zero (by omega)
  refine SWp.loop (ι:={i:Nat // i≤c.holds.length∧held (c.holds.take i)≤c.most∧(∀j,j<i→(c.holds.getD j default).n≠0∧(0<j→(c.holds.getD (j - 1) default).id<(c.holds.getD j default).id))}) (fun i=>⟨[(1, .ref 0 0),(2, .int .u64 (held (c.holds.take i.1):Nat)),(32, .sl (hds c.holds)),(33, .int .i64 c.holds.length),(34, .int .i64 i.1)],
   [(0, .box [.int .u64 c.id, .int .u64 c.loc, .int .u64 c.rem, .int .u64 c.res, .int .u64 c.most, .sl (hds c.holds), .bool c.op])],2⟩) (fun i=>c.holds.length - i.1) ⟨0,by simp [held]⟩ ?_ ?_
  ·simp [go_sem,held]
  ·rintro⟨i,hi,hs,hall⟩
   refine aw hT lv180 (vc ?_)
   have hst:i<c.holds.length→held (c.holds.take (i+1))=held (c.holds.take i)+(c.holds.getD i default).n:=fun h=>by rw [take_succ h,held,List.map_append,List.sum_append];simp [held]
   have hle:held (c.holds.take (i+1))≤held c.holds:=by
    conv=>rhs;rw [←List.take_append_drop (i+1) c.holds,held,List.map_append,List.sum_append]
    exact Nat.le_add_right _ _
   refine⟨fun h5=>⟨by omega, ?_⟩,fun h5=> ?_⟩
   ·refine dr us180_6 hT (vc ?_)
    have hi':i<c.holds.length:=by omega
    have hst:=hst hi'
    have hnext:(0<i→(c.holds.getD (i - 1) default).id<(c.holds.getD i default).id)→(c.holds.getD i default).n≠0→
     ((addM [held (c.holds.take i),(c.holds.getD i default).n]).2=0→
       ((c.most:Int)<((addM [held (c.holds.take i),(c.holds.getD i default).n]).1:Int)→0=((sumsC c).1:Int)∧0=((sumsC c).2.1:Int)∧1=(sumsC c).2.2)∧
       (¬(c.most:Int)<((addM [held (c.holds.take i),(c.holds.getD i default).n]).1:Int)→∃i_1:{i:Nat // i≤c.holds.length∧held (c.holds.take i)≤c.most∧(∀j,j<i→(c.holds.getD j default).n≠0∧(0<j→(c.holds.getD (j - 1) default).id<(c.holds.getD j default).id))},
        c.holds.length - i_1.val<c.holds.length - i∧((addM [held (c.holds.take i),(c.holds.getD i default).n]).1:Int)=(held (c.holds.take i_1.val):Nat)∧IntKind.i64.wrap ((i:Int)+1)=i_1.val))∧
     (¬(addM [held (c.holds.take i),(c.holds.getD i default).n]).2=0→0=((sumsC c).1:Int)∧0=((sumsC c).2.1:Int)∧1=(sumsC c).2.2):=fun ho hn=>by
     refine⟨fun h6=> ?_,fun h6=>hbad fun h=>h6 (addM_0.2 ?_)⟩
     ·have h7:=addM_1 h6
      simp only [List.sum_cons,List.sum_nil,Nat.add_zero]at h7
      rw [h7]
      refine⟨fun h8=>hbad fun h=> ?_,fun h8=>⟨⟨i+1,hi',by omega,fun j hj=> ?_⟩,by dsimp only;omega,by dsimp only;omega,i64_in _ (by omega)⟩⟩
      ·have:=h.2.2.2.2.2.2.1;omega
      ·by_cases hji:j=i
       ·subst hji;exact⟨hn,ho⟩
       ·exact hall j (by omega)
     ·have:=h.2.2.2.2.2.2.1
      have:=h.2.1
      simp only [List.mem_cons,List.not_mem_nil,or_false,forall_eq_or_imp,forall_eq,List.sum_cons,List.sum_nil]
      unfold MM at*
      omega
    refine⟨fun h6=>⟨fun h7=> ?_,fun h7=>hnext (fun h=>absurd h (by omega)) (by omega)⟩,fun h6=>hbad fun h=>h.2.2.2.2.1 _ (mem_getD.2 ⟨i,hi',rfl⟩) (by omega)⟩
    rw [i64_in _ (by omega),show((i:Int) - 1).toNat=i - 1 by omega]
    have hc:∀a b:Nat,0≤cmpS a b↔¬a<b:=fun a b=>by
     have:=cmpS_neg (x:=a) (y:=b);omega
    rw [hc]
    refine⟨by omega,fun h8=>hbad fun h=>h8 (h.2.2.2.2.2.1 i hi' (by omega)),fun h8=>hnext (fun _=>by omega) (by omega)⟩
   ·have hi':i=c.holds.length:=by omega
    subst hi'
    rw [List.take_length]at hs⊢
    refine⟨fun h6=> ?_,fun h6=>hbad fun h=>h6 (addM_0.2 ?_)⟩
    ·have h7:=addM_1 h6
     have h8:=addM_0.1 h6
     simp only [List.mem_cons,List.not_mem_nil,or_false,forall_eq_or_imp,forall_eq,List.sum_cons,List.sum_nil]at h7 h8
     have hok:okCh c:=⟨h1.1,h1.2,by omega,hop,fun x hx=>by obtain⟨j,hj,rfl⟩:=mem_getD.1 hx;exact(hall j hj).1,fun j hj h0=>(hall j hj).2 h0,hs,h8.1.2.1,h8.1.2.2,by unfold MM;omega⟩
     rw [sumsC,if_pos hok,h7]
     exact⟨rfl,by dsimp only;omega,rfl⟩
    ·have:=h.2.2.2.2.2.2
     have:=h.2.1
     simp only [List.mem_cons,List.not_mem_nil,or_false,forall_eq_or_imp,forall_eq,List.sum_cons,List.sum_nil]
     unfold MM at*
     omega⟩
theorem sumsC_0 {c:Ch}:(sumsC c).2.2=0↔okCh c:=by unfold sumsC;split<;>simp_all
attribute [go_sem] Tryz.f222
@[go_sem] def c_call:Ct Tryz.prog:=⟨222,arg kCh fun c=>pu (.tup [.int .u64 ((sumsC c).2.1:Int), .int .i64 (sumsC c).2.2]),arg_ok fun c=>ret_ok fun _=>by
 exact run [c_csums] Tryz.f222 lv222 fun hT=>vc0⟩
def roomC (c:Ch):Nat×Int:=if okCh c then(if c.op=true∧c.holds.length≠64∧c.res≤c.loc then(min (c.loc - c.res) (c.most - held c.holds),0)else(0,0))else(0,1)
attribute [go_sem] Tryz.f181
@[go_sem] def c_croom:Ct Tryz.prog:=⟨181,arg kCh fun c=>pu (.tup [.int .u64 ((roomC c).1:Int), .int .i64 (roomC c).2]),arg_ok fun c=>ret_ok fun _=>by
 refine run [c_csums,c_monsub] Tryz.f181 lv181 fun hT=>vc ?_
 rw [sumsC_0]
 by_cases h:okCh c
 ·have h1:c.loc≤MM:=h.2.2.2.2.2.2.2.1
  have h2:=h.1
  have h3:=h.2.1
  have h4:=h.2.2.2.2.2.2.1
  have e:(sumsC c).2.2=0:=sumsC_0.2 h
  have e1:(sumsC c).1=held c.holds:=by rw [sumsC,if_pos h]
  unfold MM at*
  rw [u64_in _ (by omega),e,e1,roomC,if_pos h]
  refine⟨fun _=>⟨fun h5 _=>⟨fun h6=> ?_,fun h6=> ?_⟩,fun h5=> ?_⟩,fun h'=>absurd h h'⟩
  ·rw [if_neg (by omega)];exact⟨rfl,rfl⟩
  ·have h5':c.op=true:=by simpa using h5
   rw [subM,if_pos ⟨h1,h2⟩]
   by_cases h7:c.res≤c.loc
   ·rw [if_pos h7,if_pos ⟨h5',by omega,h7⟩]
    refine⟨fun h=>absurd (show(0:Int)=9 from h) (by decide),fun _=>⟨by dsimp only;omega,rfl⟩⟩
   ·rw [if_neg h7,if_neg (fun h=>h7 h.2.2)]
    exact⟨fun _=>⟨rfl,rfl⟩,fun h=>absurd rfl h⟩
  ·have h5':c.op=false:=by simpa using h5
   rw [if_neg (fun h=>by rw [h5']at h;exact absurd h.1 (by decide))];exact⟨rfl,rfl⟩
 ·have e:sumsC c=(0,0,1):=by rw [sumsC,if_neg h]
  rw [e,roomC,if_neg h]
  exact⟨fun h'=>absurd h' h,fun _=>⟨rfl,rfl⟩⟩⟩
attribute [go_sem] Tryz.f48
@[go_sem] def c_r4check:Ct Tryz.prog:=⟨48,arg (kSl u64s du64s) fun l=>pu (.int .i64 (monS l)),arg_ok fun l=>ret_ok fun _=>by
 refine run [] Tryz.f48 lv48 fun hT=>vc ?_
 refine fun hl=>SWp.loop (ι:={i:Nat // i≤l.length∧∀j,j<i→l.getD j default≤MM}) (fun i=>⟨[(5, .sl (u64s l)),(6, .int .i64 l.length),(7, .int .i64 i.1)],[],0⟩) (fun i=>l.length - i.1) ⟨0,by simp⟩ ?_ ?_
 ·simp [go_sem]
 ·rintro⟨i,hi,hall⟩
  refine aw hT lv48 (vc ?_)
  unfold MM at hall
  refine⟨fun h=>⟨by omega,fun h1=> ?_,fun h1=>⟨⟨i+1,by omega,fun j hj=> ?_⟩,by dsimp only;omega,i64_in _ (by omega)⟩⟩,fun h=> ?_⟩
  ·rw [monS,if_neg]
   intro h2
   have:=decide_eq_true_iff.1 (List.all_eq_true.1 h2 _ (mem_getD.2 ⟨i,by omega,rfl⟩))
   omega
  ·unfold MM
   by_cases hji:j=i
   ·subst hji;omega
   ·exact hall j (by omega)
  ·rw [monS,if_pos]
   refine List.all_eq_true.2 fun x hx=> ?_
   obtain⟨j,hj,rfl⟩:=mem_getD.1 hx
   simpa using hall j (by omega)⟩
attribute [go_sem] Tryz.f218
@[go_sem] def c_r4add:Ct Tryz.prog:=⟨218,arg (kSl u64s du64s) fun l=>pu (.tup [.int .u64 ((addM l).1:Int), .int .i64 (addM l).2]),arg_ok fun l=>ret_ok fun _=>by
 refine run [c_r4check] Tryz.f218 lv218 fun hT=>vc ?_
 refine⟨fun h hl=> ?_,fun h=> ?_⟩
 ·refine SWp.loop (ι:={i:Nat // i≤l.length∧(l.take i).sum≤MM}) (fun i=>⟨[(4, .int .u64 ((l.take i.1).sum:Nat)),(10, .sl (u64s l)),(11, .int .i64 l.length),(12, .int .i64 i.1)],[],0⟩) (fun i=>l.length - i.1) ⟨0,by simp⟩ ?_ ?_
  ·simp [go_sem]
  ·rintro⟨i,hi,hs⟩
   refine aw hT lv218 (vc ?_)
   refine⟨fun h1=> ?_,fun h1=> ?_⟩
   ·have hi':i<l.length:=by omega
    have hg:=monS_get h hi'
    have hst:=sum_take hi'
    have hle:=sum_le (l:=l) (i:=i+1)
    unfold MM at hs
    rw [u64_in (4611686018427387904 - _) (by omega)]
    refine⟨by omega,fun h2=> ?_,fun h2=>⟨⟨i+1,by omega,by unfold MM;omega⟩,by dsimp only;omega, ?_,i64_in _ (by omega)⟩⟩
    ·rw [addM,if_pos h,if_neg (by omega)];exact⟨rfl,rfl⟩
    ·rw [u64_in _ (by omega)];dsimp only;omega
   ·rw [List.take_of_length_le (by omega)]at hs⊢
    unfold MM at hs
    rw [addM,if_pos h,if_pos hs];exact⟨rfl,rfl⟩
 ·rw [addM,if_neg h]
  exact⟨rfl,rfl⟩⟩
attribute [go_sem] Tryz.f219
@[go_sem] def c_r9amounts:Ct Tryz.prog:=⟨219,arg kHds fun l=>ret (l.length≤1000000) (.sl (u64s (l.map Hd.n))) [],arg_ok fun l=>ret_ok fun h=>by
 refine run [] Tryz.f219 lv219 fun hT=>vc ?_
 refine fun hl=>SWp.nilvec 3 1 26 rfl (Nat.zero_le _) ?_
 refine SWp.loop (ι:={i:Nat // i≤l.length}) (fun i=>⟨[(3, .vec 0 (l.take i.1).length),(6, .sl (hds l)),(7, .int .i64 l.length),(8, .int .i64 i.1)],[(0, .vec true 1 26 (u64s ((l.take i.1).map Hd.n)))],1⟩) (fun i=>l.length - i.1) ⟨0,by omega⟩ ?_ ?_
 ·simp [go_sem,u64s]
 ·rintro⟨i,hi⟩
  refine aw hT lv219 (vc ?_)
  refine⟨fun h1=> ?_,fun h1=> ?_⟩
  ·have hi':i<l.length:=by omega
   have ht:=take_succ hi'
   have hlen:(l.take i).length=i:=by simp;omega
   refine⟨by omega,⟨by simp,by simp;omega⟩,⟨i+1,by omega⟩,by dsimp only;omega,⟨?_,i64_in _ (by omega)⟩, ?_⟩
   ·dsimp only;rw [ht,List.length_append];rfl
   ·dsimp only;rw [ht,List.map_append];rfl
  ·have hi':i=l.length:=by omega
   subst hi'
   rw [List.take_length]
   exact⟨by simp,_,_,_,rfl⟩⟩
theorem mem_sum {l:List Nat} {x:Nat} (h:x∈l):x≤l.sum:=by
 induction l with
 |nil=>cases h
 |cons y l ih=>
  rw [List.sum_cons]
  rcases List.mem_cons.1 h with rfl|h
  ·omega
  ·have:=ih h;omega
theorem held_ok {c:Ch} (h:okCh c):(addM (c.holds.map Hd.n)).2=0:=addM_0.2 ⟨fun x hx=>by
 have h3:=h.2.2.2.2.2.2.1
 have h4:=h.2.1
 have h5:=mem_sum hx
 unfold MM held at*
 omega,by
 have h3:=h.2.2.2.2.2.2.1
 have h4:=h.2.1
 unfold MM held at*
 omega⟩
def chkCh (c:Ch):Int:=if okCh c then 0 else 1
attribute [go_sem] Tryz.f158
@[go_sem] def c_r9check:Ct Tryz.prog:=⟨158,arg kCh fun c=>pu (.int .i64 (chkCh c)),arg_ok fun c=>ret_ok fun _=>by
 refine run [c_r4check,c_r4add,c_r9amounts] Tryz.f158 lv158 fun hT=>vc ?_
 have hbad:¬okCh c→1=chkCh c:=fun h=>by simp [chkCh,if_neg h]
 have hmon:monS [c.res,c.most]=0↔c.res≤MM∧c.most≤MM:=by rw [mon2];split<;>simp_all
 rw [hmon]
 refine⟨fun h1 hl=>⟨fun h2=>⟨fun h3 _=>⟨fun h4=>hbad fun h=> ?_,fun h4 _=> ?_⟩,fun h3 _=> ?_⟩,fun h2=>hbad fun h=> ?_⟩,fun h1=>hbad fun h=>h1 ⟨h.1,h.2.1⟩⟩
 ·have:=h.2.2.2.1 (by simpa using h3)
  rw [this]at h4;simp at h4
 rotate_left 2
 ·have:=h.2.2.1;omega
 all_goals
  have hop:c.op=false→c.holds=[]:=fun h=>by first|(rw [h]at h3;cases h3;done)|exact List.eq_nil_of_length_eq_zero (by omega)
  refine SWp.loop (ι:={i:Nat // i≤c.holds.length∧(∀j,j<i→(c.holds.getD j default).n≠0∧(0<j→(c.holds.getD (j - 1) default).id<(c.holds.getD j default).id))}) (fun i=>⟨[(1, .ref 0 0),(34, .sl (hds c.holds)),(35, .int .i64 c.holds.length),(36, .int .i64 i.1)],
   [(0, .box [.int .u64 c.id, .int .u64 c.loc, .int .u64 c.rem, .int .u64 c.res, .int .u64 c.most, .sl (hds c.holds), .bool c.op])],2⟩) (fun i=>c.holds.length - i.1) ⟨0,by simp⟩ ?_ ?_
  ·simp [go_sem]
  ·rintro⟨i,hi,hall⟩
   refine aw hT lv158 (vc ?_)
   refine⟨fun h5=>⟨by omega, ?_⟩,fun h5=> ?_⟩
   ·refine dr us158_6 hT (vc ?_)
    have hi':i<c.holds.length:=by omega
    have hnext:(0<i→(c.holds.getD (i - 1) default).id<(c.holds.getD i default).id)→(c.holds.getD i default).n≠0→∃i_1:{i:Nat // i≤c.holds.length∧(∀j,j<i→(c.holds.getD j default).n≠0∧(0<j→(c.holds.getD (j - 1) default).id<(c.holds.getD j default).id))},c.holds.length - i_1.val<c.holds.length - i∧IntKind.i64.wrap ((i:Int)+1)=i_1.val:=fun ho hn=>
     ⟨⟨i+1,hi',fun j hj=>by
       by_cases hji:j=i
       ·subst hji;exact⟨hn,ho⟩
       ·exact hall j (by omega)⟩,by dsimp only;omega,i64_in _ (by omega)⟩
    refine⟨fun h6=>⟨fun h7=> ?_,fun h7=>hnext (fun h=>absurd h (by omega)) (by omega)⟩,fun h6=>hbad fun h=>h.2.2.2.2.1 _ (mem_getD.2 ⟨i,hi',rfl⟩) (by omega)⟩
    rw [i64_in _ (by omega),show((i:Int) - 1).toNat=i - 1 by omega]
    refine⟨by omega,fun h8=>hbad fun h=> ?_,fun h8=>hnext (fun _=>by omega) (by omega)⟩
    have:=h.2.2.2.2.2.1 i hi' (by omega)
    change (c.holds.getD (i - 1) default).id<(c.holds.getD i default).id at this
    omega
   ·have hi':i=c.holds.length:=by omega
    subst hi'
    refine⟨by omega,fun h6=> ?_,fun h6=>hbad fun h=>h6 (held_ok h)⟩
    have h7:=addM_1 h6
    have e1:(c.holds.map Hd.n).sum=held c.holds:=rfl
    rw [h7,e1]
    refine⟨fun h8=>hbad fun h=> ?_,fun h8=>⟨fun h9=> ?_,fun h9=>hbad fun h=>h9 (addM_0.2 ?_)⟩⟩
    ·have:=h.2.2.2.2.2.2.1;omega
    ·have h10:=addM_0.1 h9
     simp only [List.mem_cons,List.not_mem_nil,or_false,forall_eq_or_imp,forall_eq,List.sum_cons,List.sum_nil]at h10
     have hok:okCh c:=⟨h1.1,h1.2,by omega,hop,fun x hx=>by obtain⟨j,hj,rfl⟩:=mem_getD.1 hx;exact(hall j hj).1,fun j hj h0=>(hall j hj).2 h0,by omega,h10.1.1,h10.1.2.1,by unfold MM;omega⟩
     rw [chkCh,if_pos hok]
    ·have:=h.2.2.2.2.2.2
     have:=h.2.1
     simp only [List.mem_cons,List.not_mem_nil,or_false,forall_eq_or_imp,forall_eq,List.sum_cons,List.sum_nil]
     unfold MM at*
     omega⟩
attribute [go_sem] Tryz.f205
@[go_sem] def c_r9held:Ct Tryz.prog:=⟨205,arg kCh fun c=>pu (.tup [.int .u64 ((sumsC c).1:Int), .int .i64 (sumsC c).2.2]),arg_ok fun c=>ret_ok fun _=>by
 refine run [c_r9check,c_r4add,c_r9amounts] Tryz.f205 lv205 fun hT=>vc ?_
 by_cases h:okCh c
 ·have h1:=held_ok h
  have h2:=addM_1 h1
  rw [chkCh,if_pos h,sumsC,if_pos h,h1,h2]
  exact⟨fun _=>⟨by have:=h.2.2.1;omega,rfl,rfl⟩,fun h=>absurd rfl h⟩
 ·rw [chkCh,if_neg h,sumsC,if_neg h]
  exact⟨fun h=>absurd h (by decide),fun _=>⟨rfl,rfl⟩⟩⟩
attribute [go_sem] Tryz.f220
@[go_sem] def c_r9all:Ct Tryz.prog:=⟨220,arg kCh fun c=>pu (.tup [.int .u64 ((sumsC c).2.1:Int), .int .i64 (sumsC c).2.2]),arg_ok fun c=>ret_ok fun _=>by
 refine run [c_r9held,c_r4add] Tryz.f220 lv220 fun hT=>vc ?_
 rw [sumsC_0]
 refine⟨fun h=> ?_,fun h=> ?_⟩
 ·have h2:=h.2.2.2.2.2.2
  have h3:=h.2.1
  have e1:(sumsC c).1=held c.holds:=by rw [sumsC,if_pos h]
  have h1:(addM [c.loc,c.rem,held c.holds]).2=0:=addM_0.2 (by
   simp only [List.mem_cons,List.not_mem_nil,or_false,forall_eq_or_imp,forall_eq,List.sum_cons,List.sum_nil]
   unfold MM at*
   omega)
  rw [e1,h1,addM_1 h1,sumsC,if_pos h]
  simp only [List.sum_cons,List.sum_nil]
  exact⟨by omega,trivial⟩
 ·rw [sumsC,if_neg h];simp⟩
open Go Go.Proofs Go.IntWalk
abbrev allC (c:Ch):Nat:=(sumsC c).2.1
def totL (l:List Ch):Nat:=(l.map allC).sum
theorem allC_le (c:Ch):allC c≤MM:=by
 unfold allC sumsC
 split
 ·rename_i h;exact h.2.2.2.2.2.2.2.2.2
 ·exact Nat.zero_le _
theorem totL_succ {l:List Ch} {i:Nat} (h:i<l.length):totL (l.take (i+1))=totL (l.take i)+allC (l.getD i default):=by
 rw [take_succ h,totL,List.map_append,List.sum_append];simp [totL]
theorem totL_le {l:List Ch} {i:Nat}:totL (l.take i)≤totL l:=by
 conv=>rhs;rw [←List.take_append_drop i l,totL,List.map_append,List.sum_append]
 exact Nat.le_add_right _ _
def hidL (l:List Ch):List Nat:=l.flatMap fun c=>c.holds.map Hd.id
def okLd (l:List Ch):Prop:=l.length≤32∧(∀c∈l,okCh c)∧Srt.Chn Ch.id ltN l∧(hidL l).Nodup∧totL l≤MM
instance (l:List Ch):Decidable (Srt.Chn Ch.id ltN l):=by unfold Srt.Chn;infer_instance
instance (l:List Ch):Decidable (okLd l):=by unfold okLd;infer_instance
def chkL (l:List Ch):Int:=if okLd l then 0 else 1
def hm:Int→List Ch→List (Nat×Int)
 |_,[]=>[]
 |i,c::l=>c.holds.map (fun h=>(h.id,i))++hm (i+1) l
def readL (l:List Ch):List (Nat×Int)×Int:=if okLd l then(hm 0 l,0)else([],1)
attribute [go_sem] Tryz.f154
@[go_sem] def c_lorder:Ct Tryz.prog:=⟨154,arg kCh fun c=>arg kU64 fun id=>pu (.int .i64 (cmpS c.id id)),arg_ok fun c=>arg_ok fun id=>ret_ok fun _=>by
 exact run [c_cmp] Tryz.f154 lv154 fun hT=>vc0⟩
attribute [go_sem] Tryz.f34
@[go_sem] def c_few:Ct Tryz.prog:=⟨34,arg kChs fun l=>pu (.bool (decide ((∀c∈l,c.holds.length≤20)∧l.length≤34))),arg_ok fun l=>ret_ok fun _=>by
 refine run [] Tryz.f34 lv34 fun hT=>vc ?_
 refine fun hl=>SWp.loop (ι:={i:Nat // i≤l.length∧∀j,j<i→(l.getD j default).holds.length≤20}) (fun i=>⟨[(0, .sl (chs l)),(5, .sl (chs l)),(6, .int .i64 l.length),(7, .int .i64 i.1)],[],0⟩) (fun i=>l.length - i.1) ⟨0,by simp⟩ ?_ ?_
 ·simp [go_sem]
 ·rintro⟨i,hi,hall⟩
  refine aw hT lv34 (vc ?_)
  refine⟨fun h=>⟨by omega,fun _=>⟨fun h1=> ?_,fun h1=>⟨⟨i+1,by omega,fun j hj=> ?_⟩,by dsimp only;omega,i64_in _ (by omega)⟩⟩⟩,fun h=> ?_⟩
  ·rw [eq_comm,decide_eq_false_iff_not]
   intro h2
   have:=h2.1 _ (mem_getD.2 ⟨i,by omega,rfl⟩)
   omega
  ·by_cases hji:j=i
   ·subst hji;omega
   ·exact hall j (by omega)
  ·intro _
   have:(∀c∈l,c.holds.length≤20):=fun c hc=>by obtain⟨j,hj,rfl⟩:=mem_getD.1 hc;exact hall j (by omega)
   rw [decide_eq_decide]
   exact⟨fun h=>⟨this,by omega⟩,fun h=>by omega⟩⟩
theorem hidL_succ {l:List Ch} {i:Nat} (h:i<l.length):hidL (l.take (i+1))=hidL (l.take i)++(l.getD i default).holds.map Hd.id:=by
 rw [take_succ h,hidL,List.flatMap_append];simp [hidL]
theorem hidL_nd {l:List Ch} {i:Nat} (h:(hidL l).Nodup):(hidL (l.take i)).Nodup:=by
 rw [←List.take_append_drop i l,hidL,List.flatMap_append]at h
 exact(List.nodup_append.1 h).1
theorem okCh_nd {c:Ch} (h:okCh c):(c.holds.map Hd.id).Nodup:=by
 have h1:=(Srt.chn_up (lt:=ltN) Srt.totNat).1 h.2.2.2.2.2.1
 unfold Srt.Up at h1
 rw [List.Nodup,List.pairwise_map]
 exact h1.imp fun hlt he=>by
  simp only [Hd.key,ltN]at hlt
  omega
def whereL (l:List Ch) (h:Nat):Int:=match l.findIdx? (fun c=>c.holds.any fun x=>decide (x.id=h))with
 |some i=>i
 |none=> -1
theorem where_iff {l:List Ch} {h:Nat}:0≤whereL l h↔h∈hidL l:=by
 unfold whereL hidL
 rw [List.mem_flatMap]
 cases hf:l.findIdx? (fun c=>c.holds.any fun x=>decide (x.id=h))with
 |none=>
  rw [List.findIdx?_eq_none_iff]at hf
  refine⟨fun h=>absurd h (by decide),fun⟨c,hc,hm⟩=> ?_⟩
  obtain⟨x,hx,rfl⟩:=List.mem_map.1 hm
  have:=List.any_eq_false.1 (hf c hc) x hx
  simp at this
 |some i=>
  refine⟨fun _=> ?_,fun _=>Int.natCast_nonneg _⟩
  obtain⟨hi,h2,_⟩:=List.findIdx?_eq_some_iff_getElem.1 hf
  obtain⟨x,hx,h3⟩:=List.any_eq_true.1 h2
  exact⟨_,List.getElem_mem hi,List.mem_map.2 ⟨x,hx,by simpa using h3⟩⟩
theorem hm_keys:∀{l:List Ch} {s:Int},(hm s l).map (·.1)=hidL l
 |[],_=>rfl
 |c::l,s=>by
  have e:hidL (c::l)=c.holds.map Hd.id++hidL l:=by simp [hidL]
  rw [hm,List.map_append,hm_keys,List.map_map,e];rfl
theorem hm_succ {l:List Ch} {i:Nat} (h:i<l.length):hm 0 (l.take (i+1))=hm 0 (l.take i)++(l.getD i default).holds.map fun x=>(x.id,(i:Int)):=by
 have key:∀(l:List Ch) (s:Int) (c:Ch),hm s (l++[c])=hm s l++c.holds.map fun x=>(x.id,s+l.length):=by
  intro l
  induction l with
  |nil=>intro s c;simp [hm]
  |cons d l ih=>
   intro s c
   rw [List.cons_append,hm,ih,hm,List.append_assoc]
   simp only [List.length_cons]
   rw [show s+((l.length+1:Nat):Int)=s+1+l.length by omega]
 rw [take_succ h,key]
 simp only [Int.zero_add,List.length_take]
 rw [show min i l.length=i by omega]
attribute [go_sem] Tryz.f128
@[go_sem] def c_r10where:Ct Tryz.prog:=⟨128,arg kChs fun l=>arg kU64 fun h=>pu (.int .i64 (whereL l h)),arg_ok fun l=>arg_ok fun h=>ret_ok fun _=>by
 refine run [] Tryz.f128 lv128 fun hT=>vc ?_
 refine fun hl=>SWp.loop (ι:={i:Nat // i≤l.length∧∀j,j<i→∀x∈(l.getD j default).holds,x.id≠h}) (fun i=>⟨[(1, .int .u64 h),(9, .sl (chs l)),(10, .int .i64 l.length),(11, .int .i64 i.1)],[],0⟩) (fun i=>l.length - i.1) ⟨0,by simp⟩ ?_ ?_
 ·simp [go_sem]
 ·rintro⟨i,hi,hall⟩
  refine aw hT lv128 (vc ?_)
  refine⟨fun h1=>⟨by omega,fun _=> ?_⟩,fun h1=> ?_⟩
  ·have hi':i<l.length:=by omega
   generalize hc:l.getD i default=c at*
   refine SWp.loop (ι:={k:Nat // k≤c.holds.length∧∀j,j<k→(c.holds.getD j default).id≠h}) (fun k=>⟨[(1, .int .u64 h),(5, .int .i64 i),(9, .sl (chs l)),(10, .int .i64 l.length),(11, .int .i64 i),(17, .sl (hds c.holds)),(18, .int .i64 c.holds.length),(19, .int .i64 k.1)],[],1⟩) (fun k=>c.holds.length - k.1) ⟨0,by simp⟩ ?_ ?_
   ·simp [go_sem]
   ·rintro⟨k,hk,hin⟩
    refine aw hT lv128 (vc ?_)
    refine⟨fun h2=>⟨by omega,fun h3=> ?_,fun h3=>⟨⟨k+1,by omega,fun j hj=> ?_⟩,by dsimp only;omega,i64_in _ (by omega)⟩⟩,fun h2=>⟨⟨i+1,hi',fun j hj x hx=> ?_⟩,by dsimp only;omega,i64_in _ (by omega)⟩⟩
    ·have hf:(l.findIdx? fun c=>c.holds.any fun x=>decide (x.id=h))=some i:=by
      refine List.findIdx?_eq_some_iff_getElem.2 ⟨hi', ?_,fun j hj=> ?_⟩
      ·rw [←getD_lt hi',hc]
       exact List.any_eq_true.2 ⟨_,mem_getD.2 ⟨k,by omega,rfl⟩,decide_eq_true (by omega)⟩
      ·rw [Bool.not_eq_true,List.any_eq_false]
       intro x hx
       have:=hall j hj x (by rw [getD_lt (by omega)];exact hx)
       simpa using this
     rw [whereL,hf]
    ·by_cases hji:j=k
     ·subst hji;omega
     ·exact hin j (by omega)
    ·by_cases hji:j=i
     ·subst hji
      rw [hc]at hx
      obtain⟨q,hq,rfl⟩:=mem_getD.1 hx
      exact hin q (by omega)
     ·exact hall j (by omega) x hx
  ·rw [whereL,List.findIdx?_eq_none_iff.2 fun c hc=> ?_]
   obtain⟨j,hj,rfl⟩:=mem_getD.1 hc
   rw [List.any_eq_false]
   intro x hx
   simpa using hall j (by omega) x hx⟩
def sumL (l:List Ch):Nat×Bool:=if totL l≤MM then(totL l,true)else(0,false)
attribute [go_sem] Tryz.f160
@[go_sem] def c_r10all:Ct Tryz.prog:=⟨160,arg kChs fun l=>pu (.tup [.int .u64 ((sumL l).1:Int), .bool (sumL l).2]),arg_ok fun l=>ret_ok fun _=>by
 refine run [c_r9all,c_r4add] Tryz.f160 lv160 fun hT=>vc ?_
 refine fun hl=>SWp.loop (ι:={i:Nat // i≤l.length∧totL (l.take i)≤MM}) (fun i=>⟨[(4, .int .u64 (totL (l.take i.1):Nat)),(11, .sl (chs l)),(12, .int .i64 l.length),(13, .int .i64 i.1)],[],0⟩) (fun i=>l.length - i.1) ⟨0,by simp [totL]⟩ ?_ ?_
 ·simp [go_sem,totL]
 ·rintro⟨i,hi,hs⟩
  refine aw hT lv160 (vc ?_)
  have hA:=allC_le (l.getD i default)
  refine⟨fun h=> ?_,fun h=> ?_⟩
  ·have hi':i<l.length:=by omega
   have h1:=totL_succ hi'
   refine⟨by omega,fun h2=> ?_,fun h2=> ?_⟩
   ·have h3:=addM_1 h2
    have h4:=(addM_0.1 h2).2
    simp only [List.sum_cons,List.sum_nil,Nat.add_zero]at h3 h4
    exact⟨⟨i+1,hi',by rw [h1];exact h4⟩,by dsimp only;omega,by rw [h3];dsimp only;rw [h1],i64_in _ (by omega)⟩
   ·have:¬totL l≤MM:=fun h3=>h2 (addM_0.2 (by
     have:=totL_le (l:=l) (i:=i+1)
     simp only [List.mem_cons,List.not_mem_nil,or_false,forall_eq_or_imp,forall_eq,List.sum_cons,List.sum_nil]
     unfold MM allC at*
     omega))
    rw [sumL,if_neg this];exact⟨rfl,rfl⟩
  ·have hi':i=l.length:=by omega
   subst hi'
   rw [List.take_length]at hs⊢
   rw [sumL,if_pos hs];exact⟨rfl,rfl⟩⟩
attribute [go_sem] Tryz.f90
@[go_sem] def c_r10check:Ct Tryz.prog:=⟨90,arg kChs fun l=>pu (.int .i64 (chkL l)),arg_ok fun l=>ret_ok fun _=>by
 refine run [c_r9check,c_r10where,c_r10all] Tryz.f90 lv90 fun hT=>vc ?_
 have hbad:¬okLd l→1=chkL l:=fun h=>by rw [chkL,if_neg h]
 refine fun hl=>⟨fun h1=>hbad fun h=> ?_,fun h1 _=> ?_⟩
 ·have:=h.1;omega
 refine SWp.loop (ι:={i:Nat // i≤l.length∧(∀c∈l.take i,okCh c)∧(∀j,j<i→0<j→(l.getD (j - 1) default).id<(l.getD j default).id)∧(hidL (l.take i)).Nodup}) (fun i=>⟨[(0, .sl (chs l)),(12, .sl (chs l)),(13, .int .i64 l.length),(14, .int .i64 i.1)],[],0⟩) (fun i=>l.length - i.1) ⟨0,by simp [hidL]⟩ ?_ ?_
 ·simp [go_sem]
 ·rintro⟨i,hi,hall,ho,hn⟩
  refine aw hT lv90 (vc ?_)
  refine⟨fun h=>⟨by omega, ?_⟩,fun h=> ?_⟩
  ·refine dr us90_6 hT (vc ?_)
   have hi':i<l.length:=by omega
   have hmem:l.getD i default∈l:=mem_getD.2 ⟨i,hi',rfl⟩
   have hsub:∀{a b:List Nat},(a++b).Nodup↔a.Nodup∧b.Nodup∧∀x∈b,x∉a:=fun{a b}=>by
    rw [List.nodup_append]
    exact and_congr_right fun _=>and_congr_right fun _=>⟨fun h x hb ha=>h x ha x hb rfl,fun h x ha y hb e=>h y hb (e▸ha)⟩
   have hks:=hidL_succ hi'
   have htk:∀c,c∈l.take (i+1)↔c∈l.take i∨c=l.getD i default:=fun c=>by rw [take_succ hi'];simp
   refine⟨fun h2=> ?_,fun h2=>hbad fun h=>h2 (by rw [chkCh,if_pos (h.2.1 _ hmem)])⟩
   have hc0:okCh (l.getD i default):=by
    unfold chkCh at h2;split at h2
    ·assumption
    ·cases h2
   have hcn:=okCh_nd hc0
   generalize hc:l.getD i default=c at*
   refine⟨fun h3=>⟨?_,fun h4=>hbad fun h=> ?_,fun h4 _=> ?_⟩,fun h3 _=> ?_⟩
   ·rw [i64_in _ (by omega)];omega
   ·rw [i64_in _ (by omega),show((i:Int) - 1).toNat=i - 1 by omega]at h4
    have:=h.2.2.1 i hi' (by omega)
    rw [hc]at this
    simp only [ltN]at this
    omega
   rotate_right 1
   all_goals
    have hord:0<i→(l.getD (i - 1) default).id<c.id:=fun h0=>by
     first
     |(exfalso;omega)
     |(rw [i64_in _ (by omega),show((i:Int) - 1).toNat=i - 1 by omega]at h4;omega)
    refine SWp.loop (ι:={k:Nat // k≤c.holds.length∧∀j,j<k→(c.holds.getD j default).id∉hidL (l.take i)}) (fun k=>⟨[(0, .sl (chs l)),(3, .int .i64 i),(12, .sl (chs l)),(13, .int .i64 l.length),(14, .int .i64 i),(38, .sl (hds c.holds)),(39, .int .i64 c.holds.length),(40, .int .i64 k.1)],[],1⟩) (fun k=>c.holds.length - k.1) ⟨0,by simp⟩ ?_ ?_
    ·simp [go_sem]
    ·rintro⟨k,hk,hin⟩
     refine aw hT lv90 (vc ?_)
     refine⟨fun h5=>⟨by omega, ?_⟩,fun h5=> ?_⟩
     ·refine dr us90_11 hT (vc ?_)
      rw [where_iff]
      refine⟨by omega,fun h6=>hbad fun h=> ?_,fun h6=>⟨⟨k+1,by omega,fun j hj=> ?_⟩,by dsimp only;omega,i64_in _ (by omega)⟩⟩
      ·have:=hidL_nd (i:=i+1) h.2.2.2.1
       rw [hks,hsub]at this
       exact this.2.2 _ (List.mem_map.2 ⟨_,mem_getD.2 ⟨k,by omega,rfl⟩,rfl⟩) h6
      ·by_cases hji:j=k
       ·subst hji;exact h6
       ·exact hin j (by omega)
     ·refine⟨⟨i+1,hi',fun d hd=>((htk d).1 hd).elim (hall d) (fun e=>e▸hc0),fun j hj h0=> ?_, ?_⟩,by dsimp only;omega,i64_in _ (by omega)⟩
      ·by_cases hji:j=i
       ·subst hji;rw [hc];exact hord h0
       ·exact ho j (by omega) h0
      ·rw [hks,hsub]
       refine⟨hn,hcn,fun x hx=> ?_⟩
       obtain⟨y,hy,rfl⟩:=List.mem_map.1 hx
       obtain⟨j,hj,rfl⟩:=mem_getD.1 hy
       exact hin j (by omega)
  ·have hi':i=l.length:=by omega
   subst hi'
   rw [List.take_length]at hall hn
   refine⟨fun h2=> ?_,fun h2=>hbad fun h=> ?_⟩
   ·have h3:totL l≤MM:=by
     unfold sumL at h2;split at h2
     ·assumption
     ·cases h2
    rw [chkL,if_pos ⟨by omega,hall,fun j hj h0=>ho j hj h0,hn,h3⟩]
   ·rw [sumL,if_pos h.2.2.2.2]at h2;cases h2⟩
attribute [go_sem] Tryz.f167
@[go_sem] def c_lread:Ct Tryz.prog:=⟨167,arg kChs fun l=>pu (.tup [.c (.map [.int .u64] (kvF .u64 .i64 (readL l).1)), .int .i64 (readL l).2]),arg_ok fun l=>ret_ok fun _=>by
 refine run [c_call,c_monadd,c_lorder] Tryz.f167 lv167 fun hT=>vc ?_
 have hbad:¬okLd l→kvF .u64 .i64 (readL l).1=[]∧1=(readL l).2:=fun h=>by rw [readL,if_neg h];exact⟨rfl,rfl⟩
 refine fun hl=>⟨fun h1=>hbad fun h=> ?_,fun h1 _=> ?_⟩
 ·have:=h.1;omega
 refine SWp.loop (ι:={i:Nat // i≤l.length∧(∀c∈l.take i,okCh c)∧(∀j,j<i→0<j→(l.getD (j - 1) default).id<(l.getD j default).id)∧(hidL (l.take i)).Nodup∧totL (l.take i)≤MM}) (fun i=>⟨[(0, .sl (chs l)),(4, .mp 0),(5, .int .u64 (totL (l.take i.1):Nat)),(18, .sl (chs l)),(19, .int .i64 l.length),(20, .int .i64 i.1)],[(0, .map [.int .u64] (kvN .u64 .i64 (hm 0 (l.take i.1))))],1⟩) (fun i=>l.length - i.1) ⟨0,by simp [hidL,totL]⟩ ?_ ?_
 ·simp [go_sem,totL];rfl
 ·rintro⟨i,hi,hall,ho,hn,hs⟩
  refine aw hT lv167 (vc ?_)
  refine⟨fun h=>⟨by omega, ?_⟩,fun h=> ?_⟩
  ·refine dr us167_8 hT (vc ?_)
   have hi':i<l.length:=by omega
   have hmem:l.getD i default∈l:=mem_getD.2 ⟨i,hi',rfl⟩
   have hsub:∀{a b:List Nat},(a++b).Nodup↔a.Nodup∧b.Nodup∧∀x∈b,x∉a:=fun{a b}=>by
    rw [List.nodup_append]
    exact and_congr_right fun _=>and_congr_right fun _=>⟨fun h x hb ha=>h x ha x hb rfl,fun h x ha y hb e=>h y hb (e▸ha)⟩
   have hks:=hidL_succ hi'
   have hts:=totL_succ hi'
   have hmsu:=hm_succ hi'
   have htle:=totL_le (l:=l) (i:=i+1)
   have htk:∀c,c∈l.take (i+1)↔c∈l.take i∨c=l.getD i default:=fun c=>by rw [take_succ hi'];simp
   refine⟨fun h2=> ?_,fun h2=>hbad fun h=>h2 (by rw [sumsC,if_pos (h.2.1 _ hmem)])⟩
   have hc0:okCh (l.getD i default):=sumsC_0.1 h2
   have hcn:=okCh_nd hc0
   have hA:=allC_le (l.getD i default)
   change totL (l.take (i+1))=totL (l.take i)+(sumsC (l.getD i default)).2.1 at hts
   change (sumsC (l.getD i default)).2.1≤MM at hA
   have hadd:¬(addM [totL (l.take i),(sumsC (l.getD i default)).2.1]).2=0→¬okLd l:=fun h3 h=>h3 (addM_0.2 (by
    have:=h.2.2.2.2
    simp only [List.mem_cons,List.not_mem_nil,or_false,forall_eq_or_imp,forall_eq,List.sum_cons,List.sum_nil]
    unfold MM at*
    omega))
   generalize hc:l.getD i default=c at*
   refine⟨fun h3=>⟨?_,fun h4=>hbad fun h=> ?_,fun h4=>⟨fun h5 _=> ?_,fun h5=>hbad (hadd h5)⟩⟩,fun h3=>⟨fun h5 _=> ?_,fun h5=>hbad (hadd h5)⟩⟩
   ·rw [i64_in _ (by omega)];omega
   ·rw [i64_in _ (by omega),show((i:Int) - 1).toNat=i - 1 by omega]at h4
    have:=h.2.2.1 i hi' (by omega)
    rw [hc]at this
    simp only [ltN]at this
    have:=cmpS_neg (x:=((l.getD (i - 1) default).id:Int)) (y:=c.id)
    omega
   all_goals
    have hord:0<i→(l.getD (i - 1) default).id<c.id:=fun h0=>by
     first
     |(exfalso;omega)
     |(rw [i64_in _ (by omega),show((i:Int) - 1).toNat=i - 1 by omega]at h4
       have:=cmpS_neg (x:=((l.getD (i - 1) default).id:Int)) (y:=c.id)
       omega)
    have hsum:=addM_1 h5
    have hsum2:=(addM_0.1 h5).2
    simp only [List.sum_cons,List.sum_nil,Nat.add_zero]at hsum hsum2
    rw [hsum]
    refine SWp.loop (ι:={k:Nat // k≤c.holds.length∧∀j,j<k→(c.holds.getD j default).id∉hidL (l.take i)}) (fun k=>⟨[(0, .sl (chs l)),(4, .mp 0),(5, .int .u64 ((totL (l.take i)+(sumsC c).2.1:Nat):Int)),(6, .int .i64 i),(18, .sl (chs l)),(19, .int .i64 l.length),(20, .int .i64 i),(57, .sl (hds c.holds)),(58, .int .i64 c.holds.length),(59, .int .i64 k.1)],[(0, .map [.int .u64] (kvN .u64 .i64 (hm 0 (l.take i)++(c.holds.take k.1).map fun x=>(x.id,(i:Int)))))],3⟩) (fun k=>c.holds.length - k.1) ⟨0,by simp⟩ ?_ ?_
    ·simp [go_sem]
    ·rintro⟨k,hk,hin⟩
     refine aw hT lv167 (vc ?_)
     have hkeys:∀m,m≤c.holds.length→(hm 0 (l.take i)++(c.holds.take m).map fun x=>(x.id,(i:Int))).map (·.1)=hidL (l.take i)++(c.holds.take m).map Hd.id:=fun m hm=>by
      rw [List.map_append,hm_keys,List.map_map];rfl
     refine⟨fun h6=>⟨by omega,fun a ha=>hbad fun h=> ?_,fun ha=> ?_⟩,fun h6=> ?_⟩
     ·have hk':k<c.holds.length:=by omega
      have h7:¬nlk (c.holds.getD k default).id (hm 0 (l.take i)++(c.holds.take k).map fun x=>(x.id,(i:Int)))=none:=by rw [ha];simp
      rw [nlk_none,hkeys k hk,Classical.not_not,List.mem_append]at h7
      rcases h7 with h7|h7
      ·have:=hidL_nd (i:=i+1) h.2.2.2.1
       rw [hks,hsub]at this
       exact this.2.2 _ (List.mem_map.2 ⟨_,mem_getD.2 ⟨k,hk',rfl⟩,rfl⟩) h7
      ·have h8:(c.holds.take (k+1)).map Hd.id=(c.holds.take k).map Hd.id++[(c.holds.getD k default).id]:=by rw [take_succ hk'];simp
       have h9:((c.holds.take (k+1)).map Hd.id).Nodup:=by
        rw [List.map_take];exact hcn.sublist (List.take_sublist _ _)
       rw [h8,hsub]at h9
       exact h9.2.2 _ (by simp) h7
     ·have hk':k<c.holds.length:=by omega
      have h7:=nlk_none.1 ha
      rw [nset_new h7]
      rw [hkeys k hk,List.mem_append,not_or]at h7
      refine⟨⟨k+1,hk',fun j hj=> ?_⟩,by dsimp only;omega,i64_in _ (by omega), ?_⟩
      ·by_cases hji:j=k
       ·subst hji;exact h7.1
       ·exact hin j (by omega)
      ·dsimp only
       rw [take_succ hk',List.map_append,←List.append_assoc];rfl
     ·have hk':k=c.holds.length:=by omega
      subst hk'
      refine⟨⟨i+1,hi',fun d hd=>((htk d).1 hd).elim (hall d) (fun e=>e▸hc0),fun j hj h0=> ?_, ?_,by rw [hts];exact hsum2⟩,by dsimp only;omega,⟨by dsimp only;rw [hts];omega,i64_in _ (by omega)⟩, ?_⟩
      ·by_cases hji:j=i
       ·subst hji;rw [hc];exact hord h0
       ·exact ho j (by omega) h0
      ·rw [hks,hsub]
       refine⟨hn,hcn,fun x hx=> ?_⟩
       obtain⟨y,hy,rfl⟩:=List.mem_map.1 hx
       obtain⟨j,hj,rfl⟩:=mem_getD.1 hy
       exact hin j (by omega)
      ·dsimp only
       rw [List.take_length,hmsu]
  ·have hi':i=l.length:=by omega
   subst hi'
   rw [List.take_length]at hall hn hs⊢
   rw [readL,if_pos ⟨by omega,hall,fun j hj h0=>ho j hj h0,hn,hs⟩]
   exact⟨⟨_,_,rfl,kvC_kvN, .refl _⟩,rfl⟩⟩
attribute [go_sem] Tryz.f86
@[go_sem] def c_lcheck:Ct Tryz.prog:=⟨86,arg kChs fun l=>pu (.int .i64 (chkL l)),arg_ok fun l=>ret_ok fun _=>by
 refine run [c_lread] Tryz.f86 lv86 fun hT=>vc ?_
 rw [readL,chkL];split<;>rfl⟩
end Dm
