/- A closed run, cut: what is there behind the first 12 statements of function 3, as far as it is wanted: reckoned and printed by kpieces.py. -/
import Derived.Test.YtjclaehjhaldjaaGreatKP
import Derived.Test.YtjclaehjhaldjaaGreatKC
import Derived.KernelRfl
import Derived.Test.YtjclaehjhaldjaaGreatPc3x0
namespace Go.Proofs.YtjclaehjhaldjaaGreat.Kn
open Go Go.Proofs
set_option maxRecDepth 100000
namespace Pc3x1
def ts : List Nat := [0, 3, 5, 6, 7, 8, 9, 10, 11]
def bs : List Nat := [287, 4, 282, 6, 5, 1074, 31, 30, 141, 139, 140, 17, 18, 28, 966, 1081, 1076, 145, 144, 277, 170, 169, 280, 278, 279, 156, 157, 168, 283, 284, 285, 286, 623, 621, 485, 494, 624]
def sl : List (Nat × SV) :=
  [(0, (SV.v (AV.one (bo Bool.false)))),
   (3, (SV.v (AV.one (CV.ptr 287 0 0 0)))),
   (5, (SV.v (AV.one (CV.fn 6 [(287, (0, (0, 0)))])))),
   (6, (SV.v (AV.one (bo Bool.true)))),
   (7, (SV.v (AV.one (iz 0)))),
   (8, (SV.v (AV.one (CV.ptr 485 0 0 0)))),
   (9, (SV.v (AV.one (CV.ptr 494 0 0 0)))),
   (10, (SV.v (AV.one (CV.ptr 624 0 0 0)))),
   (11, (SV.v (AV.one (iz 2))))]
def hp : List (Nat × Ob) :=
  [(287, (Ob.cells [(CV.ptr 4 0 0 0)])),
   (4, (Ob.cells [iz 2, iz 2, (CV.sl Bool.false 282 0 0 0 2 2 Bool.false 1), (CV.ptr 283 0 0 0), (CV.ptr 284 0 0 0), (CV.ptr 285 0 0 0), (CV.ptr 286 0 0 0), (CV.sl Bool.false 623 0 0 0 1 2 Bool.false 1)])),
   (282, (Ob.cells [(CV.ptr 6 0 0 0), (CV.ptr 145 0 0 0)])),
   (6, (Ob.cells [(CV.ptr 5 0 0 0), iz 0, (CV.ptr 31 0 0 0)])),
   (5, (Ob.cells [(CV.sl Bool.false 1074 0 0 0 50 50 Bool.false 1), iz 0])),
   (1074, (Ob.cells [b8 15, b8 46, b8 100, b8 141, b8 145, b8 168, b8 182, b8 209, b8 213, b8 1, b8 0, b8 0, b8 0, b8 1, b8 0, b8 0, b8 0, b8 0, b8 0, b8 0, b8 0, b8 0, b8 0, b8 0, b8 17, b8 44, b8 226, b8 25, b8 135, b8 30, b8 182, b8 59, b8 85, b8 3, b8 0, b8 0, b8 0, b8 0, b8 1, b8 1, b8 2, b8 1, b8 107, b8 1, b8 118, b8 0, b8 0, b8 0, b8 0, b8 0])),
   (31, (Ob.cells [(CV.ptr 30 0 0 0), (CV.ptr 141 0 0 0), iz 0, iz 0, iz 0, iz 0, iz 0, iz 0, iz 0, iz 2, (CV.sl Bool.false 17 0 0 0 2 2 Bool.false 2), (CV.ptr 18 0 0 0), (CV.sl Bool.false 1081 0 0 0 1 1 Bool.false 23), (CV.sl Bool.false 1076 0 0 0 1 1 Bool.false 6)])),
   (30, (Ob.cells [(CV.ptr 5 0 0 0)])),
   (141, (Ob.cells [iz 0, iz 0, (CV.f (FV.lit (Value.int IntKind.i64 (Int.negSucc 0)))), iz 0, (CV.sl Bool.false 139 0 0 0 2 2 Bool.true 1), (CV.sl Bool.false 140 0 0 0 2 2 Bool.true 5)])),
   (139, (Ob.cells [iz 0, iz 0])),
   (140, (Ob.cells [iz 1, iz 0, iz 0, iz 0, bo Bool.false, iz 0, iz 0, iz 0, iz 0, bo Bool.false])),
   (17, (Ob.cells [iz 1, iz 0, iz 1, iz 1])),
   (18, (Ob.cells [iz 2, (CV.sl Bool.false 17 0 0 0 2 2 Bool.false 2), iz 1, bo Bool.false, iz 0, iz 2, (CV.ptr 28 0 0 0), np, np, np, np, np])),
   (28, (Ob.cells [(CV.sl Bool.false 966 0 0 0 1 1 Bool.false 2), iz 0, iz 0, iz 0, tx [], iz 1, iz 1, iz 0, tx [], iz 0, iz 0, iz 0, tx [], iz 0, iz 0, iz 0, tx [], iz 0, iz 1, bo Bool.false, iz 0])),
   (966, (Ob.cells [tx [107], tx [118]])),
   (1081, (Ob.cells [iz 9, iz 0, iz 101, iz 0, iz 0, iz 0, iz 0, iz 0, bo Bool.false, iz 1, iz 1, iz 2, tx [107], tx [118], tx [], iz 0, tx [], ns, ns, iz 0, iz 0, ns, ns])),
   (1076, (Ob.cells [iz 1, iz 1, iz 2, tx [107], tx [118], tx []])),
   (145, (Ob.cells [(CV.ptr 144 0 0 0), iz 0, (CV.ptr 170 0 0 0)])),
   (144, (Ob.cells [(CV.sl Bool.false 277 0 0 0 24 24 Bool.false 1), iz 0])),
   (277, (Ob.cells [b8 15, b8 46, b8 100, b8 141, b8 145, b8 168, b8 182, b8 209, b8 213, b8 1, b8 0, b8 0, b8 0, b8 1, b8 0, b8 0, b8 0, b8 0, b8 0, b8 0, b8 0, b8 0, b8 0, b8 0])),
   (170, (Ob.cells [(CV.ptr 169 0 0 0), (CV.ptr 280 0 0 0), iz 0, iz 0, iz 0, iz 0, iz 0, iz 0, iz 0, iz 2, (CV.sl Bool.false 156 0 0 0 2 2 Bool.false 2), (CV.ptr 157 0 0 0), ns, ns])),
   (169, (Ob.cells [(CV.ptr 144 0 0 0)])),
   (280, (Ob.cells [iz 1, iz 1, (CV.f (FV.lit (Value.int IntKind.i64 (Int.negSucc 0)))), iz 0, (CV.sl Bool.false 278 0 0 0 2 2 Bool.true 1), (CV.sl Bool.false 279 0 0 0 2 2 Bool.true 5)])),
   (278, (Ob.cells [iz 0, iz 0])),
   (279, (Ob.cells [iz 0, iz 0, iz 0, iz 0, bo Bool.false, iz 1, iz 0, iz 0, iz 0, bo Bool.false])),
   (156, (Ob.cells [iz 1, iz 0, iz 1, iz 1])),
   (157, (Ob.cells [iz 2, (CV.sl Bool.false 156 0 0 0 2 2 Bool.false 2), iz 1, bo Bool.false, iz 1, iz 2, np, (CV.ptr 168 0 0 0), np, np, np, np])),
   (168, (Ob.cells [ns, iz 0, iz 0, iz 0, tx [], iz 0, iz 0, iz 0, tx [], iz 0, iz 0, iz 0, tx [], iz 0, iz 0, iz 0, tx [], iz 1, iz 1, bo Bool.false, iz 0])),
   (283, (Ob.cells [iz 0, iz 0, iz 0, tx [], tx [], tx [], bo Bool.false])),
   (284, (Ob.cells [iz 1, iz 1, iz 2, tx [107], tx [118], tx [], bo Bool.true])),
   (285, (Ob.cells [iz 2, iz 0, iz 0, tx [], tx [], tx [], bo Bool.false])),
   (286, (Ob.cells [iz 3, iz 0, iz 0, tx [], tx [], tx [], bo Bool.false])),
   (623, (Ob.cells [(CV.sl Bool.false 621 0 0 0 25 25 Bool.true 1), ns])),
   (621, (Ob.cells [b8 8, b8 101, b8 0, b8 0, b8 0, b8 0, b8 0, b8 0, b8 0, b8 1, b8 1, b8 2, b8 1, b8 107, b8 1, b8 118, b8 0, b8 0, b8 0, b8 0, b8 0, b8 0, b8 0, b8 0, b8 0])),
   (485, (Ob.cells [iz 0, ns, iz 0, iz 0, tx [], bo Bool.false])),
   (494, (Ob.cells [iz 7, ns, iz 0, iz 0, tx [], bo Bool.false])),
   (624, (Ob.cells [iz 0, ns, iz 0, iz 0, tx [], bo Bool.false]))]
noncomputable def st : St := ⟨mkS Tryz.f3.ntmps sl, mkH hp, 1082, true, 0, []⟩
theorem run : keepOnly Tryz.f3.ntmps ts bs (fev (Ctx.know GC 5) 394 3 (kc (Ctx.know GC 5) 3 Tryz.f3.ntmps (cutC 6 (restC 6 body3))) Pc3x0.st) = .ret (.normal, st) := by kernel_rfl
end Pc3x1
end Go.Proofs.YtjclaehjhaldjaaGreat.Kn
