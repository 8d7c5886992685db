/- A closed run, cut: what is there behind the first 18 statements of function 3, as far as it is wanted: reckoned and printed by kpieces.py. -/
import Derived.Test.YtjclaehjhaldjaaGreatKP
import Derived.Test.YtjclaehjhaldjaaGreatKC
import Derived.KernelRfl
import Derived.Test.YtjclaehjhaldjaaGreatPc3x1
namespace Go.Proofs.YtjclaehjhaldjaaGreat.Kn
open Go Go.Proofs
set_option maxRecDepth 100000
namespace Pc3x2
def ts : List Nat := [0, 3, 5, 6, 7, 8, 9, 10, 11, 12, 13, 14, 15, 16, 17]
def bs : List Nat := [287, 4, 282, 6, 5, 1866, 1542, 1541, 1869, 1867, 1868, 1478, 1479, 1489, 1758, 145, 144, 277, 170, 169, 280, 278, 279, 156, 157, 168, 283, 284, 285, 286, 623, 485, 494, 624, 1337, 1336, 1343, 1349, 1455, 1461, 1870]
def sl : List (Nat × SV) :=
  [(0, (SV.v (AV.one (bo Bool.false)))),
   (3, (SV.v (AV.one (CV.ptr 287 0 0 0)))),
   (5, (SV.v (AV.one (CV.fn 6 [(287, (0, (0, 0)))])))),
   (6, (SV.v (AV.one (bo Bool.true)))),
   (7, (SV.v (AV.one (iz 0)))),
   (8, (SV.v (AV.one (CV.ptr 485 0 0 0)))),
   (9, (SV.v (AV.one (CV.ptr 494 0 0 0)))),
   (10, (SV.v (AV.one (CV.ptr 624 0 0 0)))),
   (11, (SV.v (AV.one (iz 2)))),
   (12, (SV.v (AV.one (CV.ptr 1337 0 0 0)))),
   (13, (SV.v (AV.one (CV.ptr 1343 0 0 0)))),
   (14, (SV.v (AV.one (CV.ptr 1349 0 0 0)))),
   (15, (SV.v (AV.one (CV.ptr 1455 0 0 0)))),
   (16, (SV.v (AV.one (CV.ptr 1461 0 0 0)))),
   (17, (SV.v (AV.one (CV.ptr 1870 0 0 0))))]
def hp : List (Nat × Ob) :=
  [(287, (Ob.cells [(CV.ptr 4 0 0 0)])),
   (4, (Ob.cells [iz 2, iz 2, (CV.sl Bool.false 282 0 0 0 2 2 Bool.false 1), (CV.ptr 283 0 0 0), (CV.ptr 284 0 0 0), (CV.ptr 285 0 0 0), (CV.ptr 286 0 0 0), (CV.sl Bool.false 623 0 0 0 0 2 Bool.false 1)])),
   (282, (Ob.cells [(CV.ptr 6 0 0 0), (CV.ptr 145 0 0 0)])),
   (6, (Ob.cells [(CV.ptr 5 0 0 0), iz 0, (CV.ptr 1542 0 0 0)])),
   (5, (Ob.cells [(CV.sl Bool.false 1866 0 0 0 74 74 Bool.false 1), iz 50])),
   (1866, (Ob.cells [b8 15, b8 46, b8 100, b8 141, b8 145, b8 168, b8 182, b8 209, b8 213, b8 1, b8 0, b8 0, b8 0, b8 1, b8 0, b8 0, b8 0, b8 0, b8 0, b8 0, b8 0, b8 0, b8 0, b8 0, b8 17, b8 44, b8 226, b8 25, b8 135, b8 30, b8 182, b8 59, b8 85, b8 3, b8 0, b8 0, b8 0, b8 0, b8 1, b8 1, b8 2, b8 1, b8 107, b8 1, b8 118, b8 0, b8 0, b8 0, b8 0, b8 0, b8 15, b8 35, b8 168, b8 17, b8 50, b8 3, b8 133, b8 10, b8 134, b8 1, b8 0, b8 0, b8 0, b8 2, b8 0, b8 0, b8 0, b8 0, b8 0, b8 0, b8 0, b8 0, b8 0, b8 0])),
   (1542, (Ob.cells [(CV.ptr 1541 0 0 0), (CV.ptr 1869 0 0 0), iz 0, iz 0, iz 0, iz 0, iz 0, iz 0, iz 0, iz 2, (CV.sl Bool.false 1478 0 0 0 2 2 Bool.false 2), (CV.ptr 1479 0 0 0), ns, ns])),
   (1541, (Ob.cells [(CV.ptr 5 0 0 0)])),
   (1869, (Ob.cells [iz 0, iz 0, (CV.f (FV.lit (Value.int IntKind.i64 (Int.negSucc 0)))), iz 0, (CV.sl Bool.false 1867 0 0 0 2 2 Bool.true 1), (CV.sl Bool.false 1868 0 0 0 2 2 Bool.true 5)])),
   (1867, (Ob.cells [iz 0, iz 0])),
   (1868, (Ob.cells [iz 2, iz 0, iz 0, iz 0, bo Bool.false, iz 0, iz 0, iz 0, iz 0, bo Bool.false])),
   (1478, (Ob.cells [iz 1, iz 0, iz 1, iz 1])),
   (1479, (Ob.cells [iz 2, (CV.sl Bool.false 1478 0 0 0 2 2 Bool.false 2), iz 2, bo Bool.false, iz 0, iz 2, (CV.ptr 1489 0 0 0), np, np, np, np, np])),
   (1489, (Ob.cells [(CV.sl Bool.false 1758 0 0 0 1 1 Bool.false 2), iz 0, iz 0, iz 0, tx [], iz 1, iz 1, iz 0, tx [], iz 0, iz 0, iz 0, tx [], iz 0, iz 0, iz 0, tx [], iz 0, iz 1, bo Bool.false, iz 0])),
   (1758, (Ob.cells [tx [107], tx [118]])),
   (145, (Ob.cells [(CV.ptr 144 0 0 0), iz 0, (CV.ptr 170 0 0 0)])),
   (144, (Ob.cells [(CV.sl Bool.false 277 0 0 0 24 24 Bool.false 1), iz 0])),
   (277, (Ob.cells [b8 15, b8 46, b8 100, b8 141, b8 145, b8 168, b8 182, b8 209, b8 213, b8 1, b8 0, b8 0, b8 0, b8 1, b8 0, b8 0, b8 0, b8 0, b8 0, b8 0, b8 0, b8 0, b8 0, b8 0])),
   (170, (Ob.cells [(CV.ptr 169 0 0 0), (CV.ptr 280 0 0 0), iz 0, iz 0, iz 0, iz 0, iz 0, iz 0, iz 0, iz 2, (CV.sl Bool.false 156 0 0 0 2 2 Bool.false 2), (CV.ptr 157 0 0 0), ns, ns])),
   (169, (Ob.cells [(CV.ptr 144 0 0 0)])),
   (280, (Ob.cells [iz 1, iz 1, (CV.f (FV.lit (Value.int IntKind.i64 (Int.negSucc 0)))), iz 0, (CV.sl Bool.false 278 0 0 0 2 2 Bool.true 1), (CV.sl Bool.false 279 0 0 0 2 2 Bool.true 5)])),
   (278, (Ob.cells [iz 0, iz 0])),
   (279, (Ob.cells [iz 0, iz 0, iz 0, iz 0, bo Bool.false, iz 1, iz 0, iz 0, iz 0, bo Bool.false])),
   (156, (Ob.cells [iz 1, iz 0, iz 1, iz 1])),
   (157, (Ob.cells [iz 2, (CV.sl Bool.false 156 0 0 0 2 2 Bool.false 2), iz 1, bo Bool.false, iz 1, iz 2, np, (CV.ptr 168 0 0 0), np, np, np, np])),
   (168, (Ob.cells [ns, iz 0, iz 0, iz 0, tx [], iz 0, iz 0, iz 0, tx [], iz 0, iz 0, iz 0, tx [], iz 0, iz 0, iz 0, tx [], iz 1, iz 1, bo Bool.false, iz 0])),
   (283, (Ob.cells [iz 0, iz 0, iz 0, tx [], tx [], tx [], bo Bool.false])),
   (284, (Ob.cells [iz 1, iz 1, iz 2, tx [107], tx [118], tx [], bo Bool.true])),
   (285, (Ob.cells [iz 2, iz 0, iz 0, tx [], tx [], tx [], bo Bool.false])),
   (286, (Ob.cells [iz 3, iz 0, iz 0, tx [], tx [], tx [], bo Bool.false])),
   (623, (Ob.cells [ns, ns])),
   (485, (Ob.cells [iz 0, ns, iz 0, iz 0, tx [], bo Bool.false])),
   (494, (Ob.cells [iz 7, ns, iz 0, iz 0, tx [], bo Bool.false])),
   (624, (Ob.cells [iz 0, ns, iz 0, iz 0, tx [], bo Bool.false])),
   (1337, (Ob.cells [iz 0, (CV.sl Bool.false 1336 0 0 0 1 1 Bool.true 6), iz 0, iz 0, tx [], bo Bool.false])),
   (1336, (Ob.cells [iz 1, iz 1, iz 2, tx [107], tx [118], tx []])),
   (1343, (Ob.cells [iz 10, ns, iz 0, iz 0, tx [], bo Bool.false])),
   (1349, (Ob.cells [iz 10, ns, iz 0, iz 0, tx [], bo Bool.false])),
   (1455, (Ob.cells [iz 10, ns, iz 0, iz 0, tx [], bo Bool.false])),
   (1461, (Ob.cells [iz 10, ns, iz 0, iz 0, tx [], bo Bool.false])),
   (1870, (Ob.cells [iz 0, ns, iz 0, iz 0, tx [], bo Bool.false]))]
noncomputable def st : St := ⟨mkS Tryz.f3.ntmps sl, mkH hp, 1871, true, 0, []⟩
theorem run : keepOnly Tryz.f3.ntmps ts bs (fev (Ctx.know GC 5) 388 3 (kc (Ctx.know GC 5) 3 Tryz.f3.ntmps (cutC 6 (restC 12 body3))) Pc3x1.st) = .ret (.normal, st) := by kernel_rfl
end Pc3x2
end Go.Proofs.YtjclaehjhaldjaaGreat.Kn
