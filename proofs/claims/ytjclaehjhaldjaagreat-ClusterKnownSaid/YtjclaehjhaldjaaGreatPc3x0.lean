/- A closed run, cut: what is there behind the first 6 statements of function 3, as far as it is wanted: reckoned and printed by kpieces.py. -/
import Derived.Test.YtjclaehjhaldjaaGreatKP
import Derived.Test.YtjclaehjhaldjaaGreatKC
import Derived.KernelRfl
namespace Go.Proofs.YtjclaehjhaldjaaGreat.Kn
open Go Go.Proofs
set_option maxRecDepth 100000
noncomputable def body3 : Code := match Tryz.f3.body with | some c => c | none => .skip
namespace Pc3x0
def ts : List Nat := [0, 3, 5, 6]
def bs : List Nat := [287, 4, 282, 6, 5, 138, 31, 30, 141, 139, 140, 17, 18, 28, 145, 144, 277, 170, 169, 280, 278, 279, 156, 157, 168, 283, 284, 285, 286]
def sl : List (Nat × SV) :=
  [(0, (SV.v (AV.one (bo Bool.false)))),
   (3, (SV.v (AV.one (CV.ptr 287 0 0 0)))),
   (5, (SV.v (AV.one (CV.fn 6 [(287, (0, (0, 0)))])))),
   (6, (SV.v (AV.one (bo Bool.true))))]
def hp : List (Nat × Ob) :=
  [(287, (Ob.cells [(CV.ptr 4 0 0 0)])),
   (4, (Ob.cells [iz 2, iz 2, (CV.sl Bool.false 282 0 0 0 2 2 Bool.false 1), (CV.ptr 283 0 0 0), (CV.ptr 284 0 0 0), (CV.ptr 285 0 0 0), (CV.ptr 286 0 0 0), ns])),
   (282, (Ob.cells [(CV.ptr 6 0 0 0), (CV.ptr 145 0 0 0)])),
   (6, (Ob.cells [(CV.ptr 5 0 0 0), iz 0, (CV.ptr 31 0 0 0)])),
   (5, (Ob.cells [(CV.sl Bool.false 138 0 0 0 24 24 Bool.false 1), iz 0])),
   (138, (Ob.cells [b8 15, b8 46, b8 100, b8 141, b8 145, b8 168, b8 182, b8 209, b8 213, b8 1, b8 0, b8 0, b8 0, b8 1, b8 0, b8 0, b8 0, b8 0, b8 0, b8 0, b8 0, b8 0, b8 0, b8 0])),
   (31, (Ob.cells [(CV.ptr 30 0 0 0), (CV.ptr 141 0 0 0), iz 0, iz 0, iz 0, iz 0, iz 0, iz 0, iz 0, iz 2, (CV.sl Bool.false 17 0 0 0 2 2 Bool.false 2), (CV.ptr 18 0 0 0), ns, ns])),
   (30, (Ob.cells [(CV.ptr 5 0 0 0)])),
   (141, (Ob.cells [iz 0, iz 0, (CV.f (FV.lit (Value.int IntKind.i64 (Int.negSucc 0)))), iz 0, (CV.sl Bool.false 139 0 0 0 2 2 Bool.true 1), (CV.sl Bool.false 140 0 0 0 2 2 Bool.true 5)])),
   (139, (Ob.cells [iz 0, iz 0])),
   (140, (Ob.cells [iz 1, iz 0, iz 0, iz 0, bo Bool.false, iz 0, iz 0, iz 0, iz 0, bo Bool.false])),
   (17, (Ob.cells [iz 1, iz 0, iz 1, iz 1])),
   (18, (Ob.cells [iz 2, (CV.sl Bool.false 17 0 0 0 2 2 Bool.false 2), iz 1, bo Bool.false, iz 0, iz 2, (CV.ptr 28 0 0 0), np, np, np, np, np])),
   (28, (Ob.cells [ns, iz 0, iz 0, iz 0, tx [], iz 0, iz 0, iz 0, tx [], iz 0, iz 0, iz 0, tx [], iz 0, iz 0, iz 0, tx [], iz 0, iz 1, bo Bool.false, iz 0])),
   (145, (Ob.cells [(CV.ptr 144 0 0 0), iz 0, (CV.ptr 170 0 0 0)])),
   (144, (Ob.cells [(CV.sl Bool.false 277 0 0 0 24 24 Bool.false 1), iz 0])),
   (277, (Ob.cells [b8 15, b8 46, b8 100, b8 141, b8 145, b8 168, b8 182, b8 209, b8 213, b8 1, b8 0, b8 0, b8 0, b8 1, b8 0, b8 0, b8 0, b8 0, b8 0, b8 0, b8 0, b8 0, b8 0, b8 0])),
   (170, (Ob.cells [(CV.ptr 169 0 0 0), (CV.ptr 280 0 0 0), iz 0, iz 0, iz 0, iz 0, iz 0, iz 0, iz 0, iz 2, (CV.sl Bool.false 156 0 0 0 2 2 Bool.false 2), (CV.ptr 157 0 0 0), ns, ns])),
   (169, (Ob.cells [(CV.ptr 144 0 0 0)])),
   (280, (Ob.cells [iz 1, iz 1, (CV.f (FV.lit (Value.int IntKind.i64 (Int.negSucc 0)))), iz 0, (CV.sl Bool.false 278 0 0 0 2 2 Bool.true 1), (CV.sl Bool.false 279 0 0 0 2 2 Bool.true 5)])),
   (278, (Ob.cells [iz 0, iz 0])),
   (279, (Ob.cells [iz 0, iz 0, iz 0, iz 0, bo Bool.false, iz 1, iz 0, iz 0, iz 0, bo Bool.false])),
   (156, (Ob.cells [iz 1, iz 0, iz 1, iz 1])),
   (157, (Ob.cells [iz 2, (CV.sl Bool.false 156 0 0 0 2 2 Bool.false 2), iz 1, bo Bool.false, iz 1, iz 2, np, (CV.ptr 168 0 0 0), np, np, np, np])),
   (168, (Ob.cells [ns, iz 0, iz 0, iz 0, tx [], iz 0, iz 0, iz 0, tx [], iz 0, iz 0, iz 0, tx [], iz 0, iz 0, iz 0, tx [], iz 1, iz 1, bo Bool.false, iz 0])),
   (283, (Ob.cells [iz 0, iz 0, iz 0, tx [], tx [], tx [], bo Bool.false])),
   (284, (Ob.cells [iz 1, iz 0, iz 0, tx [], tx [], tx [], bo Bool.false])),
   (285, (Ob.cells [iz 2, iz 0, iz 0, tx [], tx [], tx [], bo Bool.false])),
   (286, (Ob.cells [iz 3, iz 0, iz 0, tx [], tx [], tx [], bo Bool.false]))]
noncomputable def st : St := ⟨mkS Tryz.f3.ntmps sl, mkH hp, 353, true, 0, []⟩
theorem run : keepOnly Tryz.f3.ntmps ts bs (fev (Ctx.know GC 5) 400 3 (kc (Ctx.know GC 5) 3 Tryz.f3.ntmps (cutC 6 (restC 0 body3))) ⟨Slots.none Tryz.f3.ntmps, Heap.none, 0, false, 0, []⟩) = .ret (.normal, st) := by kernel_rfl
end Pc3x0
end Go.Proofs.YtjclaehjhaldjaaGreat.Kn
