/- The law's own statements: reckoned and printed by a program of mine. -/
import Derived.Test.YtpidkmegakdohaaGreatCb
import Derived.Test.YtpidkmegakdohaaGreatD1
import Derived.Test.YtpidkmegakdohaaGreatD2
import Derived.KernelRfl
namespace Go.Proofs.YtpidkmegakdohaaGreat.Kn
open Go Go.Proofs
set_option maxRecDepth 100000
namespace T0
theorem run : keepOnly Tryz.f3.ntmps ts bs (fev (Ctx.know GC 5) 400 3 (kc (Ctx.know GC 5) 3 Tryz.f3.ntmps (cutC 4 (restC 0 body3))) ⟨Slots.none Tryz.f3.ntmps, Heap.none, 0, false, 0, []⟩) = .ret (.normal, st) := by kernel_rfl
end T0
namespace T1
theorem run : keepOnly Tryz.f3.ntmps ts bs (fev (Ctx.knowL (Ctx.know GC 5) 7 [L0z.lc]) 396 3 (kc (Ctx.knowL (Ctx.know GC 5) 7 [L0z.lc]) 3 Tryz.f3.ntmps (cutC 1 (restC 4 body3))) T0.st) = .ret (.normal, st) := by kernel_rfl
end T1
namespace T2
theorem run : keepOnly Tryz.f3.ntmps ts bs (fev (Ctx.knowL (Ctx.know GC 5) 7 [L0z.lc]) 395 3 (kc (Ctx.knowL (Ctx.know GC 5) 7 [L0z.lc]) 3 Tryz.f3.ntmps (cutC 2 (restC 5 body3))) T1.st) = .ret (.normal, st) := by kernel_rfl
end T2
namespace T3
theorem run : keepOnly Tryz.f3.ntmps ts bs (fev (Ctx.knowL (Ctx.know GC 5) 7 [L0z.lc, L1z.lc]) 393 3 (kc (Ctx.knowL (Ctx.know GC 5) 7 [L0z.lc, L1z.lc]) 3 Tryz.f3.ntmps (cutC 1 (restC 7 body3))) T2.st) = .ret (.normal, st) := by kernel_rfl
end T3
namespace T4
theorem run : keepOnly Tryz.f3.ntmps ts bs (fev (Ctx.knowL (Ctx.know GC 5) 7 [L0z.lc, L1z.lc]) 392 3 (kc (Ctx.knowL (Ctx.know GC 5) 7 [L0z.lc, L1z.lc]) 3 Tryz.f3.ntmps (cutC 5 (restC 8 body3))) T3.st) = .ret (.normal, st) := by kernel_rfl
end T4
namespace T5
theorem run : keepOnly Tryz.f3.ntmps ts bs (fev (Ctx.knowL (Ctx.know GC 5) 7 [L0z.lc, L1z.lc, L2z.lc]) 387 3 (kc (Ctx.knowL (Ctx.know GC 5) 7 [L0z.lc, L1z.lc, L2z.lc]) 3 Tryz.f3.ntmps (cutC 1 (restC 13 body3))) T4.st) = .ret (.normal, st) := by kernel_rfl
end T5
end Go.Proofs.YtpidkmegakdohaaGreat.Kn
