/- Pieces of calm.Rounds: reckoned and printed by a program of mine. -/
import Derived.Test.YtpidkmegakdohaaGreatCb
import Derived.Test.YtpidkmegakdohaaGreatD1
import Derived.Test.YtpidkmegakdohaaGreatD2
import Derived.KernelRfl
namespace Go.Proofs.YtpidkmegakdohaaGreat.Kn
open Go Go.Proofs
set_option maxRecDepth 100000
namespace L1e
theorem run : keepOnly Tryz.f7.ntmps ts bs (fev (Ctx.know GC 5) 400 7 (kc (Ctx.know GC 5) 7 Tryz.f7.ntmps rloop) L1r15.st) = .ret (.exit 0, st) := by kernel_rfl
end L1e
namespace L1f
theorem run : keepOnly Tryz.f7.ntmps ts bs (fev (Ctx.know GC 5) 400 7 (kc (Ctx.know GC 5) 7 Tryz.f7.ntmps rrest) L1e.st) = .ret (.ret, st) := by kernel_rfl
end L1f
namespace L2a
theorem run : keepOnly Tryz.f7.ntmps ts bs (fev (Ctx.know GC 5) 400 7 (kc (Ctx.know GC 5) 7 Tryz.f7.ntmps (cutC 3 rbody)) L20.st) = .ret (.normal, st) := by kernel_rfl
end L2a
namespace L2r0
theorem run : keepOnly Tryz.f7.ntmps ts bs (fev (Ctx.know GC 5) 400 7 (kc (Ctx.know GC 5) 7 Tryz.f7.ntmps (iterC rloop 1)) L2a.st) = .ret (.normal, st) := by kernel_rfl
end L2r0
end Go.Proofs.YtpidkmegakdohaaGreat.Kn
