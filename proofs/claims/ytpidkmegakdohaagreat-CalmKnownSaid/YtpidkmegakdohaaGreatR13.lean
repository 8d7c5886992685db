/- Pieces of calm.Rounds: reckoned and printed by a program of mine. -/
import Derived.Test.YtpidkmegakdohaaGreatCb
import Derived.Test.YtpidkmegakdohaaGreatD1
import Derived.Test.YtpidkmegakdohaaGreatD2
import Derived.KernelRfl
namespace Go.Proofs.YtpidkmegakdohaaGreat.Kn
open Go Go.Proofs
set_option maxRecDepth 100000
namespace L2r9
theorem run : keepOnly Tryz.f7.ntmps ts bs (fev (Ctx.know GC 5) 400 7 (kc (Ctx.know GC 5) 7 Tryz.f7.ntmps (iterC rloop 1)) L2r8.st) = .ret (.normal, st) := by kernel_rfl
end L2r9
namespace L2r10
theorem run : keepOnly Tryz.f7.ntmps ts bs (fev (Ctx.know GC 5) 400 7 (kc (Ctx.know GC 5) 7 Tryz.f7.ntmps (iterC rloop 1)) L2r9.st) = .ret (.normal, st) := by kernel_rfl
end L2r10
namespace L2r11
theorem run : keepOnly Tryz.f7.ntmps ts bs (fev (Ctx.know GC 5) 400 7 (kc (Ctx.know GC 5) 7 Tryz.f7.ntmps (iterC rloop 1)) L2r10.st) = .ret (.normal, st) := by kernel_rfl
end L2r11
namespace L2r12
theorem run : keepOnly Tryz.f7.ntmps ts bs (fev (Ctx.know GC 5) 400 7 (kc (Ctx.know GC 5) 7 Tryz.f7.ntmps (iterC rloop 1)) L2r11.st) = .ret (.normal, st) := by kernel_rfl
end L2r12
end Go.Proofs.YtpidkmegakdohaaGreat.Kn
