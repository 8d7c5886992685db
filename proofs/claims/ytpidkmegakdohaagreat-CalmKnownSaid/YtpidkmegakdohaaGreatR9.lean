/- Pieces of calm.Rounds: reckoned and printed by a program of mine. -/
import Derived.Test.YtpidkmegakdohaaGreatCb
import Derived.Test.YtpidkmegakdohaaGreatD1
import Derived.Test.YtpidkmegakdohaaGreatD2
import Derived.KernelRfl
namespace Go.Proofs.YtpidkmegakdohaaGreat.Kn
open Go Go.Proofs
set_option maxRecDepth 100000
namespace L1r12
theorem run : keepOnly Tryz.f7.ntmps ts bs (fev (Ctx.know GC 5) 400 7 (kc (Ctx.know GC 5) 7 Tryz.f7.ntmps (iterC rloop 1)) L1r11.st) = .ret (.normal, st) := by kernel_rfl
end L1r12
namespace L1r13
theorem run : keepOnly Tryz.f7.ntmps ts bs (fev (Ctx.know GC 5) 400 7 (kc (Ctx.know GC 5) 7 Tryz.f7.ntmps (iterC rloop 1)) L1r12.st) = .ret (.normal, st) := by kernel_rfl
end L1r13
namespace L1r14
theorem run : keepOnly Tryz.f7.ntmps ts bs (fev (Ctx.know GC 5) 400 7 (kc (Ctx.know GC 5) 7 Tryz.f7.ntmps (iterC rloop 1)) L1r13.st) = .ret (.normal, st) := by kernel_rfl
end L1r14
namespace L1r15
theorem run : keepOnly Tryz.f7.ntmps ts bs (fev (Ctx.know GC 5) 400 7 (kc (Ctx.know GC 5) 7 Tryz.f7.ntmps (iterC rloop 1)) L1r14.st) = .ret (.normal, st) := by kernel_rfl
end L1r15
end Go.Proofs.YtpidkmegakdohaaGreat.Kn
