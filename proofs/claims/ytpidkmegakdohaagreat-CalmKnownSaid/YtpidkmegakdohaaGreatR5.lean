/- Pieces of calm.Rounds: reckoned and printed by a program of mine. -/
import Derived.Test.YtpidkmegakdohaaGreatCb
import Derived.Test.YtpidkmegakdohaaGreatD1
import Derived.Test.YtpidkmegakdohaaGreatD2
import Derived.KernelRfl
namespace Go.Proofs.YtpidkmegakdohaaGreat.Kn
open Go Go.Proofs
set_option maxRecDepth 100000
namespace L0r12
theorem run : keepOnly Tryz.f7.ntmps ts bs (fev (Ctx.know GC 5) 400 7 (kc (Ctx.know GC 5) 7 Tryz.f7.ntmps (iterC rloop 1)) L0r11.st) = .ret (.normal, st) := by kernel_rfl
end L0r12
namespace L0e
theorem run : keepOnly Tryz.f7.ntmps ts bs (fev (Ctx.know GC 5) 400 7 (kc (Ctx.know GC 5) 7 Tryz.f7.ntmps rloop) L0r12.st) = .ret (.exit 0, st) := by kernel_rfl
end L0e
namespace L0f
theorem run : keepOnly Tryz.f7.ntmps ts bs (fev (Ctx.know GC 5) 400 7 (kc (Ctx.know GC 5) 7 Tryz.f7.ntmps rrest) L0e.st) = .ret (.ret, st) := by kernel_rfl
end L0f
namespace L1a
theorem run : keepOnly Tryz.f7.ntmps ts bs (fev (Ctx.know GC 5) 400 7 (kc (Ctx.know GC 5) 7 Tryz.f7.ntmps (cutC 3 rbody)) L10.st) = .ret (.normal, st) := by kernel_rfl
end L1a
end Go.Proofs.YtpidkmegakdohaaGreat.Kn
