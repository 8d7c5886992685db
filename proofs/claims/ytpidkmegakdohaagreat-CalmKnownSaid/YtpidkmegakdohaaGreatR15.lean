/- Pieces of calm.Rounds: reckoned and printed by a program of mine. -/
import Derived.Test.YtpidkmegakdohaaGreatCb
import Derived.Test.YtpidkmegakdohaaGreatD1
import Derived.Test.YtpidkmegakdohaaGreatD2
import Derived.KernelRfl
namespace Go.Proofs.YtpidkmegakdohaaGreat.Kn
open Go Go.Proofs
set_option maxRecDepth 100000
namespace L2f
theorem run : keepOnly Tryz.f7.ntmps ts bs (fev (Ctx.know GC 5) 400 7 (kc (Ctx.know GC 5) 7 Tryz.f7.ntmps rrest) L2e.st) = .ret (.ret, st) := by kernel_rfl
end L2f
end Go.Proofs.YtpidkmegakdohaaGreat.Kn
