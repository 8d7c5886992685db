/- Pieces of calm.Rounds: reckoned and printed by a program of mine. -/
import Derived.Test.YtpidkmegakdohaaGreatCb
import Derived.Test.YtpidkmegakdohaaGreatD1
import Derived.Test.YtpidkmegakdohaaGreatD2
import Derived.KernelRfl
namespace Go.Proofs.YtpidkmegakdohaaGreat.Kn
open Go Go.Proofs
set_option maxRecDepth 100000
namespace L0a
theorem run : keepOnly Tryz.f7.ntmps ts bs (fev (Ctx.know GC 5) 400 7 (kc (Ctx.know GC 5) 7 Tryz.f7.ntmps (cutC 3 rbody)) L00.st) = .ret (.normal, st) := by kernel_rfl
end L0a
namespace L0q0
theorem run : keepOnly Tryz.f7.ntmps ts bs (fev (Ctx.know GC 5) 400 7 (kc (Ctx.know GC 5) 7 Tryz.f7.ntmps (iterC rloop 1)) L0a.st) = .ret (.normal, st) := by kernel_rfl
end L0q0
namespace L0q1
theorem run : keepOnly Tryz.f7.ntmps ts bs (fev (Ctx.know GC 5) 400 7 (kc (Ctx.know GC 5) 7 Tryz.f7.ntmps (iterC rloop 1)) L0q0.st) = .ret (.normal, st) := by kernel_rfl
end L0q1
namespace L0q2
theorem run : keepOnly Tryz.f7.ntmps ts bs (fev (Ctx.know GC 5) 400 7 (kc (Ctx.know GC 5) 7 Tryz.f7.ntmps (iterC rloop 1)) L0q1.st) = .ret (.normal, st) := by kernel_rfl
end L0q2
end Go.Proofs.YtpidkmegakdohaaGreat.Kn
