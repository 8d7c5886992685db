/- Function 5, called without arguments, returns true and leaves what is there as it was: a run of the closed engine. -/
import Derived.Test.YtpidkmegakdohaaGreatKJ
import Derived.Test.YtpidkmegakdohaaGreatKD
import Derived.KernelRfl
namespace Go.Proofs.YtpidkmegakdohaaGreat.Kn
open Go Go.Proofs
theorem run5 : ((fevCall GC 400 5 [] Heap.none 0).bind fun o => match o.v with | .v (.one (.f (.lit (.bool b)))) => .ret b | _ => .bad).res = some true := by kernel_rfl
theorem kc5 : ∀ args H nx r, (truthSum args H nx).res = some r → CallTo Tryz.prog 5 args H nx r :=
  truthSum_ok fun w => calls_quick (G := GC) rfl GC_ok GC_known (z := noZ) ⟨fun k o v h => by cases h⟩ RAs.nil run5
end Go.Proofs.YtpidkmegakdohaaGreat.Kn
