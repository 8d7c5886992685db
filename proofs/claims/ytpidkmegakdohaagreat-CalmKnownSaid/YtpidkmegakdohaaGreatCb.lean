/- The codes that are cut: reckoned and printed by a program of mine. -/
import Derived.Test.YtpidkmegakdohaaGreatKQ
import Derived.Test.YtpidkmegakdohaaGreatKC
import Derived.Test.YtpidkmegakdohaaGreatKD
import Derived.Test.YtpidkmegakdohaaGreatKc5
import Derived.KernelRfl
namespace Go.Proofs.YtpidkmegakdohaaGreat.Kn
open Go Go.Proofs
set_option maxRecDepth 100000
noncomputable def body3 : Code := match Tryz.f3.body with | some c => c | none => .skip
noncomputable def rbody : Code := match Tryz.f7.body with | some c => c | none => .skip
noncomputable def rloop : Code := match restC 3 rbody with | .seq (.block _ (.loop c)) _ => c | _ => .skip
noncomputable def rrest : Code := restC 4 rbody
theorem rcode : restC 3 rbody = .seq (.block 0 (.loop rloop)) rrest := by kernel_rfl
theorem rbodyIs : Tryz.f7.body = some rbody := by kernel_rfl
theorem bodyIs : Tryz.f3.body = some body3 := by kernel_rfl
theorem rfi : (Ctx.know GC 5).fi 7 = some Tryz.f7 := by kernel_rfl
theorem topfi : GC.fi 3 = some Tryz.f3 := by kernel_rfl
theorem G1_ok : CtxOk Tryz.prog (Ctx.know GC 5) := Ctx.know_ok GC_ok
theorem G1_known : KnownOk Tryz.prog (Ctx.know GC 5) := Ctx.know_known GC_known kc5
theorem rdr : DrOk (Ctx.know GC 5) 7 rbody := G1_known.dr 7 Tryz.f7 rbody rfi rbodyIs
theorem rdrs : DrOk (Ctx.know GC 5) 7 rloop ∧ DrOk (Ctx.know GC 5) 7 rrest := by
  have h := restC_dr (G := (Ctx.know GC 5)) (F := 7) 3 rdr
  rw [rcode] at h
  exact ⟨h.1, h.2⟩
theorem topdr : DrOk GC 3 body3 := GC_known.dr 3 Tryz.f3 body3 topfi bodyIs
end Go.Proofs.YtpidkmegakdohaaGreat.Kn
