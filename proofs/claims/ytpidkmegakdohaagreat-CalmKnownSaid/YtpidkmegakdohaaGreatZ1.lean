/- calm.Rounds, its calls known: reckoned and printed by a program of mine. -/
import Derived.Test.YtpidkmegakdohaaGreatR1
import Derived.Test.YtpidkmegakdohaaGreatR2
import Derived.Test.YtpidkmegakdohaaGreatR3
import Derived.Test.YtpidkmegakdohaaGreatR4
import Derived.Test.YtpidkmegakdohaaGreatR5
import Derived.Test.YtpidkmegakdohaaGreatR6
import Derived.Test.YtpidkmegakdohaaGreatR7
import Derived.Test.YtpidkmegakdohaaGreatR8
import Derived.Test.YtpidkmegakdohaaGreatR9
import Derived.Test.YtpidkmegakdohaaGreatR10
import Derived.Test.YtpidkmegakdohaaGreatR11
import Derived.Test.YtpidkmegakdohaaGreatR12
import Derived.Test.YtpidkmegakdohaaGreatR13
import Derived.Test.YtpidkmegakdohaaGreatR14
import Derived.Test.YtpidkmegakdohaaGreatR15
import Derived.KernelRfl
namespace Go.Proofs.YtpidkmegakdohaaGreat.Kn
open Go Go.Proofs
set_option maxRecDepth 100000
namespace L0z
theorem trip : Trip Tryz.prog Tryz.f7.ntmps rbody L00.st .ret L0f.st :=
  pieceT G1_ok G1_known rfl rdr L0a.run (by
    rw [rcode]
    exact Trip.seq (Trip.block (Rounds.loop (pieceR G1_ok G1_known rfl rdrs.1 L0q0.run (pieceR G1_ok G1_known rfl rdrs.1 L0q1.run (pieceR G1_ok G1_known rfl rdrs.1 L0q2.run (pieceR G1_ok G1_known rfl rdrs.1 L0r0.run (pieceR G1_ok G1_known rfl rdrs.1 L0r1.run (pieceR G1_ok G1_known rfl rdrs.1 L0r2.run (pieceR G1_ok G1_known rfl rdrs.1 L0r3.run (pieceR G1_ok G1_known rfl rdrs.1 L0r4.run (pieceR G1_ok G1_known rfl rdrs.1 L0r5.run (pieceR G1_ok G1_known rfl rdrs.1 L0r6.run (pieceR G1_ok G1_known rfl rdrs.1 L0r7.run (pieceR G1_ok G1_known rfl rdrs.1 L0r8.run (pieceR G1_ok G1_known rfl rdrs.1 L0r9.run (pieceR G1_ok G1_known rfl rdrs.1 L0r10.run (pieceR G1_ok G1_known rfl rdrs.1 L0r11.run (pieceR G1_ok G1_known rfl rdrs.1 L0r12.run (endR (P := Tryz.prog) (G := (Ctx.know GC 5)) G1_ok G1_known rfl rdrs.1 L0e.run))))))))))))))))))) (endT G1_ok G1_known rfl rdrs.2 L0f.run))
theorem res : resultsOf (Ctx.know GC 5) L0f.st Tryz.f7.results.toList = .ret v := by kernel_rfl
theorem ok : LCOk Tryz.prog 7 lc := ⟨by kernel_rfl, callOf (G := (Ctx.know GC 5)) G1_ok rfi rbodyIs (of_decide_eq_true (by kernel_rfl)) trip res⟩
end L0z
namespace L1z
theorem trip : Trip Tryz.prog Tryz.f7.ntmps rbody L10.st .ret L1f.st :=
  pieceT G1_ok G1_known rfl rdr L1a.run (by
    rw [rcode]
    exact Trip.seq (Trip.block (Rounds.loop (pieceR G1_ok G1_known rfl rdrs.1 L1r0.run (pieceR G1_ok G1_known rfl rdrs.1 L1r1.run (pieceR G1_ok G1_known rfl rdrs.1 L1r2.run (pieceR G1_ok G1_known rfl rdrs.1 L1r3.run (pieceR G1_ok G1_known rfl rdrs.1 L1r4.run (pieceR G1_ok G1_known rfl rdrs.1 L1r5.run (pieceR G1_ok G1_known rfl rdrs.1 L1r6.run (pieceR G1_ok G1_known rfl rdrs.1 L1r7.run (pieceR G1_ok G1_known rfl rdrs.1 L1r8.run (pieceR G1_ok G1_known rfl rdrs.1 L1r9.run (pieceR G1_ok G1_known rfl rdrs.1 L1r10.run (pieceR G1_ok G1_known rfl rdrs.1 L1r11.run (pieceR G1_ok G1_known rfl rdrs.1 L1r12.run (pieceR G1_ok G1_known rfl rdrs.1 L1r13.run (pieceR G1_ok G1_known rfl rdrs.1 L1r14.run (pieceR G1_ok G1_known rfl rdrs.1 L1r15.run (endR (P := Tryz.prog) (G := (Ctx.know GC 5)) G1_ok G1_known rfl rdrs.1 L1e.run))))))))))))))))))) (endT G1_ok G1_known rfl rdrs.2 L1f.run))
theorem res : resultsOf (Ctx.know GC 5) L1f.st Tryz.f7.results.toList = .ret v := by kernel_rfl
theorem ok : LCOk Tryz.prog 7 lc := ⟨by kernel_rfl, callOf (G := (Ctx.know GC 5)) G1_ok rfi rbodyIs (of_decide_eq_true (by kernel_rfl)) trip res⟩
end L1z
namespace L2z
theorem trip : Trip Tryz.prog Tryz.f7.ntmps rbody L20.st .ret L2f.st :=
  pieceT G1_ok G1_known rfl rdr L2a.run (by
    rw [rcode]
    exact Trip.seq (Trip.block (Rounds.loop (pieceR G1_ok G1_known rfl rdrs.1 L2r0.run (pieceR G1_ok G1_known rfl rdrs.1 L2r1.run (pieceR G1_ok G1_known rfl rdrs.1 L2r2.run (pieceR G1_ok G1_known rfl rdrs.1 L2r3.run (pieceR G1_ok G1_known rfl rdrs.1 L2r4.run (pieceR G1_ok G1_known rfl rdrs.1 L2r5.run (pieceR G1_ok G1_known rfl rdrs.1 L2r6.run (pieceR G1_ok G1_known rfl rdrs.1 L2r7.run (pieceR G1_ok G1_known rfl rdrs.1 L2r8.run (pieceR G1_ok G1_known rfl rdrs.1 L2r9.run (pieceR G1_ok G1_known rfl rdrs.1 L2r10.run (pieceR G1_ok G1_known rfl rdrs.1 L2r11.run (pieceR G1_ok G1_known rfl rdrs.1 L2r12.run (pieceR G1_ok G1_known rfl rdrs.1 L2r13.run (pieceR G1_ok G1_known rfl rdrs.1 L2r14.run (pieceR G1_ok G1_known rfl rdrs.1 L2r15.run (endR (P := Tryz.prog) (G := (Ctx.know GC 5)) G1_ok G1_known rfl rdrs.1 L2e.run))))))))))))))))))) (endT G1_ok G1_known rfl rdrs.2 L2f.run))
theorem res : resultsOf (Ctx.know GC 5) L2f.st Tryz.f7.results.toList = .ret v := by kernel_rfl
theorem ok : LCOk Tryz.prog 7 lc := ⟨by kernel_rfl, callOf (G := (Ctx.know GC 5)) G1_ok rfi rbodyIs (of_decide_eq_true (by kernel_rfl)) trip res⟩
end L2z
end Go.Proofs.YtpidkmegakdohaaGreat.Kn
