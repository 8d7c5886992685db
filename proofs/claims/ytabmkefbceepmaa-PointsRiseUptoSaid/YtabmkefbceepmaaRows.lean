/-
  No cell of these rows narrows 'for every input' (looked for: loops, veiled, ifaces, maps, wideKeys, modest, calm, conditions, laid).
  DERIVED. THE GIVEN ROWS OF THIS SEAT. 9 by the template 'for every input the law returns true; each argument reads behind the call as it read before'; 0 by the template 'total and deterministic' (their statements: YtabmkefbceepmaaTotals.lean).
  GIVEN WITH THE SEED: the statements are not yours to turn. If you find one false, say at which input.
  Laid BY PROGRAM, IN A SANDBOX (cutbox-rows.mjs): the forced cells as the released guide's own fill.sh prints them over the translation d7bb4c6f8757ae14… (all of the seat's roots in one cut). By AI agents, Wed Nov 11 2026. No macro, syntax, notation, axiom, sorry.
-/
import Derived.Test.YtabmkefbceepmaaChecked
import GoSem.Claim
import GoSem.ClaimJoined
import GoSem.ClaimMapViews
import Derived.JoinedTies
import Derived.KernelRfl
namespace Go.Proofs.Ytabmkefbceepmaa
/- THE CELL 'sum', in the pinned program and in every row, IS THE sha256 OF THE DUMP (.gsa) THAT YtabmkefbceepmaaProg.lean LOADS. Nothing in Lean hashes anything: it is a label: what it is worth is what the hold of that sum in a sandbox is worth. -/
noncomputable def Try.pinned : Pinned := { name := "ytabmkefbceepmaa", sum := "d7bb4c6f8757ae14a485f9e182d10b1228f80312921832cbad705a2d7b616d69", checked := Try.checked }
namespace Rows
def none {H : Type} : Left H := { results := [], args := [] }

/-- 'osmosislaw15.DonorLowers': WHATEVER THE INPUT: true; the input reads as it did. -/
def donorLowersSpec : ChangeSpec := { name := "donorLowers", fn := fun _ => fun
  | [d1, d2, d3] => { results := [.lit (.bool true)], args := [d1, d2, d3] }
  | _ => none }
def donorLowersRow : OpenClaim := { program := "ytabmkefbceepmaa", sum := "d7bb4c6f8757ae14a485f9e182d10b1228f80312921832cbad705a2d7b616d69", func := "osmosis/osmosislaw15.DonorLowers", spec := "donorLowers", apart := false }
def DonorLowersSaid : Prop := donorLowersRow.holds Try.pinned (OpenSpec.ofChange donorLowersSpec)

/-- ITS FALSE NEIGHBOUR: 'it returns false'. Refute it at one input. -/
def donorLowersWrong : ChangeSpec := { name := "donorLowers", fn := fun _ => fun
  | [d1, d2, d3] => { results := [.lit (.bool false)], args := [d1, d2, d3] }
  | _ => none }
def DonorLowersWrongFalsely : Prop := donorLowersRow.holds Try.pinned (OpenSpec.ofChange donorLowersWrong)

/-- 'osmosislaw23.ClientApart': WHATEVER THE INPUT: true; the input reads as it did. -/
def clientApartSpec : ChangeSpec := { name := "clientApart", fn := fun _ => fun
  | [d1, d2, d3] => { results := [.lit (.bool true)], args := [d1, d2, d3] }
  | _ => none }
def clientApartRow : OpenClaim := { program := "ytabmkefbceepmaa", sum := "d7bb4c6f8757ae14a485f9e182d10b1228f80312921832cbad705a2d7b616d69", func := "osmosis/osmosislaw23.ClientApart", spec := "clientApart", apart := false }
def ClientApartSaid : Prop := clientApartRow.holds Try.pinned (OpenSpec.ofChange clientApartSpec)

/-- ITS FALSE NEIGHBOUR: 'it returns false'. Refute it at one input. -/
def clientApartWrong : ChangeSpec := { name := "clientApart", fn := fun _ => fun
  | [d1, d2, d3] => { results := [.lit (.bool false)], args := [d1, d2, d3] }
  | _ => none }
def ClientApartWrongFalsely : Prop := clientApartRow.holds Try.pinned (OpenSpec.ofChange clientApartWrong)

/-- 'osmosislaw23.ClientKnown': WHATEVER THE INPUT: true; the input reads as it did. -/
def clientKnownSpec : ChangeSpec := { name := "clientKnown", fn := fun _ => fun
  | [] => { results := [.lit (.bool true)], args := [] }
  | _ => none }
def clientKnownRow : OpenClaim := { program := "ytabmkefbceepmaa", sum := "d7bb4c6f8757ae14a485f9e182d10b1228f80312921832cbad705a2d7b616d69", func := "osmosis/osmosislaw23.ClientKnown", spec := "clientKnown", apart := false }
def ClientKnownSaid : Prop := clientKnownRow.holds Try.pinned (OpenSpec.ofChange clientKnownSpec)

/-- ITS FALSE NEIGHBOUR: 'it returns false'. Refute it at one input. -/
def clientKnownWrong : ChangeSpec := { name := "clientKnown", fn := fun _ => fun
  | [] => { results := [.lit (.bool false)], args := [] }
  | _ => none }
def ClientKnownWrongFalsely : Prop := clientKnownRow.holds Try.pinned (OpenSpec.ofChange clientKnownWrong)

/-- 'osmosislaw23.ClientTells': WHATEVER THE INPUT: true; the input reads as it did. -/
def clientTellsSpec : ChangeSpec := { name := "clientTells", fn := fun _ => fun
  | [d1, d2] => { results := [.lit (.bool true)], args := [d1, d2] }
  | _ => none }
def clientTellsRow : OpenClaim := { program := "ytabmkefbceepmaa", sum := "d7bb4c6f8757ae14a485f9e182d10b1228f80312921832cbad705a2d7b616d69", func := "osmosis/osmosislaw23.ClientTells", spec := "clientTells", apart := false }
def ClientTellsSaid : Prop := clientTellsRow.holds Try.pinned (OpenSpec.ofChange clientTellsSpec)

/-- ITS FALSE NEIGHBOUR: 'it returns false'. Refute it at one input. -/
def clientTellsWrong : ChangeSpec := { name := "clientTells", fn := fun _ => fun
  | [d1, d2] => { results := [.lit (.bool false)], args := [d1, d2] }
  | _ => none }
def ClientTellsWrongFalsely : Prop := clientTellsRow.holds Try.pinned (OpenSpec.ofChange clientTellsWrong)

/-- 'osmosislaw23.ClientOne': WHATEVER THE INPUT: true; the input reads as it did. -/
def clientOneSpec : ChangeSpec := { name := "clientOne", fn := fun _ => fun
  | [d] => { results := [.lit (.bool true)], args := [d] }
  | _ => none }
def clientOneRow : OpenClaim := { program := "ytabmkefbceepmaa", sum := "d7bb4c6f8757ae14a485f9e182d10b1228f80312921832cbad705a2d7b616d69", func := "osmosis/osmosislaw23.ClientOne", spec := "clientOne", apart := false }
def ClientOneSaid : Prop := clientOneRow.holds Try.pinned (OpenSpec.ofChange clientOneSpec)

/-- ITS FALSE NEIGHBOUR: 'it returns false'. Refute it at one input. -/
def clientOneWrong : ChangeSpec := { name := "clientOne", fn := fun _ => fun
  | [d] => { results := [.lit (.bool false)], args := [d] }
  | _ => none }
def ClientOneWrongFalsely : Prop := clientOneRow.holds Try.pinned (OpenSpec.ofChange clientOneWrong)

/-- 'osmosislaw17.PointsKnown': WHATEVER THE INPUT: true; the input reads as it did. -/
def pointsKnownSpec : ChangeSpec := { name := "pointsKnown", fn := fun _ => fun
  | [] => { results := [.lit (.bool true)], args := [] }
  | _ => none }
def pointsKnownRow : OpenClaim := { program := "ytabmkefbceepmaa", sum := "d7bb4c6f8757ae14a485f9e182d10b1228f80312921832cbad705a2d7b616d69", func := "osmosis/osmosislaw17.PointsKnown", spec := "pointsKnown", apart := false }
def PointsKnownSaid : Prop := pointsKnownRow.holds Try.pinned (OpenSpec.ofChange pointsKnownSpec)

/-- ITS FALSE NEIGHBOUR: 'it returns false'. Refute it at one input. -/
def pointsKnownWrong : ChangeSpec := { name := "pointsKnown", fn := fun _ => fun
  | [] => { results := [.lit (.bool false)], args := [] }
  | _ => none }
def PointsKnownWrongFalsely : Prop := pointsKnownRow.holds Try.pinned (OpenSpec.ofChange pointsKnownWrong)

/-- 'osmosislaw17.PointsTells': WHATEVER THE INPUT: true; the input reads as it did. -/
def pointsTellsSpec : ChangeSpec := { name := "pointsTells", fn := fun _ => fun
  | [d1, d2, d3] => { results := [.lit (.bool true)], args := [d1, d2, d3] }
  | _ => none }
def pointsTellsRow : OpenClaim := { program := "ytabmkefbceepmaa", sum := "d7bb4c6f8757ae14a485f9e182d10b1228f80312921832cbad705a2d7b616d69", func := "osmosis/osmosislaw17.PointsTells", spec := "pointsTells", apart := false }
def PointsTellsSaid : Prop := pointsTellsRow.holds Try.pinned (OpenSpec.ofChange pointsTellsSpec)

/-- ITS FALSE NEIGHBOUR: 'it returns false'. Refute it at one input. -/
def pointsTellsWrong : ChangeSpec := { name := "pointsTells", fn := fun _ => fun
  | [d1, d2, d3] => { results := [.lit (.bool false)], args := [d1, d2, d3] }
  | _ => none }
def PointsTellsWrongFalsely : Prop := pointsTellsRow.holds Try.pinned (OpenSpec.ofChange pointsTellsWrong)

/-- 'osmosislaw17.PointsRise': WHATEVER THE INPUT: true; the input reads as it did. -/
def pointsRiseSpec : ChangeSpec := { name := "pointsRise", fn := fun _ => fun
  | [d1, d2] => { results := [.lit (.bool true)], args := [d1, d2] }
  | _ => none }
def pointsRiseRow : OpenClaim := { program := "ytabmkefbceepmaa", sum := "d7bb4c6f8757ae14a485f9e182d10b1228f80312921832cbad705a2d7b616d69", func := "osmosis/osmosislaw17.PointsRise", spec := "pointsRise", apart := false }
def PointsRiseSaid : Prop := pointsRiseRow.holds Try.pinned (OpenSpec.ofChange pointsRiseSpec)

/-- ITS FALSE NEIGHBOUR: 'it returns false'. Refute it at one input. -/
def pointsRiseWrong : ChangeSpec := { name := "pointsRise", fn := fun _ => fun
  | [d1, d2] => { results := [.lit (.bool false)], args := [d1, d2] }
  | _ => none }
def PointsRiseWrongFalsely : Prop := pointsRiseRow.holds Try.pinned (OpenSpec.ofChange pointsRiseWrong)

/-- 'osmosislaw17.PointsApart': WHATEVER THE INPUT: true; the input reads as it did. -/
def pointsApartSpec : ChangeSpec := { name := "pointsApart", fn := fun _ => fun
  | [d1, d2] => { results := [.lit (.bool true)], args := [d1, d2] }
  | _ => none }
def pointsApartRow : OpenClaim := { program := "ytabmkefbceepmaa", sum := "d7bb4c6f8757ae14a485f9e182d10b1228f80312921832cbad705a2d7b616d69", func := "osmosis/osmosislaw17.PointsApart", spec := "pointsApart", apart := false }
def PointsApartSaid : Prop := pointsApartRow.holds Try.pinned (OpenSpec.ofChange pointsApartSpec)

/-- ITS FALSE NEIGHBOUR: 'it returns false'. Refute it at one input. -/
def pointsApartWrong : ChangeSpec := { name := "pointsApart", fn := fun _ => fun
  | [d1, d2] => { results := [.lit (.bool false)], args := [d1, d2] }
  | _ => none }
def PointsApartWrongFalsely : Prop := pointsApartRow.holds Try.pinned (OpenSpec.ofChange pointsApartWrong)

/- THE SECOND FORM. 'bulk': how many values and letters a reading holds, each counted each time it is reached (what is shared counts as often as it is met; a slice's spare places count too). A statement '..UptoSaid' is the law's where the arguments, and the package variables that the reading takes, are together of bulk at most 1048576: NARROWER than '..Said'. Prove '..Said' where nothing that the law and all that it calls make is longer than what came in: it says more and counts as full. Else prove '..UptoSaid'. A law counts once. -/
mutual
def uptoBulk {H : Type} : DataW H → Nat
  | .lit (.string bytes) => bytes.length + 1
  | .lit _ => 1
  | .nil => 1
  | .ptr d => uptoBulk d + 1
  | .slice elems spare => uptoBulkAll elems + uptoBulkAll spare + 1
  | .agg parts => uptoBulkAll parts + 1
  | .iface _ d => uptoBulk d + 1
  | .map entries => uptoBulkEntries entries + 1
  | .held _ => 1
def uptoBulkAll {H : Type} : List (DataW H) → Nat
  | [] => 0
  | d :: r => uptoBulk d + uptoBulkAll r
def uptoBulkEntries {H : Type} : List (Lit × DataW H) → Nat
  | [] => 0
  | x :: r => uptoBulkEntry x + uptoBulkEntries r
def uptoBulkEntry {H : Type} : Lit × DataW H → Nat
  | (.string bytes, d) => bytes.length + uptoBulk d + 1
  | (_, d) => uptoBulk d + 1
 end
def uptoSmall : (H : Type) → List (DataW H) → Bool := fun _ ds => decide (uptoBulkAll ds ≤ 1048576)
def OpenSpec.upto (s : _root_.Go.ChangeSpec) : _root_.Go.OpenSpec := { _root_.Go.OpenSpec.ofChange s with cond := some uptoSmall }

/-- 'osmosislaw15.DonorLowers', WHERE WHAT IT READS IS OF BULK AT MOST 1048576: true; the input reads as it did. -/
def donorLowersUptoRow : OpenClaim := { program := "ytabmkefbceepmaa", sum := "d7bb4c6f8757ae14a485f9e182d10b1228f80312921832cbad705a2d7b616d69", func := "osmosis/osmosislaw15.DonorLowers", spec := "donorLowers", apart := false, narrowed := true }
def DonorLowersUptoSaid : Prop := donorLowersUptoRow.holds Try.pinned (OpenSpec.upto donorLowersSpec)

/-- 'osmosislaw23.ClientApart', WHERE WHAT IT READS IS OF BULK AT MOST 1048576: true; the input reads as it did. -/
def clientApartUptoRow : OpenClaim := { program := "ytabmkefbceepmaa", sum := "d7bb4c6f8757ae14a485f9e182d10b1228f80312921832cbad705a2d7b616d69", func := "osmosis/osmosislaw23.ClientApart", spec := "clientApart", apart := false, narrowed := true }
def ClientApartUptoSaid : Prop := clientApartUptoRow.holds Try.pinned (OpenSpec.upto clientApartSpec)

/-- 'osmosislaw23.ClientKnown', WHERE WHAT IT READS IS OF BULK AT MOST 1048576: true; the input reads as it did. -/
def clientKnownUptoRow : OpenClaim := { program := "ytabmkefbceepmaa", sum := "d7bb4c6f8757ae14a485f9e182d10b1228f80312921832cbad705a2d7b616d69", func := "osmosis/osmosislaw23.ClientKnown", spec := "clientKnown", apart := false, narrowed := true }
def ClientKnownUptoSaid : Prop := clientKnownUptoRow.holds Try.pinned (OpenSpec.upto clientKnownSpec)

/-- 'osmosislaw23.ClientTells', WHERE WHAT IT READS IS OF BULK AT MOST 1048576: true; the input reads as it did. -/
def clientTellsUptoRow : OpenClaim := { program := "ytabmkefbceepmaa", sum := "d7bb4c6f8757ae14a485f9e182d10b1228f80312921832cbad705a2d7b616d69", func := "osmosis/osmosislaw23.ClientTells", spec := "clientTells", apart := false, narrowed := true }
def ClientTellsUptoSaid : Prop := clientTellsUptoRow.holds Try.pinned (OpenSpec.upto clientTellsSpec)

/-- 'osmosislaw23.ClientOne', WHERE WHAT IT READS IS OF BULK AT MOST 1048576: true; the input reads as it did. -/
def clientOneUptoRow : OpenClaim := { program := "ytabmkefbceepmaa", sum := "d7bb4c6f8757ae14a485f9e182d10b1228f80312921832cbad705a2d7b616d69", func := "osmosis/osmosislaw23.ClientOne", spec := "clientOne", apart := false, narrowed := true }
def ClientOneUptoSaid : Prop := clientOneUptoRow.holds Try.pinned (OpenSpec.upto clientOneSpec)

/-- 'osmosislaw17.PointsKnown', WHERE WHAT IT READS IS OF BULK AT MOST 1048576: true; the input reads as it did. -/
def pointsKnownUptoRow : OpenClaim := { program := "ytabmkefbceepmaa", sum := "d7bb4c6f8757ae14a485f9e182d10b1228f80312921832cbad705a2d7b616d69", func := "osmosis/osmosislaw17.PointsKnown", spec := "pointsKnown", apart := false, narrowed := true }
def PointsKnownUptoSaid : Prop := pointsKnownUptoRow.holds Try.pinned (OpenSpec.upto pointsKnownSpec)

/-- 'osmosislaw17.PointsTells', WHERE WHAT IT READS IS OF BULK AT MOST 1048576: true; the input reads as it did. -/
def pointsTellsUptoRow : OpenClaim := { program := "ytabmkefbceepmaa", sum := "d7bb4c6f8757ae14a485f9e182d10b1228f80312921832cbad705a2d7b616d69", func := "osmosis/osmosislaw17.PointsTells", spec := "pointsTells", apart := false, narrowed := true }
def PointsTellsUptoSaid : Prop := pointsTellsUptoRow.holds Try.pinned (OpenSpec.upto pointsTellsSpec)

/-- 'osmosislaw17.PointsRise', WHERE WHAT IT READS IS OF BULK AT MOST 1048576: true; the input reads as it did. -/
def pointsRiseUptoRow : OpenClaim := { program := "ytabmkefbceepmaa", sum := "d7bb4c6f8757ae14a485f9e182d10b1228f80312921832cbad705a2d7b616d69", func := "osmosis/osmosislaw17.PointsRise", spec := "pointsRise", apart := false, narrowed := true }
def PointsRiseUptoSaid : Prop := pointsRiseUptoRow.holds Try.pinned (OpenSpec.upto pointsRiseSpec)

/-- 'osmosislaw17.PointsApart', WHERE WHAT IT READS IS OF BULK AT MOST 1048576: true; the input reads as it did. -/
def pointsApartUptoRow : OpenClaim := { program := "ytabmkefbceepmaa", sum := "d7bb4c6f8757ae14a485f9e182d10b1228f80312921832cbad705a2d7b616d69", func := "osmosis/osmosislaw17.PointsApart", spec := "pointsApart", apart := false, narrowed := true }
def PointsApartUptoSaid : Prop := pointsApartUptoRow.holds Try.pinned (OpenSpec.upto pointsApartSpec)

end Rows
end Go.Proofs.Ytabmkefbceepmaa
