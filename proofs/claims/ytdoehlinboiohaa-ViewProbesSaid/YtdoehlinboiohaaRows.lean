/-
  No cell of these rows narrows 'for every input' (looked for: loops, veiled, ifaces, maps, wideKeys, modest, calm, conditions, laid).
  DERIVED. THE GIVEN ROWS OF THIS SEAT. 11 by the template 'for every input the law returns true; each argument reads behind the call as it read before'; 0 by the template 'total and deterministic' (their statements: YtdoehlinboiohaaTotals.lean).
  GIVEN WITH THE SEED: the statements are not yours to turn. If you find one false, say at which input.
  Laid BY PROGRAM, IN A SANDBOX (cutbox-rows.mjs): the forced cells as the released guide's own fill.sh prints them over the translation b686661f78340ab7… (all of the seat's roots in one cut). By AI agents, Wed Nov 11 2026. No macro, syntax, notation, axiom, sorry.
-/
import Derived.Test.YtdoehlinboiohaaChecked
import GoSem.Claim
import GoSem.ClaimJoined
import GoSem.ClaimMapViews
import Derived.JoinedTies
import Derived.KernelRfl
namespace Go.Proofs.Ytdoehlinboiohaa
/- THE CELL 'sum', in the pinned program and in every row, IS THE sha256 OF THE DUMP (.gsa) THAT YtdoehlinboiohaaProg.lean LOADS. Nothing in Lean hashes anything: it is a label: what it is worth is what the hold of that sum in a sandbox is worth. -/
noncomputable def Try.pinned : Pinned := { name := "ytdoehlinboiohaa", sum := "b686661f78340ab7ba8a5e0c3020f1367436099dad479cab71648e9a1265d092", checked := Try.checked }
namespace Rows
def none {H : Type} : Left H := { results := [], args := [] }

/-- 'osmosislaw12.MemberOrder': WHATEVER THE INPUT: true; the input reads as it did. -/
def memberOrderSpec : ChangeSpec := { name := "memberOrder", fn := fun _ => fun
  | [d1, d2, d3] => { results := [.lit (.bool true)], args := [d1, d2, d3] }
  | _ => none }
def memberOrderRow : OpenClaim := { program := "ytdoehlinboiohaa", sum := "b686661f78340ab7ba8a5e0c3020f1367436099dad479cab71648e9a1265d092", func := "osmosis/osmosislaw12.MemberOrder", spec := "memberOrder", unfollowed := true, recurses := true, apart := false }
def MemberOrderSaid : Prop := memberOrderRow.holds Try.pinned (OpenSpec.ofChange memberOrderSpec)

/-- ITS FALSE NEIGHBOUR: 'it returns false'. Refute it at one input. -/
def memberOrderWrong : ChangeSpec := { name := "memberOrder", fn := fun _ => fun
  | [d1, d2, d3] => { results := [.lit (.bool false)], args := [d1, d2, d3] }
  | _ => none }
def MemberOrderWrongFalsely : Prop := memberOrderRow.holds Try.pinned (OpenSpec.ofChange memberOrderWrong)

/-- 'osmosislaw12.MemberGreatest': WHATEVER THE INPUT: true; the input reads as it did. -/
def memberGreatestSpec : ChangeSpec := { name := "memberGreatest", fn := fun _ => fun
  | [d1, d2] => { results := [.lit (.bool true)], args := [d1, d2] }
  | _ => none }
def memberGreatestRow : OpenClaim := { program := "ytdoehlinboiohaa", sum := "b686661f78340ab7ba8a5e0c3020f1367436099dad479cab71648e9a1265d092", func := "osmosis/osmosislaw12.MemberGreatest", spec := "memberGreatest", unfollowed := true, recurses := true, apart := false }
def MemberGreatestSaid : Prop := memberGreatestRow.holds Try.pinned (OpenSpec.ofChange memberGreatestSpec)

/-- ITS FALSE NEIGHBOUR: 'it returns false'. Refute it at one input. -/
def memberGreatestWrong : ChangeSpec := { name := "memberGreatest", fn := fun _ => fun
  | [d1, d2] => { results := [.lit (.bool false)], args := [d1, d2] }
  | _ => none }
def MemberGreatestWrongFalsely : Prop := memberGreatestRow.holds Try.pinned (OpenSpec.ofChange memberGreatestWrong)

/-- 'osmosislaw12.MemberKnown': WHATEVER THE INPUT: true; the input reads as it did. -/
def memberKnownSpec : ChangeSpec := { name := "memberKnown", fn := fun _ => fun
  | [] => { results := [.lit (.bool true)], args := [] }
  | _ => none }
def memberKnownRow : OpenClaim := { program := "ytdoehlinboiohaa", sum := "b686661f78340ab7ba8a5e0c3020f1367436099dad479cab71648e9a1265d092", func := "osmosis/osmosislaw12.MemberKnown", spec := "memberKnown", unfollowed := true, recurses := true, apart := false }
def MemberKnownSaid : Prop := memberKnownRow.holds Try.pinned (OpenSpec.ofChange memberKnownSpec)

/-- ITS FALSE NEIGHBOUR: 'it returns false'. Refute it at one input. -/
def memberKnownWrong : ChangeSpec := { name := "memberKnown", fn := fun _ => fun
  | [] => { results := [.lit (.bool false)], args := [] }
  | _ => none }
def MemberKnownWrongFalsely : Prop := memberKnownRow.holds Try.pinned (OpenSpec.ofChange memberKnownWrong)

/-- 'osmosislaw12.MemberTells': WHATEVER THE INPUT: true; the input reads as it did. -/
def memberTellsSpec : ChangeSpec := { name := "memberTells", fn := fun _ => fun
  | [d1, d2, d3, d4, d5] => { results := [.lit (.bool true)], args := [d1, d2, d3, d4, d5] }
  | _ => none }
def memberTellsRow : OpenClaim := { program := "ytdoehlinboiohaa", sum := "b686661f78340ab7ba8a5e0c3020f1367436099dad479cab71648e9a1265d092", func := "osmosis/osmosislaw12.MemberTells", spec := "memberTells", unfollowed := true, recurses := true, apart := false }
def MemberTellsSaid : Prop := memberTellsRow.holds Try.pinned (OpenSpec.ofChange memberTellsSpec)

/-- ITS FALSE NEIGHBOUR: 'it returns false'. Refute it at one input. -/
def memberTellsWrong : ChangeSpec := { name := "memberTells", fn := fun _ => fun
  | [d1, d2, d3, d4, d5] => { results := [.lit (.bool false)], args := [d1, d2, d3, d4, d5] }
  | _ => none }
def MemberTellsWrongFalsely : Prop := memberTellsRow.holds Try.pinned (OpenSpec.ofChange memberTellsWrong)

/-- 'osmosislaw12.MemberJoins': WHATEVER THE INPUT: true; the input reads as it did. -/
def memberJoinsSpec : ChangeSpec := { name := "memberJoins", fn := fun _ => fun
  | [d1, d2, d3] => { results := [.lit (.bool true)], args := [d1, d2, d3] }
  | _ => none }
def memberJoinsRow : OpenClaim := { program := "ytdoehlinboiohaa", sum := "b686661f78340ab7ba8a5e0c3020f1367436099dad479cab71648e9a1265d092", func := "osmosis/osmosislaw12.MemberJoins", spec := "memberJoins", unfollowed := true, recurses := true, apart := false }
def MemberJoinsSaid : Prop := memberJoinsRow.holds Try.pinned (OpenSpec.ofChange memberJoinsSpec)

/-- ITS FALSE NEIGHBOUR: 'it returns false'. Refute it at one input. -/
def memberJoinsWrong : ChangeSpec := { name := "memberJoins", fn := fun _ => fun
  | [d1, d2, d3] => { results := [.lit (.bool false)], args := [d1, d2, d3] }
  | _ => none }
def MemberJoinsWrongFalsely : Prop := memberJoinsRow.holds Try.pinned (OpenSpec.ofChange memberJoinsWrong)

/-- 'osmosislaw13.ViewProbes': WHATEVER THE INPUT: true; the input reads as it did. -/
def viewProbesSpec : ChangeSpec := { name := "viewProbes", fn := fun _ => fun
  | [d1, d2, d3] => { results := [.lit (.bool true)], args := [d1, d2, d3] }
  | _ => none }
def viewProbesRow : OpenClaim := { program := "ytdoehlinboiohaa", sum := "b686661f78340ab7ba8a5e0c3020f1367436099dad479cab71648e9a1265d092", func := "osmosis/osmosislaw13.ViewProbes", spec := "viewProbes", apart := false }
def ViewProbesSaid : Prop := viewProbesRow.holds Try.pinned (OpenSpec.ofChange viewProbesSpec)

/-- ITS FALSE NEIGHBOUR: 'it returns false'. Refute it at one input. -/
def viewProbesWrong : ChangeSpec := { name := "viewProbes", fn := fun _ => fun
  | [d1, d2, d3] => { results := [.lit (.bool false)], args := [d1, d2, d3] }
  | _ => none }
def ViewProbesWrongFalsely : Prop := viewProbesRow.holds Try.pinned (OpenSpec.ofChange viewProbesWrong)

/-- 'osmosislaw13.ViewKnown': WHATEVER THE INPUT: true; the input reads as it did. -/
def viewKnownSpec : ChangeSpec := { name := "viewKnown", fn := fun _ => fun
  | [] => { results := [.lit (.bool true)], args := [] }
  | _ => none }
def viewKnownRow : OpenClaim := { program := "ytdoehlinboiohaa", sum := "b686661f78340ab7ba8a5e0c3020f1367436099dad479cab71648e9a1265d092", func := "osmosis/osmosislaw13.ViewKnown", spec := "viewKnown", apart := false }
def ViewKnownSaid : Prop := viewKnownRow.holds Try.pinned (OpenSpec.ofChange viewKnownSpec)

/-- ITS FALSE NEIGHBOUR: 'it returns false'. Refute it at one input. -/
def viewKnownWrong : ChangeSpec := { name := "viewKnown", fn := fun _ => fun
  | [] => { results := [.lit (.bool false)], args := [] }
  | _ => none }
def ViewKnownWrongFalsely : Prop := viewKnownRow.holds Try.pinned (OpenSpec.ofChange viewKnownWrong)

/-- 'osmosislaw13.ViewTells': WHATEVER THE INPUT: true; the input reads as it did. -/
def viewTellsSpec : ChangeSpec := { name := "viewTells", fn := fun _ => fun
  | [d1, d2, d3, d4] => { results := [.lit (.bool true)], args := [d1, d2, d3, d4] }
  | _ => none }
def viewTellsRow : OpenClaim := { program := "ytdoehlinboiohaa", sum := "b686661f78340ab7ba8a5e0c3020f1367436099dad479cab71648e9a1265d092", func := "osmosis/osmosislaw13.ViewTells", spec := "viewTells", apart := false }
def ViewTellsSaid : Prop := viewTellsRow.holds Try.pinned (OpenSpec.ofChange viewTellsSpec)

/-- ITS FALSE NEIGHBOUR: 'it returns false'. Refute it at one input. -/
def viewTellsWrong : ChangeSpec := { name := "viewTells", fn := fun _ => fun
  | [d1, d2, d3, d4] => { results := [.lit (.bool false)], args := [d1, d2, d3, d4] }
  | _ => none }
def ViewTellsWrongFalsely : Prop := viewTellsRow.holds Try.pinned (OpenSpec.ofChange viewTellsWrong)

/-- 'osmosislaw13.ViewRises': WHATEVER THE INPUT: true; the input reads as it did. -/
def viewRisesSpec : ChangeSpec := { name := "viewRises", fn := fun _ => fun
  | [d1, d2] => { results := [.lit (.bool true)], args := [d1, d2] }
  | _ => none }
def viewRisesRow : OpenClaim := { program := "ytdoehlinboiohaa", sum := "b686661f78340ab7ba8a5e0c3020f1367436099dad479cab71648e9a1265d092", func := "osmosis/osmosislaw13.ViewRises", spec := "viewRises", apart := false }
def ViewRisesSaid : Prop := viewRisesRow.holds Try.pinned (OpenSpec.ofChange viewRisesSpec)

/-- ITS FALSE NEIGHBOUR: 'it returns false'. Refute it at one input. -/
def viewRisesWrong : ChangeSpec := { name := "viewRises", fn := fun _ => fun
  | [d1, d2] => { results := [.lit (.bool false)], args := [d1, d2] }
  | _ => none }
def ViewRisesWrongFalsely : Prop := viewRisesRow.holds Try.pinned (OpenSpec.ofChange viewRisesWrong)

/-- 'osmosislaw13.ViewAgrees': WHATEVER THE INPUT: true; the input reads as it did. -/
def viewAgreesSpec : ChangeSpec := { name := "viewAgrees", fn := fun _ => fun
  | [d1, d2] => { results := [.lit (.bool true)], args := [d1, d2] }
  | _ => none }
def viewAgreesRow : OpenClaim := { program := "ytdoehlinboiohaa", sum := "b686661f78340ab7ba8a5e0c3020f1367436099dad479cab71648e9a1265d092", func := "osmosis/osmosislaw13.ViewAgrees", spec := "viewAgrees", apart := false }
def ViewAgreesSaid : Prop := viewAgreesRow.holds Try.pinned (OpenSpec.ofChange viewAgreesSpec)

/-- ITS FALSE NEIGHBOUR: 'it returns false'. Refute it at one input. -/
def viewAgreesWrong : ChangeSpec := { name := "viewAgrees", fn := fun _ => fun
  | [d1, d2] => { results := [.lit (.bool false)], args := [d1, d2] }
  | _ => none }
def ViewAgreesWrongFalsely : Prop := viewAgreesRow.holds Try.pinned (OpenSpec.ofChange viewAgreesWrong)

/-- 'osmosislaw13.ViewApart': WHATEVER THE INPUT: true; the input reads as it did. -/
def viewApartSpec : ChangeSpec := { name := "viewApart", fn := fun _ => fun
  | [d] => { results := [.lit (.bool true)], args := [d] }
  | _ => none }
def viewApartRow : OpenClaim := { program := "ytdoehlinboiohaa", sum := "b686661f78340ab7ba8a5e0c3020f1367436099dad479cab71648e9a1265d092", func := "osmosis/osmosislaw13.ViewApart", spec := "viewApart", apart := false }
def ViewApartSaid : Prop := viewApartRow.holds Try.pinned (OpenSpec.ofChange viewApartSpec)

/-- ITS FALSE NEIGHBOUR: 'it returns false'. Refute it at one input. -/
def viewApartWrong : ChangeSpec := { name := "viewApart", fn := fun _ => fun
  | [d] => { results := [.lit (.bool false)], args := [d] }
  | _ => none }
def ViewApartWrongFalsely : Prop := viewApartRow.holds Try.pinned (OpenSpec.ofChange viewApartWrong)

/- THE SECOND FORM. 'bulk': how many values and letters a reading holds, each counted each time it is reached (what is shared counts as often as it is met; a slice's spare places count too). A statement '..UptoSaid' is the law's where the arguments, and the package variables that the reading takes, are together of bulk at most 1048576: NARROWER than '..Said'. Prove '..Said' where nothing that the law and all that it calls make is longer than what came in: it says more and counts as full. Else prove '..UptoSaid'. A law counts once. -/
mutual
def uptoBulk {H : Type} : DataW H → Nat
  | .lit (.string bytes) => bytes.length + 1
  | .lit _ => 1
  | .nil => 1
  | .ptr d => uptoBulk d + 1
  | .slice elems spare => uptoBulkAll elems + uptoBulkAll spare + 1
  | .agg parts => uptoBulkAll parts + 1
  | .iface _ d => uptoBulk d + 1
  | .map entries => uptoBulkEntries entries + 1
  | .held _ => 1
def uptoBulkAll {H : Type} : List (DataW H) → Nat
  | [] => 0
  | d :: r => uptoBulk d + uptoBulkAll r
def uptoBulkEntries {H : Type} : List (Lit × DataW H) → Nat
  | [] => 0
  | x :: r => uptoBulkEntry x + uptoBulkEntries r
def uptoBulkEntry {H : Type} : Lit × DataW H → Nat
  | (.string bytes, d) => bytes.length + uptoBulk d + 1
  | (_, d) => uptoBulk d + 1
 end
def uptoSmall : (H : Type) → List (DataW H) → Bool := fun _ ds => decide (uptoBulkAll ds ≤ 1048576)
def OpenSpec.upto (s : _root_.Go.ChangeSpec) : _root_.Go.OpenSpec := { _root_.Go.OpenSpec.ofChange s with cond := some uptoSmall }

/-- 'osmosislaw12.MemberOrder', WHERE WHAT IT READS IS OF BULK AT MOST 1048576: true; the input reads as it did. -/
def memberOrderUptoRow : OpenClaim := { program := "ytdoehlinboiohaa", sum := "b686661f78340ab7ba8a5e0c3020f1367436099dad479cab71648e9a1265d092", func := "osmosis/osmosislaw12.MemberOrder", spec := "memberOrder", unfollowed := true, recurses := true, apart := false, narrowed := true }
def MemberOrderUptoSaid : Prop := memberOrderUptoRow.holds Try.pinned (OpenSpec.upto memberOrderSpec)

/-- 'osmosislaw12.MemberGreatest', WHERE WHAT IT READS IS OF BULK AT MOST 1048576: true; the input reads as it did. -/
def memberGreatestUptoRow : OpenClaim := { program := "ytdoehlinboiohaa", sum := "b686661f78340ab7ba8a5e0c3020f1367436099dad479cab71648e9a1265d092", func := "osmosis/osmosislaw12.MemberGreatest", spec := "memberGreatest", unfollowed := true, recurses := true, apart := false, narrowed := true }
def MemberGreatestUptoSaid : Prop := memberGreatestUptoRow.holds Try.pinned (OpenSpec.upto memberGreatestSpec)

/-- 'osmosislaw12.MemberKnown', WHERE WHAT IT READS IS OF BULK AT MOST 1048576: true; the input reads as it did. -/
def memberKnownUptoRow : OpenClaim := { program := "ytdoehlinboiohaa", sum := "b686661f78340ab7ba8a5e0c3020f1367436099dad479cab71648e9a1265d092", func := "osmosis/osmosislaw12.MemberKnown", spec := "memberKnown", unfollowed := true, recurses := true, apart := false, narrowed := true }
def MemberKnownUptoSaid : Prop := memberKnownUptoRow.holds Try.pinned (OpenSpec.upto memberKnownSpec)

/-- 'osmosislaw12.MemberTells', WHERE WHAT IT READS IS OF BULK AT MOST 1048576: true; the input reads as it did. -/
def memberTellsUptoRow : OpenClaim := { program := "ytdoehlinboiohaa", sum := "b686661f78340ab7ba8a5e0c3020f1367436099dad479cab71648e9a1265d092", func := "osmosis/osmosislaw12.MemberTells", spec := "memberTells", unfollowed := true, recurses := true, apart := false, narrowed := true }
def MemberTellsUptoSaid : Prop := memberTellsUptoRow.holds Try.pinned (OpenSpec.upto memberTellsSpec)

/-- 'osmosislaw12.MemberJoins', WHERE WHAT IT READS IS OF BULK AT MOST 1048576: true; the input reads as it did. -/
def memberJoinsUptoRow : OpenClaim := { program := "ytdoehlinboiohaa", sum := "b686661f78340ab7ba8a5e0c3020f1367436099dad479cab71648e9a1265d092", func := "osmosis/osmosislaw12.MemberJoins", spec := "memberJoins", unfollowed := true, recurses := true, apart := false, narrowed := true }
def MemberJoinsUptoSaid : Prop := memberJoinsUptoRow.holds Try.pinned (OpenSpec.upto memberJoinsSpec)

/-- 'osmosislaw13.ViewProbes', WHERE WHAT IT READS IS OF BULK AT MOST 1048576: true; the input reads as it did. -/
def viewProbesUptoRow : OpenClaim := { program := "ytdoehlinboiohaa", sum := "b686661f78340ab7ba8a5e0c3020f1367436099dad479cab71648e9a1265d092", func := "osmosis/osmosislaw13.ViewProbes", spec := "viewProbes", apart := false, narrowed := true }
def ViewProbesUptoSaid : Prop := viewProbesUptoRow.holds Try.pinned (OpenSpec.upto viewProbesSpec)

/-- 'osmosislaw13.ViewKnown', WHERE WHAT IT READS IS OF BULK AT MOST 1048576: true; the input reads as it did. -/
def viewKnownUptoRow : OpenClaim := { program := "ytdoehlinboiohaa", sum := "b686661f78340ab7ba8a5e0c3020f1367436099dad479cab71648e9a1265d092", func := "osmosis/osmosislaw13.ViewKnown", spec := "viewKnown", apart := false, narrowed := true }
def ViewKnownUptoSaid : Prop := viewKnownUptoRow.holds Try.pinned (OpenSpec.upto viewKnownSpec)

/-- 'osmosislaw13.ViewTells', WHERE WHAT IT READS IS OF BULK AT MOST 1048576: true; the input reads as it did. -/
def viewTellsUptoRow : OpenClaim := { program := "ytdoehlinboiohaa", sum := "b686661f78340ab7ba8a5e0c3020f1367436099dad479cab71648e9a1265d092", func := "osmosis/osmosislaw13.ViewTells", spec := "viewTells", apart := false, narrowed := true }
def ViewTellsUptoSaid : Prop := viewTellsUptoRow.holds Try.pinned (OpenSpec.upto viewTellsSpec)

/-- 'osmosislaw13.ViewRises', WHERE WHAT IT READS IS OF BULK AT MOST 1048576: true; the input reads as it did. -/
def viewRisesUptoRow : OpenClaim := { program := "ytdoehlinboiohaa", sum := "b686661f78340ab7ba8a5e0c3020f1367436099dad479cab71648e9a1265d092", func := "osmosis/osmosislaw13.ViewRises", spec := "viewRises", apart := false, narrowed := true }
def ViewRisesUptoSaid : Prop := viewRisesUptoRow.holds Try.pinned (OpenSpec.upto viewRisesSpec)

/-- 'osmosislaw13.ViewAgrees', WHERE WHAT IT READS IS OF BULK AT MOST 1048576: true; the input reads as it did. -/
def viewAgreesUptoRow : OpenClaim := { program := "ytdoehlinboiohaa", sum := "b686661f78340ab7ba8a5e0c3020f1367436099dad479cab71648e9a1265d092", func := "osmosis/osmosislaw13.ViewAgrees", spec := "viewAgrees", apart := false, narrowed := true }
def ViewAgreesUptoSaid : Prop := viewAgreesUptoRow.holds Try.pinned (OpenSpec.upto viewAgreesSpec)

/-- 'osmosislaw13.ViewApart', WHERE WHAT IT READS IS OF BULK AT MOST 1048576: true; the input reads as it did. -/
def viewApartUptoRow : OpenClaim := { program := "ytdoehlinboiohaa", sum := "b686661f78340ab7ba8a5e0c3020f1367436099dad479cab71648e9a1265d092", func := "osmosis/osmosislaw13.ViewApart", spec := "viewApart", apart := false, narrowed := true }
def ViewApartUptoSaid : Prop := viewApartUptoRow.holds Try.pinned (OpenSpec.upto viewApartSpec)

end Rows
end Go.Proofs.Ytdoehlinboiohaa
