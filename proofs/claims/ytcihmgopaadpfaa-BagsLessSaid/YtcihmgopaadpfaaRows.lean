/-
  No cell of these rows narrows 'for every input' (looked for: loops, veiled, ifaces, maps, wideKeys, modest, calm, conditions, laid).
  DERIVED. THE GIVEN ROWS OF THIS SEAT. 12 by the template 'for every input the law returns true; each argument reads behind the call as it read before'; 0 by the template 'total and deterministic' (their statements: YtcihmgopaadpfaaTotals.lean).
  GIVEN WITH THE SEED: the statements are not yours to turn. If you find one false, say at which input.
  Laid BY PROGRAM, IN A SANDBOX (cutbox-rows.mjs): the forced cells as the released guide's own fill.sh prints them over the translation e31a484b7a02003f… (all of the seat's roots in one cut). By AI agents, Wed Nov 11 2026. No macro, syntax, notation, axiom, sorry.
-/
import Derived.Test.YtcihmgopaadpfaaChecked
import GoSem.Claim
import GoSem.ClaimJoined
import GoSem.ClaimMapViews
import Derived.JoinedTies
import Derived.KernelRfl
namespace Go.Proofs.Ytcihmgopaadpfaa
/- THE CELL 'sum', in the pinned program and in every row, IS THE sha256 OF THE DUMP (.gsa) THAT YtcihmgopaadpfaaProg.lean LOADS. Nothing in Lean hashes anything: it is a label: what it is worth is what the hold of that sum in a sandbox is worth. -/
noncomputable def Try.pinned : Pinned := { name := "ytcihmgopaadpfaa", sum := "e31a484b7a02003fba78799eaca8aa35577870f2442fa803c3ec2cd46e2e4a98", checked := Try.checked }
namespace Rows
def none {H : Type} : Left H := { results := [], args := [] }

/-- 'carcanetlaw12.BagsTell': WHATEVER THE INPUT: true; the input reads as it did. -/
def bagsTellSpec : ChangeSpec := { name := "bagsTell", fn := fun _ => fun
  | [d] => { results := [.lit (.bool true)], args := [d] }
  | _ => none }
def bagsTellRow : OpenClaim := { program := "ytcihmgopaadpfaa", sum := "e31a484b7a02003fba78799eaca8aa35577870f2442fa803c3ec2cd46e2e4a98", func := "carcanet/carcanetlaw12.BagsTell", spec := "bagsTell", inPlace := ["slices.overlaps[int]"], recurses := true, plainKeys := false, apart := false }
def BagsTellSaid : Prop := bagsTellRow.holds Try.pinned (OpenSpec.ofChange bagsTellSpec)

/-- ITS FALSE NEIGHBOUR: 'it returns false'. Refute it at one input. -/
def bagsTellWrong : ChangeSpec := { name := "bagsTell", fn := fun _ => fun
  | [d] => { results := [.lit (.bool false)], args := [d] }
  | _ => none }
def BagsTellWrongFalsely : Prop := bagsTellRow.holds Try.pinned (OpenSpec.ofChange bagsTellWrong)

/-- 'carcanetlaw12.BagsCheck': WHATEVER THE INPUT: true; the input reads as it did. -/
def bagsCheckSpec : ChangeSpec := { name := "bagsCheck", fn := fun _ => fun
  | [d1, d2] => { results := [.lit (.bool true)], args := [d1, d2] }
  | _ => none }
def bagsCheckRow : OpenClaim := { program := "ytcihmgopaadpfaa", sum := "e31a484b7a02003fba78799eaca8aa35577870f2442fa803c3ec2cd46e2e4a98", func := "carcanet/carcanetlaw12.BagsCheck", spec := "bagsCheck", inPlace := ["slices.overlaps[int]"], recurses := true, plainKeys := false, apart := false }
def BagsCheckSaid : Prop := bagsCheckRow.holds Try.pinned (OpenSpec.ofChange bagsCheckSpec)

/-- ITS FALSE NEIGHBOUR: 'it returns false'. Refute it at one input. -/
def bagsCheckWrong : ChangeSpec := { name := "bagsCheck", fn := fun _ => fun
  | [d1, d2] => { results := [.lit (.bool false)], args := [d1, d2] }
  | _ => none }
def BagsCheckWrongFalsely : Prop := bagsCheckRow.holds Try.pinned (OpenSpec.ofChange bagsCheckWrong)

/-- 'carcanetlaw12.BagsWrong': WHATEVER THE INPUT: true; the input reads as it did. -/
def bagsWrongSpec : ChangeSpec := { name := "bagsWrong", fn := fun _ => fun
  | [d1, d2] => { results := [.lit (.bool true)], args := [d1, d2] }
  | _ => none }
def bagsWrongRow : OpenClaim := { program := "ytcihmgopaadpfaa", sum := "e31a484b7a02003fba78799eaca8aa35577870f2442fa803c3ec2cd46e2e4a98", func := "carcanet/carcanetlaw12.BagsWrong", spec := "bagsWrong", inPlace := ["slices.overlaps[int]"], recurses := true, plainKeys := false, apart := false }
def BagsWrongSaid : Prop := bagsWrongRow.holds Try.pinned (OpenSpec.ofChange bagsWrongSpec)

/-- ITS FALSE NEIGHBOUR: 'it returns false'. Refute it at one input. -/
def bagsWrongWrong : ChangeSpec := { name := "bagsWrong", fn := fun _ => fun
  | [d1, d2] => { results := [.lit (.bool false)], args := [d1, d2] }
  | _ => none }
def BagsWrongWrongFalsely : Prop := bagsWrongRow.holds Try.pinned (OpenSpec.ofChange bagsWrongWrong)

/-- 'carcanetlaw12.BagsSound': WHATEVER THE INPUT: true; the input reads as it did. -/
def bagsSoundSpec : ChangeSpec := { name := "bagsSound", fn := fun _ => fun
  | [d1, d2] => { results := [.lit (.bool true)], args := [d1, d2] }
  | _ => none }
def bagsSoundRow : OpenClaim := { program := "ytcihmgopaadpfaa", sum := "e31a484b7a02003fba78799eaca8aa35577870f2442fa803c3ec2cd46e2e4a98", func := "carcanet/carcanetlaw12.BagsSound", spec := "bagsSound", inPlace := ["slices.overlaps[int]"], recurses := true, plainKeys := false, apart := false }
def BagsSoundSaid : Prop := bagsSoundRow.holds Try.pinned (OpenSpec.ofChange bagsSoundSpec)

/-- ITS FALSE NEIGHBOUR: 'it returns false'. Refute it at one input. -/
def bagsSoundWrong : ChangeSpec := { name := "bagsSound", fn := fun _ => fun
  | [d1, d2] => { results := [.lit (.bool false)], args := [d1, d2] }
  | _ => none }
def BagsSoundWrongFalsely : Prop := bagsSoundRow.holds Try.pinned (OpenSpec.ofChange bagsSoundWrong)

/-- 'carcanetlaw12.BagsHold': WHATEVER THE INPUT: true; the input reads as it did. -/
def bagsHoldSpec : ChangeSpec := { name := "bagsHold", fn := fun _ => fun
  | [d] => { results := [.lit (.bool true)], args := [d] }
  | _ => none }
def bagsHoldRow : OpenClaim := { program := "ytcihmgopaadpfaa", sum := "e31a484b7a02003fba78799eaca8aa35577870f2442fa803c3ec2cd46e2e4a98", func := "carcanet/carcanetlaw12.BagsHold", spec := "bagsHold", inPlace := ["slices.overlaps[int]"], recurses := true, plainKeys := false, apart := false }
def BagsHoldSaid : Prop := bagsHoldRow.holds Try.pinned (OpenSpec.ofChange bagsHoldSpec)

/-- ITS FALSE NEIGHBOUR: 'it returns false'. Refute it at one input. -/
def bagsHoldWrong : ChangeSpec := { name := "bagsHold", fn := fun _ => fun
  | [d] => { results := [.lit (.bool false)], args := [d] }
  | _ => none }
def BagsHoldWrongFalsely : Prop := bagsHoldRow.holds Try.pinned (OpenSpec.ofChange bagsHoldWrong)

/-- 'carcanetlaw12.BagsNarrow': WHATEVER THE INPUT: true; the input reads as it did. -/
def bagsNarrowSpec : ChangeSpec := { name := "bagsNarrow", fn := fun _ => fun
  | [d1, d2] => { results := [.lit (.bool true)], args := [d1, d2] }
  | _ => none }
def bagsNarrowRow : OpenClaim := { program := "ytcihmgopaadpfaa", sum := "e31a484b7a02003fba78799eaca8aa35577870f2442fa803c3ec2cd46e2e4a98", func := "carcanet/carcanetlaw12.BagsNarrow", spec := "bagsNarrow", inPlace := ["slices.overlaps[int]"], recurses := true, plainKeys := false, apart := false }
def BagsNarrowSaid : Prop := bagsNarrowRow.holds Try.pinned (OpenSpec.ofChange bagsNarrowSpec)

/-- ITS FALSE NEIGHBOUR: 'it returns false'. Refute it at one input. -/
def bagsNarrowWrong : ChangeSpec := { name := "bagsNarrow", fn := fun _ => fun
  | [d1, d2] => { results := [.lit (.bool false)], args := [d1, d2] }
  | _ => none }
def BagsNarrowWrongFalsely : Prop := bagsNarrowRow.holds Try.pinned (OpenSpec.ofChange bagsNarrowWrong)

/-- 'carcanetlaw10.ReduceModel': WHATEVER THE INPUT: true; the input reads as it did. -/
def reduceModelSpec : ChangeSpec := { name := "reduceModel", fn := fun _ => fun
  | [d1, d2] => { results := [.lit (.bool true)], args := [d1, d2] }
  | _ => none }
def reduceModelRow : OpenClaim := { program := "ytcihmgopaadpfaa", sum := "e31a484b7a02003fba78799eaca8aa35577870f2442fa803c3ec2cd46e2e4a98", func := "carcanet/carcanetlaw10.ReduceModel", spec := "reduceModel", inPlace := ["slices.overlaps[int]"], unfollowed := true, recurses := true, plainKeys := false, apart := false }
def ReduceModelSaid : Prop := reduceModelRow.holds Try.pinned (OpenSpec.ofChange reduceModelSpec)

/-- ITS FALSE NEIGHBOUR: 'it returns false'. Refute it at one input. -/
def reduceModelWrong : ChangeSpec := { name := "reduceModel", fn := fun _ => fun
  | [d1, d2] => { results := [.lit (.bool false)], args := [d1, d2] }
  | _ => none }
def ReduceModelWrongFalsely : Prop := reduceModelRow.holds Try.pinned (OpenSpec.ofChange reduceModelWrong)

/-- 'carcanetlaw08.MinorGrows': WHATEVER THE INPUT: true; the input reads as it did. -/
def minorGrowsSpec : ChangeSpec := { name := "minorGrows", fn := fun _ => fun
  | [d1, d2, d3] => { results := [.lit (.bool true)], args := [d1, d2, d3] }
  | _ => none }
def minorGrowsRow : OpenClaim := { program := "ytcihmgopaadpfaa", sum := "e31a484b7a02003fba78799eaca8aa35577870f2442fa803c3ec2cd46e2e4a98", func := "carcanet/carcanetlaw08.MinorGrows", spec := "minorGrows", unfollowed := true, recurses := true, plainKeys := false, apart := false }
def MinorGrowsSaid : Prop := minorGrowsRow.holds Try.pinned (OpenSpec.ofChange minorGrowsSpec)

/-- ITS FALSE NEIGHBOUR: 'it returns false'. Refute it at one input. -/
def minorGrowsWrong : ChangeSpec := { name := "minorGrows", fn := fun _ => fun
  | [d1, d2, d3] => { results := [.lit (.bool false)], args := [d1, d2, d3] }
  | _ => none }
def MinorGrowsWrongFalsely : Prop := minorGrowsRow.holds Try.pinned (OpenSpec.ofChange minorGrowsWrong)

/-- 'carcanetlaw08.MinorDrop': WHATEVER THE INPUT: true; the input reads as it did. -/
def minorDropSpec : ChangeSpec := { name := "minorDrop", fn := fun _ => fun
  | [d1, d2, d3] => { results := [.lit (.bool true)], args := [d1, d2, d3] }
  | _ => none }
def minorDropRow : OpenClaim := { program := "ytcihmgopaadpfaa", sum := "e31a484b7a02003fba78799eaca8aa35577870f2442fa803c3ec2cd46e2e4a98", func := "carcanet/carcanetlaw08.MinorDrop", spec := "minorDrop", unfollowed := true, recurses := true, plainKeys := false, apart := false }
def MinorDropSaid : Prop := minorDropRow.holds Try.pinned (OpenSpec.ofChange minorDropSpec)

/-- ITS FALSE NEIGHBOUR: 'it returns false'. Refute it at one input. -/
def minorDropWrong : ChangeSpec := { name := "minorDrop", fn := fun _ => fun
  | [d1, d2, d3] => { results := [.lit (.bool false)], args := [d1, d2, d3] }
  | _ => none }
def MinorDropWrongFalsely : Prop := minorDropRow.holds Try.pinned (OpenSpec.ofChange minorDropWrong)

/-- 'carcanetlaw08.MinorLift': WHATEVER THE INPUT: true; the input reads as it did. -/
def minorLiftSpec : ChangeSpec := { name := "minorLift", fn := fun _ => fun
  | [d1, d2, d3] => { results := [.lit (.bool true)], args := [d1, d2, d3] }
  | _ => none }
def minorLiftRow : OpenClaim := { program := "ytcihmgopaadpfaa", sum := "e31a484b7a02003fba78799eaca8aa35577870f2442fa803c3ec2cd46e2e4a98", func := "carcanet/carcanetlaw08.MinorLift", spec := "minorLift", unfollowed := true, recurses := true, plainKeys := false, apart := false }
def MinorLiftSaid : Prop := minorLiftRow.holds Try.pinned (OpenSpec.ofChange minorLiftSpec)

/-- ITS FALSE NEIGHBOUR: 'it returns false'. Refute it at one input. -/
def minorLiftWrong : ChangeSpec := { name := "minorLift", fn := fun _ => fun
  | [d1, d2, d3] => { results := [.lit (.bool false)], args := [d1, d2, d3] }
  | _ => none }
def MinorLiftWrongFalsely : Prop := minorLiftRow.holds Try.pinned (OpenSpec.ofChange minorLiftWrong)

/-- 'carcanetlaw10.ReduceLess': WHATEVER THE INPUT: true; the input reads as it did. -/
def reduceLessSpec : ChangeSpec := { name := "reduceLess", fn := fun _ => fun
  | [d1, d2] => { results := [.lit (.bool true)], args := [d1, d2] }
  | _ => none }
def reduceLessRow : OpenClaim := { program := "ytcihmgopaadpfaa", sum := "e31a484b7a02003fba78799eaca8aa35577870f2442fa803c3ec2cd46e2e4a98", func := "carcanet/carcanetlaw10.ReduceLess", spec := "reduceLess", inPlace := ["slices.overlaps[int]"], unfollowed := true, recurses := true, plainKeys := false, apart := false }
def ReduceLessSaid : Prop := reduceLessRow.holds Try.pinned (OpenSpec.ofChange reduceLessSpec)

/-- ITS FALSE NEIGHBOUR: 'it returns false'. Refute it at one input. -/
def reduceLessWrong : ChangeSpec := { name := "reduceLess", fn := fun _ => fun
  | [d1, d2] => { results := [.lit (.bool false)], args := [d1, d2] }
  | _ => none }
def ReduceLessWrongFalsely : Prop := reduceLessRow.holds Try.pinned (OpenSpec.ofChange reduceLessWrong)

/-- 'carcanetlaw12.BagsLess': WHATEVER THE INPUT: true; the input reads as it did. -/
def bagsLessSpec : ChangeSpec := { name := "bagsLess", fn := fun _ => fun
  | [d1, d2, d3] => { results := [.lit (.bool true)], args := [d1, d2, d3] }
  | _ => none }
def bagsLessRow : OpenClaim := { program := "ytcihmgopaadpfaa", sum := "e31a484b7a02003fba78799eaca8aa35577870f2442fa803c3ec2cd46e2e4a98", func := "carcanet/carcanetlaw12.BagsLess", spec := "bagsLess", inPlace := ["slices.overlaps[int]"], unfollowed := true, recurses := true, plainKeys := false, apart := false }
def BagsLessSaid : Prop := bagsLessRow.holds Try.pinned (OpenSpec.ofChange bagsLessSpec)

/-- ITS FALSE NEIGHBOUR: 'it returns false'. Refute it at one input. -/
def bagsLessWrong : ChangeSpec := { name := "bagsLess", fn := fun _ => fun
  | [d1, d2, d3] => { results := [.lit (.bool false)], args := [d1, d2, d3] }
  | _ => none }
def BagsLessWrongFalsely : Prop := bagsLessRow.holds Try.pinned (OpenSpec.ofChange bagsLessWrong)

/- THE SECOND FORM. 'bulk': how many values and letters a reading holds, each counted each time it is reached (what is shared counts as often as it is met; a slice's spare places count too). A statement '..UptoSaid' is the law's where the arguments, and the package variables that the reading takes, are together of bulk at most 1048576: NARROWER than '..Said'. Prove '..Said' where nothing that the law and all that it calls make is longer than what came in: it says more and counts as full. Else prove '..UptoSaid'. A law counts once. -/
mutual
def uptoBulk {H : Type} : DataW H → Nat
  | .lit (.string bytes) => bytes.length + 1
  | .lit _ => 1
  | .nil => 1
  | .ptr d => uptoBulk d + 1
  | .slice elems spare => uptoBulkAll elems + uptoBulkAll spare + 1
  | .agg parts => uptoBulkAll parts + 1
  | .iface _ d => uptoBulk d + 1
  | .map entries => uptoBulkEntries entries + 1
  | .held _ => 1
def uptoBulkAll {H : Type} : List (DataW H) → Nat
  | [] => 0
  | d :: r => uptoBulk d + uptoBulkAll r
def uptoBulkEntries {H : Type} : List (Lit × DataW H) → Nat
  | [] => 0
  | x :: r => uptoBulkEntry x + uptoBulkEntries r
def uptoBulkEntry {H : Type} : Lit × DataW H → Nat
  | (.string bytes, d) => bytes.length + uptoBulk d + 1
  | (_, d) => uptoBulk d + 1
 end
def uptoSmall : (H : Type) → List (DataW H) → Bool := fun _ ds => decide (uptoBulkAll ds ≤ 1048576)
def OpenSpec.upto (s : _root_.Go.ChangeSpec) : _root_.Go.OpenSpec := { _root_.Go.OpenSpec.ofChange s with cond := some uptoSmall }

/-- 'carcanetlaw12.BagsTell', WHERE WHAT IT READS IS OF BULK AT MOST 1048576: true; the input reads as it did. -/
def bagsTellUptoRow : OpenClaim := { program := "ytcihmgopaadpfaa", sum := "e31a484b7a02003fba78799eaca8aa35577870f2442fa803c3ec2cd46e2e4a98", func := "carcanet/carcanetlaw12.BagsTell", spec := "bagsTell", inPlace := ["slices.overlaps[int]"], recurses := true, plainKeys := false, apart := false, narrowed := true }
def BagsTellUptoSaid : Prop := bagsTellUptoRow.holds Try.pinned (OpenSpec.upto bagsTellSpec)

/-- 'carcanetlaw12.BagsCheck', WHERE WHAT IT READS IS OF BULK AT MOST 1048576: true; the input reads as it did. -/
def bagsCheckUptoRow : OpenClaim := { program := "ytcihmgopaadpfaa", sum := "e31a484b7a02003fba78799eaca8aa35577870f2442fa803c3ec2cd46e2e4a98", func := "carcanet/carcanetlaw12.BagsCheck", spec := "bagsCheck", inPlace := ["slices.overlaps[int]"], recurses := true, plainKeys := false, apart := false, narrowed := true }
def BagsCheckUptoSaid : Prop := bagsCheckUptoRow.holds Try.pinned (OpenSpec.upto bagsCheckSpec)

/-- 'carcanetlaw12.BagsWrong', WHERE WHAT IT READS IS OF BULK AT MOST 1048576: true; the input reads as it did. -/
def bagsWrongUptoRow : OpenClaim := { program := "ytcihmgopaadpfaa", sum := "e31a484b7a02003fba78799eaca8aa35577870f2442fa803c3ec2cd46e2e4a98", func := "carcanet/carcanetlaw12.BagsWrong", spec := "bagsWrong", inPlace := ["slices.overlaps[int]"], recurses := true, plainKeys := false, apart := false, narrowed := true }
def BagsWrongUptoSaid : Prop := bagsWrongUptoRow.holds Try.pinned (OpenSpec.upto bagsWrongSpec)

/-- 'carcanetlaw12.BagsSound', WHERE WHAT IT READS IS OF BULK AT MOST 1048576: true; the input reads as it did. -/
def bagsSoundUptoRow : OpenClaim := { program := "ytcihmgopaadpfaa", sum := "e31a484b7a02003fba78799eaca8aa35577870f2442fa803c3ec2cd46e2e4a98", func := "carcanet/carcanetlaw12.BagsSound", spec := "bagsSound", inPlace := ["slices.overlaps[int]"], recurses := true, plainKeys := false, apart := false, narrowed := true }
def BagsSoundUptoSaid : Prop := bagsSoundUptoRow.holds Try.pinned (OpenSpec.upto bagsSoundSpec)

/-- 'carcanetlaw12.BagsHold', WHERE WHAT IT READS IS OF BULK AT MOST 1048576: true; the input reads as it did. -/
def bagsHoldUptoRow : OpenClaim := { program := "ytcihmgopaadpfaa", sum := "e31a484b7a02003fba78799eaca8aa35577870f2442fa803c3ec2cd46e2e4a98", func := "carcanet/carcanetlaw12.BagsHold", spec := "bagsHold", inPlace := ["slices.overlaps[int]"], recurses := true, plainKeys := false, apart := false, narrowed := true }
def BagsHoldUptoSaid : Prop := bagsHoldUptoRow.holds Try.pinned (OpenSpec.upto bagsHoldSpec)

/-- 'carcanetlaw12.BagsNarrow', WHERE WHAT IT READS IS OF BULK AT MOST 1048576: true; the input reads as it did. -/
def bagsNarrowUptoRow : OpenClaim := { program := "ytcihmgopaadpfaa", sum := "e31a484b7a02003fba78799eaca8aa35577870f2442fa803c3ec2cd46e2e4a98", func := "carcanet/carcanetlaw12.BagsNarrow", spec := "bagsNarrow", inPlace := ["slices.overlaps[int]"], recurses := true, plainKeys := false, apart := false, narrowed := true }
def BagsNarrowUptoSaid : Prop := bagsNarrowUptoRow.holds Try.pinned (OpenSpec.upto bagsNarrowSpec)

/-- 'carcanetlaw10.ReduceModel', WHERE WHAT IT READS IS OF BULK AT MOST 1048576: true; the input reads as it did. -/
def reduceModelUptoRow : OpenClaim := { program := "ytcihmgopaadpfaa", sum := "e31a484b7a02003fba78799eaca8aa35577870f2442fa803c3ec2cd46e2e4a98", func := "carcanet/carcanetlaw10.ReduceModel", spec := "reduceModel", inPlace := ["slices.overlaps[int]"], unfollowed := true, recurses := true, plainKeys := false, apart := false, narrowed := true }
def ReduceModelUptoSaid : Prop := reduceModelUptoRow.holds Try.pinned (OpenSpec.upto reduceModelSpec)

/-- 'carcanetlaw08.MinorGrows', WHERE WHAT IT READS IS OF BULK AT MOST 1048576: true; the input reads as it did. -/
def minorGrowsUptoRow : OpenClaim := { program := "ytcihmgopaadpfaa", sum := "e31a484b7a02003fba78799eaca8aa35577870f2442fa803c3ec2cd46e2e4a98", func := "carcanet/carcanetlaw08.MinorGrows", spec := "minorGrows", unfollowed := true, recurses := true, plainKeys := false, apart := false, narrowed := true }
def MinorGrowsUptoSaid : Prop := minorGrowsUptoRow.holds Try.pinned (OpenSpec.upto minorGrowsSpec)

/-- 'carcanetlaw08.MinorDrop', WHERE WHAT IT READS IS OF BULK AT MOST 1048576: true; the input reads as it did. -/
def minorDropUptoRow : OpenClaim := { program := "ytcihmgopaadpfaa", sum := "e31a484b7a02003fba78799eaca8aa35577870f2442fa803c3ec2cd46e2e4a98", func := "carcanet/carcanetlaw08.MinorDrop", spec := "minorDrop", unfollowed := true, recurses := true, plainKeys := false, apart := false, narrowed := true }
def MinorDropUptoSaid : Prop := minorDropUptoRow.holds Try.pinned (OpenSpec.upto minorDropSpec)

/-- 'carcanetlaw08.MinorLift', WHERE WHAT IT READS IS OF BULK AT MOST 1048576: true; the input reads as it did. -/
def minorLiftUptoRow : OpenClaim := { program := "ytcihmgopaadpfaa", sum := "e31a484b7a02003fba78799eaca8aa35577870f2442fa803c3ec2cd46e2e4a98", func := "carcanet/carcanetlaw08.MinorLift", spec := "minorLift", unfollowed := true, recurses := true, plainKeys := false, apart := false, narrowed := true }
def MinorLiftUptoSaid : Prop := minorLiftUptoRow.holds Try.pinned (OpenSpec.upto minorLiftSpec)

/-- 'carcanetlaw10.ReduceLess', WHERE WHAT IT READS IS OF BULK AT MOST 1048576: true; the input reads as it did. -/
def reduceLessUptoRow : OpenClaim := { program := "ytcihmgopaadpfaa", sum := "e31a484b7a02003fba78799eaca8aa35577870f2442fa803c3ec2cd46e2e4a98", func := "carcanet/carcanetlaw10.ReduceLess", spec := "reduceLess", inPlace := ["slices.overlaps[int]"], unfollowed := true, recurses := true, plainKeys := false, apart := false, narrowed := true }
def ReduceLessUptoSaid : Prop := reduceLessUptoRow.holds Try.pinned (OpenSpec.upto reduceLessSpec)

/-- 'carcanetlaw12.BagsLess', WHERE WHAT IT READS IS OF BULK AT MOST 1048576: true; the input reads as it did. -/
def bagsLessUptoRow : OpenClaim := { program := "ytcihmgopaadpfaa", sum := "e31a484b7a02003fba78799eaca8aa35577870f2442fa803c3ec2cd46e2e4a98", func := "carcanet/carcanetlaw12.BagsLess", spec := "bagsLess", inPlace := ["slices.overlaps[int]"], unfollowed := true, recurses := true, plainKeys := false, apart := false, narrowed := true }
def BagsLessUptoSaid : Prop := bagsLessUptoRow.holds Try.pinned (OpenSpec.upto bagsLessSpec)

end Rows
end Go.Proofs.Ytcihmgopaadpfaa
