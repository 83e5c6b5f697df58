/-
  No cell of these rows narrows 'for every input' (looked for: loops, veiled, ifaces, maps, wideKeys, modest, calm, conditions, laid).
  DERIVED. THE GIVEN ROWS OF THIS SEAT. 12 by the template 'for every input the law returns true; each argument reads behind the call as it read before'; 0 by the template 'total and deterministic' (their statements: YtlffbpdecjjpfaaTotals.lean).
  GIVEN WITH THE SEED: the statements are not yours to turn. If you find one false, say at which input.
  Laid BY PROGRAM, IN A SANDBOX (cutbox-rows.mjs): the forced cells as the released guide's own fill.sh prints them over the translation 9823d3f45f127396… (all of the seat's roots in one cut). By AI agents, Wed Nov 11 2026. No macro, syntax, notation, axiom, sorry.
-/
import Derived.Test.YtlffbpdecjjpfaaChecked
import GoSem.Claim
import GoSem.ClaimJoined
import GoSem.ClaimMapViews
import Derived.JoinedTies
import Derived.KernelRfl
namespace Go.Proofs.Ytlffbpdecjjpfaa
/- THE CELL 'sum', in the pinned program and in every row, IS THE sha256 OF THE DUMP (.gsa) THAT YtlffbpdecjjpfaaProg.lean LOADS. Nothing in Lean hashes anything: it is a label: what it is worth is what the hold of that sum in a sandbox is worth. -/
noncomputable def Try.pinned : Pinned := { name := "ytlffbpdecjjpfaa", sum := "9823d3f45f1273968c23564278fae5e4edb6021f2453ec817b0d8e42618e699e", checked := Try.checked }
namespace Rows
def none {H : Type} : Left H := { results := [], args := [] }

/-- 'carcanetlaw11.ExpandTells': WHATEVER THE INPUT: true; the input reads as it did. -/
def expandTellsSpec : ChangeSpec := { name := "expandTells", fn := fun _ => fun
  | [d1, d2, d3] => { results := [.lit (.bool true)], args := [d1, d2, d3] }
  | _ => none }
def expandTellsRow : OpenClaim := { program := "ytlffbpdecjjpfaa", sum := "9823d3f45f1273968c23564278fae5e4edb6021f2453ec817b0d8e42618e699e", func := "carcanet/carcanetlaw11.ExpandTells", spec := "expandTells", inPlace := ["slices.overlaps[int]"], unfollowed := true, recurses := true, plainKeys := false, apart := false }
def ExpandTellsSaid : Prop := expandTellsRow.holds Try.pinned (OpenSpec.ofChange expandTellsSpec)

/-- ITS FALSE NEIGHBOUR: 'it returns false'. Refute it at one input. -/
def expandTellsWrong : ChangeSpec := { name := "expandTells", fn := fun _ => fun
  | [d1, d2, d3] => { results := [.lit (.bool false)], args := [d1, d2, d3] }
  | _ => none }
def ExpandTellsWrongFalsely : Prop := expandTellsRow.holds Try.pinned (OpenSpec.ofChange expandTellsWrong)

/-- 'carcanetlaw11.ExpandLifts': WHATEVER THE INPUT: true; the input reads as it did. -/
def expandLiftsSpec : ChangeSpec := { name := "expandLifts", fn := fun _ => fun
  | [d1, d2, d3] => { results := [.lit (.bool true)], args := [d1, d2, d3] }
  | _ => none }
def expandLiftsRow : OpenClaim := { program := "ytlffbpdecjjpfaa", sum := "9823d3f45f1273968c23564278fae5e4edb6021f2453ec817b0d8e42618e699e", func := "carcanet/carcanetlaw11.ExpandLifts", spec := "expandLifts", inPlace := ["slices.overlaps[int]"], unfollowed := true, recurses := true, plainKeys := false, apart := false }
def ExpandLiftsSaid : Prop := expandLiftsRow.holds Try.pinned (OpenSpec.ofChange expandLiftsSpec)

/-- ITS FALSE NEIGHBOUR: 'it returns false'. Refute it at one input. -/
def expandLiftsWrong : ChangeSpec := { name := "expandLifts", fn := fun _ => fun
  | [d1, d2, d3] => { results := [.lit (.bool false)], args := [d1, d2, d3] }
  | _ => none }
def ExpandLiftsWrongFalsely : Prop := expandLiftsRow.holds Try.pinned (OpenSpec.ofChange expandLiftsWrong)

/-- 'carcanetlaw11.ExpandWrong': WHATEVER THE INPUT: true; the input reads as it did. -/
def expandWrongSpec : ChangeSpec := { name := "expandWrong", fn := fun _ => fun
  | [d1, d2, d3] => { results := [.lit (.bool true)], args := [d1, d2, d3] }
  | _ => none }
def expandWrongRow : OpenClaim := { program := "ytlffbpdecjjpfaa", sum := "9823d3f45f1273968c23564278fae5e4edb6021f2453ec817b0d8e42618e699e", func := "carcanet/carcanetlaw11.ExpandWrong", spec := "expandWrong", inPlace := ["slices.overlaps[int]"], unfollowed := true, recurses := true, plainKeys := false, apart := false }
def ExpandWrongSaid : Prop := expandWrongRow.holds Try.pinned (OpenSpec.ofChange expandWrongSpec)

/-- ITS FALSE NEIGHBOUR: 'it returns false'. Refute it at one input. -/
def expandWrongWrong : ChangeSpec := { name := "expandWrong", fn := fun _ => fun
  | [d1, d2, d3] => { results := [.lit (.bool false)], args := [d1, d2, d3] }
  | _ => none }
def ExpandWrongWrongFalsely : Prop := expandWrongRow.holds Try.pinned (OpenSpec.ofChange expandWrongWrong)

/-- 'carcanetlaw11.ExpandOwn': WHATEVER THE INPUT: true; the input reads as it did. -/
def expandOwnSpec : ChangeSpec := { name := "expandOwn", fn := fun _ => fun
  | [d1, d2, d3] => { results := [.lit (.bool true)], args := [d1, d2, d3] }
  | _ => none }
def expandOwnRow : OpenClaim := { program := "ytlffbpdecjjpfaa", sum := "9823d3f45f1273968c23564278fae5e4edb6021f2453ec817b0d8e42618e699e", func := "carcanet/carcanetlaw11.ExpandOwn", spec := "expandOwn", inPlace := ["slices.overlaps[int]"], unfollowed := true, recurses := true, plainKeys := false, apart := false }
def ExpandOwnSaid : Prop := expandOwnRow.holds Try.pinned (OpenSpec.ofChange expandOwnSpec)

/-- ITS FALSE NEIGHBOUR: 'it returns false'. Refute it at one input. -/
def expandOwnWrong : ChangeSpec := { name := "expandOwn", fn := fun _ => fun
  | [d1, d2, d3] => { results := [.lit (.bool false)], args := [d1, d2, d3] }
  | _ => none }
def ExpandOwnWrongFalsely : Prop := expandOwnRow.holds Try.pinned (OpenSpec.ofChange expandOwnWrong)

/-- 'carcanetlaw11.ExpandApart': WHATEVER THE INPUT: true; the input reads as it did. -/
def expandApartSpec : ChangeSpec := { name := "expandApart", fn := fun _ => fun
  | [d1, d2] => { results := [.lit (.bool true)], args := [d1, d2] }
  | _ => none }
def expandApartRow : OpenClaim := { program := "ytlffbpdecjjpfaa", sum := "9823d3f45f1273968c23564278fae5e4edb6021f2453ec817b0d8e42618e699e", func := "carcanet/carcanetlaw11.ExpandApart", spec := "expandApart", inPlace := ["slices.overlaps[int]"], unfollowed := true, recurses := true, plainKeys := false, apart := false }
def ExpandApartSaid : Prop := expandApartRow.holds Try.pinned (OpenSpec.ofChange expandApartSpec)

/-- ITS FALSE NEIGHBOUR: 'it returns false'. Refute it at one input. -/
def expandApartWrong : ChangeSpec := { name := "expandApart", fn := fun _ => fun
  | [d1, d2] => { results := [.lit (.bool false)], args := [d1, d2] }
  | _ => none }
def ExpandApartWrongFalsely : Prop := expandApartRow.holds Try.pinned (OpenSpec.ofChange expandApartWrong)

/-- 'carcanetlaw11.ExpandPaths': WHATEVER THE INPUT: true; the input reads as it did. -/
def expandPathsSpec : ChangeSpec := { name := "expandPaths", fn := fun _ => fun
  | [d1, d2] => { results := [.lit (.bool true)], args := [d1, d2] }
  | _ => none }
def expandPathsRow : OpenClaim := { program := "ytlffbpdecjjpfaa", sum := "9823d3f45f1273968c23564278fae5e4edb6021f2453ec817b0d8e42618e699e", func := "carcanet/carcanetlaw11.ExpandPaths", spec := "expandPaths", inPlace := ["slices.overlaps[int]"], unfollowed := true, recurses := true, plainKeys := false, apart := false }
def ExpandPathsSaid : Prop := expandPathsRow.holds Try.pinned (OpenSpec.ofChange expandPathsSpec)

/-- ITS FALSE NEIGHBOUR: 'it returns false'. Refute it at one input. -/
def expandPathsWrong : ChangeSpec := { name := "expandPaths", fn := fun _ => fun
  | [d1, d2] => { results := [.lit (.bool false)], args := [d1, d2] }
  | _ => none }
def ExpandPathsWrongFalsely : Prop := expandPathsRow.holds Try.pinned (OpenSpec.ofChange expandPathsWrong)

/-- 'carcanetlaw11.ExpandTopo': WHATEVER THE INPUT: true; the input reads as it did. -/
def expandTopoSpec : ChangeSpec := { name := "expandTopo", fn := fun _ => fun
  | [d1, d2, d3] => { results := [.lit (.bool true)], args := [d1, d2, d3] }
  | _ => none }
def expandTopoRow : OpenClaim := { program := "ytlffbpdecjjpfaa", sum := "9823d3f45f1273968c23564278fae5e4edb6021f2453ec817b0d8e42618e699e", func := "carcanet/carcanetlaw11.ExpandTopo", spec := "expandTopo", inPlace := ["slices.overlaps[int]"], unfollowed := true, recurses := true, plainKeys := false, apart := false }
def ExpandTopoSaid : Prop := expandTopoRow.holds Try.pinned (OpenSpec.ofChange expandTopoSpec)

/-- ITS FALSE NEIGHBOUR: 'it returns false'. Refute it at one input. -/
def expandTopoWrong : ChangeSpec := { name := "expandTopo", fn := fun _ => fun
  | [d1, d2, d3] => { results := [.lit (.bool false)], args := [d1, d2, d3] }
  | _ => none }
def ExpandTopoWrongFalsely : Prop := expandTopoRow.holds Try.pinned (OpenSpec.ofChange expandTopoWrong)

/-- 'carcanetlaw09.TopoMakes': WHATEVER THE INPUT: true; the input reads as it did. -/
def topoMakesSpec : ChangeSpec := { name := "topoMakes", fn := fun _ => fun
  | [d] => { results := [.lit (.bool true)], args := [d] }
  | _ => none }
def topoMakesRow : OpenClaim := { program := "ytlffbpdecjjpfaa", sum := "9823d3f45f1273968c23564278fae5e4edb6021f2453ec817b0d8e42618e699e", func := "carcanet/carcanetlaw09.TopoMakes", spec := "topoMakes", unfollowed := true, recurses := true, plainKeys := false, apart := false }
def TopoMakesSaid : Prop := topoMakesRow.holds Try.pinned (OpenSpec.ofChange topoMakesSpec)

/-- ITS FALSE NEIGHBOUR: 'it returns false'. Refute it at one input. -/
def topoMakesWrong : ChangeSpec := { name := "topoMakes", fn := fun _ => fun
  | [d] => { results := [.lit (.bool false)], args := [d] }
  | _ => none }
def TopoMakesWrongFalsely : Prop := topoMakesRow.holds Try.pinned (OpenSpec.ofChange topoMakesWrong)

/-- 'carcanetlaw14.ThinIs': WHATEVER THE INPUT: true; the input reads as it did. -/
def thinIsSpec : ChangeSpec := { name := "thinIs", fn := fun _ => fun
  | [d] => { results := [.lit (.bool true)], args := [d] }
  | _ => none }
def thinIsRow : OpenClaim := { program := "ytlffbpdecjjpfaa", sum := "9823d3f45f1273968c23564278fae5e4edb6021f2453ec817b0d8e42618e699e", func := "carcanet/carcanetlaw14.ThinIs", spec := "thinIs", inPlace := ["slices.overlaps[int]"], unfollowed := true, recurses := true, plainKeys := false, apart := false }
def ThinIsSaid : Prop := thinIsRow.holds Try.pinned (OpenSpec.ofChange thinIsSpec)

/-- ITS FALSE NEIGHBOUR: 'it returns false'. Refute it at one input. -/
def thinIsWrong : ChangeSpec := { name := "thinIs", fn := fun _ => fun
  | [d] => { results := [.lit (.bool false)], args := [d] }
  | _ => none }
def ThinIsWrongFalsely : Prop := thinIsRow.holds Try.pinned (OpenSpec.ofChange thinIsWrong)

/-- 'carcanetlaw14.ThinAgain': WHATEVER THE INPUT: true; the input reads as it did. -/
def thinAgainSpec : ChangeSpec := { name := "thinAgain", fn := fun _ => fun
  | [d1, d2] => { results := [.lit (.bool true)], args := [d1, d2] }
  | _ => none }
def thinAgainRow : OpenClaim := { program := "ytlffbpdecjjpfaa", sum := "9823d3f45f1273968c23564278fae5e4edb6021f2453ec817b0d8e42618e699e", func := "carcanet/carcanetlaw14.ThinAgain", spec := "thinAgain", inPlace := ["slices.overlaps[int]"], unfollowed := true, recurses := true, plainKeys := false, apart := false }
def ThinAgainSaid : Prop := thinAgainRow.holds Try.pinned (OpenSpec.ofChange thinAgainSpec)

/-- ITS FALSE NEIGHBOUR: 'it returns false'. Refute it at one input. -/
def thinAgainWrong : ChangeSpec := { name := "thinAgain", fn := fun _ => fun
  | [d1, d2] => { results := [.lit (.bool false)], args := [d1, d2] }
  | _ => none }
def ThinAgainWrongFalsely : Prop := thinAgainRow.holds Try.pinned (OpenSpec.ofChange thinAgainWrong)

/-- 'carcanetlaw14.ThinLeast': WHATEVER THE INPUT: true; the input reads as it did. -/
def thinLeastSpec : ChangeSpec := { name := "thinLeast", fn := fun _ => fun
  | [d1, d2] => { results := [.lit (.bool true)], args := [d1, d2] }
  | _ => none }
def thinLeastRow : OpenClaim := { program := "ytlffbpdecjjpfaa", sum := "9823d3f45f1273968c23564278fae5e4edb6021f2453ec817b0d8e42618e699e", func := "carcanet/carcanetlaw14.ThinLeast", spec := "thinLeast", inPlace := ["slices.overlaps[int]"], unfollowed := true, recurses := true, plainKeys := false, apart := false }
def ThinLeastSaid : Prop := thinLeastRow.holds Try.pinned (OpenSpec.ofChange thinLeastSpec)

/-- ITS FALSE NEIGHBOUR: 'it returns false'. Refute it at one input. -/
def thinLeastWrong : ChangeSpec := { name := "thinLeast", fn := fun _ => fun
  | [d1, d2] => { results := [.lit (.bool false)], args := [d1, d2] }
  | _ => none }
def ThinLeastWrongFalsely : Prop := thinLeastRow.holds Try.pinned (OpenSpec.ofChange thinLeastWrong)

/-- 'carcanetlaw11.ExpandRead': WHATEVER THE INPUT: true; the input reads as it did. -/
def expandReadSpec : ChangeSpec := { name := "expandRead", fn := fun _ => fun
  | [d] => { results := [.lit (.bool true)], args := [d] }
  | _ => none }
def expandReadRow : OpenClaim := { program := "ytlffbpdecjjpfaa", sum := "9823d3f45f1273968c23564278fae5e4edb6021f2453ec817b0d8e42618e699e", func := "carcanet/carcanetlaw11.ExpandRead", spec := "expandRead", inPlace := ["slices.overlaps[int]"], unfollowed := true, recurses := true, plainKeys := false, apart := false }
def ExpandReadSaid : Prop := expandReadRow.holds Try.pinned (OpenSpec.ofChange expandReadSpec)

/-- ITS FALSE NEIGHBOUR: 'it returns false'. Refute it at one input. -/
def expandReadWrong : ChangeSpec := { name := "expandRead", fn := fun _ => fun
  | [d] => { results := [.lit (.bool false)], args := [d] }
  | _ => none }
def ExpandReadWrongFalsely : Prop := expandReadRow.holds Try.pinned (OpenSpec.ofChange expandReadWrong)

/- THE SECOND FORM. 'bulk': how many values and letters a reading holds, each counted each time it is reached (what is shared counts as often as it is met; a slice's spare places count too). A statement '..UptoSaid' is the law's where the arguments, and the package variables that the reading takes, are together of bulk at most 1048576: NARROWER than '..Said'. Prove '..Said' where nothing that the law and all that it calls make is longer than what came in: it says more and counts as full. Else prove '..UptoSaid'. A law counts once. -/
mutual
def uptoBulk {H : Type} : DataW H → Nat
  | .lit (.string bytes) => bytes.length + 1
  | .lit _ => 1
  | .nil => 1
  | .ptr d => uptoBulk d + 1
  | .slice elems spare => uptoBulkAll elems + uptoBulkAll spare + 1
  | .agg parts => uptoBulkAll parts + 1
  | .iface _ d => uptoBulk d + 1
  | .map entries => uptoBulkEntries entries + 1
  | .held _ => 1
def uptoBulkAll {H : Type} : List (DataW H) → Nat
  | [] => 0
  | d :: r => uptoBulk d + uptoBulkAll r
def uptoBulkEntries {H : Type} : List (Lit × DataW H) → Nat
  | [] => 0
  | x :: r => uptoBulkEntry x + uptoBulkEntries r
def uptoBulkEntry {H : Type} : Lit × DataW H → Nat
  | (.string bytes, d) => bytes.length + uptoBulk d + 1
  | (_, d) => uptoBulk d + 1
 end
def uptoSmall : (H : Type) → List (DataW H) → Bool := fun _ ds => decide (uptoBulkAll ds ≤ 1048576)
def OpenSpec.upto (s : _root_.Go.ChangeSpec) : _root_.Go.OpenSpec := { _root_.Go.OpenSpec.ofChange s with cond := some uptoSmall }

/-- 'carcanetlaw11.ExpandTells', WHERE WHAT IT READS IS OF BULK AT MOST 1048576: true; the input reads as it did. -/
def expandTellsUptoRow : OpenClaim := { program := "ytlffbpdecjjpfaa", sum := "9823d3f45f1273968c23564278fae5e4edb6021f2453ec817b0d8e42618e699e", func := "carcanet/carcanetlaw11.ExpandTells", spec := "expandTells", inPlace := ["slices.overlaps[int]"], unfollowed := true, recurses := true, plainKeys := false, apart := false, narrowed := true }
def ExpandTellsUptoSaid : Prop := expandTellsUptoRow.holds Try.pinned (OpenSpec.upto expandTellsSpec)

/-- 'carcanetlaw11.ExpandLifts', WHERE WHAT IT READS IS OF BULK AT MOST 1048576: true; the input reads as it did. -/
def expandLiftsUptoRow : OpenClaim := { program := "ytlffbpdecjjpfaa", sum := "9823d3f45f1273968c23564278fae5e4edb6021f2453ec817b0d8e42618e699e", func := "carcanet/carcanetlaw11.ExpandLifts", spec := "expandLifts", inPlace := ["slices.overlaps[int]"], unfollowed := true, recurses := true, plainKeys := false, apart := false, narrowed := true }
def ExpandLiftsUptoSaid : Prop := expandLiftsUptoRow.holds Try.pinned (OpenSpec.upto expandLiftsSpec)

/-- 'carcanetlaw11.ExpandWrong', WHERE WHAT IT READS IS OF BULK AT MOST 1048576: true; the input reads as it did. -/
def expandWrongUptoRow : OpenClaim := { program := "ytlffbpdecjjpfaa", sum := "9823d3f45f1273968c23564278fae5e4edb6021f2453ec817b0d8e42618e699e", func := "carcanet/carcanetlaw11.ExpandWrong", spec := "expandWrong", inPlace := ["slices.overlaps[int]"], unfollowed := true, recurses := true, plainKeys := false, apart := false, narrowed := true }
def ExpandWrongUptoSaid : Prop := expandWrongUptoRow.holds Try.pinned (OpenSpec.upto expandWrongSpec)

/-- 'carcanetlaw11.ExpandOwn', WHERE WHAT IT READS IS OF BULK AT MOST 1048576: true; the input reads as it did. -/
def expandOwnUptoRow : OpenClaim := { program := "ytlffbpdecjjpfaa", sum := "9823d3f45f1273968c23564278fae5e4edb6021f2453ec817b0d8e42618e699e", func := "carcanet/carcanetlaw11.ExpandOwn", spec := "expandOwn", inPlace := ["slices.overlaps[int]"], unfollowed := true, recurses := true, plainKeys := false, apart := false, narrowed := true }
def ExpandOwnUptoSaid : Prop := expandOwnUptoRow.holds Try.pinned (OpenSpec.upto expandOwnSpec)

/-- 'carcanetlaw11.ExpandApart', WHERE WHAT IT READS IS OF BULK AT MOST 1048576: true; the input reads as it did. -/
def expandApartUptoRow : OpenClaim := { program := "ytlffbpdecjjpfaa", sum := "9823d3f45f1273968c23564278fae5e4edb6021f2453ec817b0d8e42618e699e", func := "carcanet/carcanetlaw11.ExpandApart", spec := "expandApart", inPlace := ["slices.overlaps[int]"], unfollowed := true, recurses := true, plainKeys := false, apart := false, narrowed := true }
def ExpandApartUptoSaid : Prop := expandApartUptoRow.holds Try.pinned (OpenSpec.upto expandApartSpec)

/-- 'carcanetlaw11.ExpandPaths', WHERE WHAT IT READS IS OF BULK AT MOST 1048576: true; the input reads as it did. -/
def expandPathsUptoRow : OpenClaim := { program := "ytlffbpdecjjpfaa", sum := "9823d3f45f1273968c23564278fae5e4edb6021f2453ec817b0d8e42618e699e", func := "carcanet/carcanetlaw11.ExpandPaths", spec := "expandPaths", inPlace := ["slices.overlaps[int]"], unfollowed := true, recurses := true, plainKeys := false, apart := false, narrowed := true }
def ExpandPathsUptoSaid : Prop := expandPathsUptoRow.holds Try.pinned (OpenSpec.upto expandPathsSpec)

/-- 'carcanetlaw11.ExpandTopo', WHERE WHAT IT READS IS OF BULK AT MOST 1048576: true; the input reads as it did. -/
def expandTopoUptoRow : OpenClaim := { program := "ytlffbpdecjjpfaa", sum := "9823d3f45f1273968c23564278fae5e4edb6021f2453ec817b0d8e42618e699e", func := "carcanet/carcanetlaw11.ExpandTopo", spec := "expandTopo", inPlace := ["slices.overlaps[int]"], unfollowed := true, recurses := true, plainKeys := false, apart := false, narrowed := true }
def ExpandTopoUptoSaid : Prop := expandTopoUptoRow.holds Try.pinned (OpenSpec.upto expandTopoSpec)

/-- 'carcanetlaw09.TopoMakes', WHERE WHAT IT READS IS OF BULK AT MOST 1048576: true; the input reads as it did. -/
def topoMakesUptoRow : OpenClaim := { program := "ytlffbpdecjjpfaa", sum := "9823d3f45f1273968c23564278fae5e4edb6021f2453ec817b0d8e42618e699e", func := "carcanet/carcanetlaw09.TopoMakes", spec := "topoMakes", unfollowed := true, recurses := true, plainKeys := false, apart := false, narrowed := true }
def TopoMakesUptoSaid : Prop := topoMakesUptoRow.holds Try.pinned (OpenSpec.upto topoMakesSpec)

/-- 'carcanetlaw14.ThinIs', WHERE WHAT IT READS IS OF BULK AT MOST 1048576: true; the input reads as it did. -/
def thinIsUptoRow : OpenClaim := { program := "ytlffbpdecjjpfaa", sum := "9823d3f45f1273968c23564278fae5e4edb6021f2453ec817b0d8e42618e699e", func := "carcanet/carcanetlaw14.ThinIs", spec := "thinIs", inPlace := ["slices.overlaps[int]"], unfollowed := true, recurses := true, plainKeys := false, apart := false, narrowed := true }
def ThinIsUptoSaid : Prop := thinIsUptoRow.holds Try.pinned (OpenSpec.upto thinIsSpec)

/-- 'carcanetlaw14.ThinAgain', WHERE WHAT IT READS IS OF BULK AT MOST 1048576: true; the input reads as it did. -/
def thinAgainUptoRow : OpenClaim := { program := "ytlffbpdecjjpfaa", sum := "9823d3f45f1273968c23564278fae5e4edb6021f2453ec817b0d8e42618e699e", func := "carcanet/carcanetlaw14.ThinAgain", spec := "thinAgain", inPlace := ["slices.overlaps[int]"], unfollowed := true, recurses := true, plainKeys := false, apart := false, narrowed := true }
def ThinAgainUptoSaid : Prop := thinAgainUptoRow.holds Try.pinned (OpenSpec.upto thinAgainSpec)

/-- 'carcanetlaw14.ThinLeast', WHERE WHAT IT READS IS OF BULK AT MOST 1048576: true; the input reads as it did. -/
def thinLeastUptoRow : OpenClaim := { program := "ytlffbpdecjjpfaa", sum := "9823d3f45f1273968c23564278fae5e4edb6021f2453ec817b0d8e42618e699e", func := "carcanet/carcanetlaw14.ThinLeast", spec := "thinLeast", inPlace := ["slices.overlaps[int]"], unfollowed := true, recurses := true, plainKeys := false, apart := false, narrowed := true }
def ThinLeastUptoSaid : Prop := thinLeastUptoRow.holds Try.pinned (OpenSpec.upto thinLeastSpec)

/-- 'carcanetlaw11.ExpandRead', WHERE WHAT IT READS IS OF BULK AT MOST 1048576: true; the input reads as it did. -/
def expandReadUptoRow : OpenClaim := { program := "ytlffbpdecjjpfaa", sum := "9823d3f45f1273968c23564278fae5e4edb6021f2453ec817b0d8e42618e699e", func := "carcanet/carcanetlaw11.ExpandRead", spec := "expandRead", inPlace := ["slices.overlaps[int]"], unfollowed := true, recurses := true, plainKeys := false, apart := false, narrowed := true }
def ExpandReadUptoSaid : Prop := expandReadUptoRow.holds Try.pinned (OpenSpec.upto expandReadSpec)

end Rows
end Go.Proofs.Ytlffbpdecjjpfaa
