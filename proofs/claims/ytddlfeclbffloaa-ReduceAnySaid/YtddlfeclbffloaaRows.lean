/-
  No cell of these rows narrows 'for every input' (looked for: loops, veiled, ifaces, maps, wideKeys, modest, calm, conditions, laid).
  DERIVED. THE GIVEN ROWS OF THIS SEAT. 12 by the template 'for every input the law returns true; each argument reads behind the call as it read before'; 0 by the template 'total and deterministic' (their statements: YtddlfeclbffloaaTotals.lean).
  GIVEN WITH THE SEED: the statements are not yours to turn. If you find one false, say at which input.
  Laid BY PROGRAM, IN A SANDBOX (cutbox-rows.mjs): the forced cells as the released guide's own fill.sh prints them over the translation 122d4a83c6197fd8… (all of the seat's roots in one cut). By AI agents, Wed Nov 11 2026. No macro, syntax, notation, axiom, sorry.
-/
import Derived.Test.YtddlfeclbffloaaChecked
import GoSem.Claim
import GoSem.ClaimJoined
import GoSem.ClaimMapViews
import Derived.JoinedTies
import Derived.KernelRfl
namespace Go.Proofs.Ytddlfeclbffloaa
/- THE CELL 'sum', in the pinned program and in every row, IS THE sha256 OF THE DUMP (.gsa) THAT YtddlfeclbffloaaProg.lean LOADS. Nothing in Lean hashes anything: it is a label: what it is worth is what the hold of that sum in a sandbox is worth. -/
noncomputable def Try.pinned : Pinned := { name := "ytddlfeclbffloaa", sum := "122d4a83c6197fd87ca719a46327038433e83337d90cf1286091621e6f64ef4c", checked := Try.checked }
namespace Rows
def none {H : Type} : Left H := { results := [], args := [] }

/-- 'carcanetlaw08.MinorCheck': WHATEVER THE INPUT: true; the input reads as it did. -/
def minorCheckSpec : ChangeSpec := { name := "minorCheck", fn := fun _ => fun
  | [d1, d2] => { results := [.lit (.bool true)], args := [d1, d2] }
  | _ => none }
def minorCheckRow : OpenClaim := { program := "ytddlfeclbffloaa", sum := "122d4a83c6197fd87ca719a46327038433e83337d90cf1286091621e6f64ef4c", func := "carcanet/carcanetlaw08.MinorCheck", spec := "minorCheck", unfollowed := true, recurses := true, plainKeys := false, apart := false }
def MinorCheckSaid : Prop := minorCheckRow.holds Try.pinned (OpenSpec.ofChange minorCheckSpec)

/-- ITS FALSE NEIGHBOUR: 'it returns false'. Refute it at one input. -/
def minorCheckWrong : ChangeSpec := { name := "minorCheck", fn := fun _ => fun
  | [d1, d2] => { results := [.lit (.bool false)], args := [d1, d2] }
  | _ => none }
def MinorCheckWrongFalsely : Prop := minorCheckRow.holds Try.pinned (OpenSpec.ofChange minorCheckWrong)

/-- 'carcanetlaw08.MinorPattern': WHATEVER THE INPUT: true; the input reads as it did. -/
def minorPatternSpec : ChangeSpec := { name := "minorPattern", fn := fun _ => fun
  | [d] => { results := [.lit (.bool true)], args := [d] }
  | _ => none }
def minorPatternRow : OpenClaim := { program := "ytddlfeclbffloaa", sum := "122d4a83c6197fd87ca719a46327038433e83337d90cf1286091621e6f64ef4c", func := "carcanet/carcanetlaw08.MinorPattern", spec := "minorPattern", unfollowed := true, recurses := true, plainKeys := false, apart := false }
def MinorPatternSaid : Prop := minorPatternRow.holds Try.pinned (OpenSpec.ofChange minorPatternSpec)

/-- ITS FALSE NEIGHBOUR: 'it returns false'. Refute it at one input. -/
def minorPatternWrong : ChangeSpec := { name := "minorPattern", fn := fun _ => fun
  | [d] => { results := [.lit (.bool false)], args := [d] }
  | _ => none }
def MinorPatternWrongFalsely : Prop := minorPatternRow.holds Try.pinned (OpenSpec.ofChange minorPatternWrong)

/-- 'carcanetlaw08.MinorTrue': WHATEVER THE INPUT: true; the input reads as it did. -/
def minorTrueSpec : ChangeSpec := { name := "minorTrue", fn := fun _ => fun
  | [d1, d2] => { results := [.lit (.bool true)], args := [d1, d2] }
  | _ => none }
def minorTrueRow : OpenClaim := { program := "ytddlfeclbffloaa", sum := "122d4a83c6197fd87ca719a46327038433e83337d90cf1286091621e6f64ef4c", func := "carcanet/carcanetlaw08.MinorTrue", spec := "minorTrue", unfollowed := true, recurses := true, plainKeys := false, apart := false }
def MinorTrueSaid : Prop := minorTrueRow.holds Try.pinned (OpenSpec.ofChange minorTrueSpec)

/-- ITS FALSE NEIGHBOUR: 'it returns false'. Refute it at one input. -/
def minorTrueWrong : ChangeSpec := { name := "minorTrue", fn := fun _ => fun
  | [d1, d2] => { results := [.lit (.bool false)], args := [d1, d2] }
  | _ => none }
def MinorTrueWrongFalsely : Prop := minorTrueRow.holds Try.pinned (OpenSpec.ofChange minorTrueWrong)

/-- 'carcanetlaw08.MinorNone': WHATEVER THE INPUT: true; the input reads as it did. -/
def minorNoneSpec : ChangeSpec := { name := "minorNone", fn := fun _ => fun
  | [d1, d2] => { results := [.lit (.bool true)], args := [d1, d2] }
  | _ => none }
def minorNoneRow : OpenClaim := { program := "ytddlfeclbffloaa", sum := "122d4a83c6197fd87ca719a46327038433e83337d90cf1286091621e6f64ef4c", func := "carcanet/carcanetlaw08.MinorNone", spec := "minorNone", unfollowed := true, recurses := true, plainKeys := false, apart := false }
def MinorNoneSaid : Prop := minorNoneRow.holds Try.pinned (OpenSpec.ofChange minorNoneSpec)

/-- ITS FALSE NEIGHBOUR: 'it returns false'. Refute it at one input. -/
def minorNoneWrong : ChangeSpec := { name := "minorNone", fn := fun _ => fun
  | [d1, d2] => { results := [.lit (.bool false)], args := [d1, d2] }
  | _ => none }
def MinorNoneWrongFalsely : Prop := minorNoneRow.holds Try.pinned (OpenSpec.ofChange minorNoneWrong)

/-- 'carcanetlaw08.MinorMoves': WHATEVER THE INPUT: true; the input reads as it did. -/
def minorMovesSpec : ChangeSpec := { name := "minorMoves", fn := fun _ => fun
  | [d1, d2, d3] => { results := [.lit (.bool true)], args := [d1, d2, d3] }
  | _ => none }
def minorMovesRow : OpenClaim := { program := "ytddlfeclbffloaa", sum := "122d4a83c6197fd87ca719a46327038433e83337d90cf1286091621e6f64ef4c", func := "carcanet/carcanetlaw08.MinorMoves", spec := "minorMoves", unfollowed := true, recurses := true, plainKeys := false, apart := false }
def MinorMovesSaid : Prop := minorMovesRow.holds Try.pinned (OpenSpec.ofChange minorMovesSpec)

/-- ITS FALSE NEIGHBOUR: 'it returns false'. Refute it at one input. -/
def minorMovesWrong : ChangeSpec := { name := "minorMoves", fn := fun _ => fun
  | [d1, d2, d3] => { results := [.lit (.bool false)], args := [d1, d2, d3] }
  | _ => none }
def MinorMovesWrongFalsely : Prop := minorMovesRow.holds Try.pinned (OpenSpec.ofChange minorMovesWrong)

/-- 'carcanetlaw10.ReduceTells': WHATEVER THE INPUT: true; the input reads as it did. -/
def reduceTellsSpec : ChangeSpec := { name := "reduceTells", fn := fun _ => fun
  | [d] => { results := [.lit (.bool true)], args := [d] }
  | _ => none }
def reduceTellsRow : OpenClaim := { program := "ytddlfeclbffloaa", sum := "122d4a83c6197fd87ca719a46327038433e83337d90cf1286091621e6f64ef4c", func := "carcanet/carcanetlaw10.ReduceTells", spec := "reduceTells", inPlace := ["slices.overlaps[int]"], recurses := true, plainKeys := false, apart := false }
def ReduceTellsSaid : Prop := reduceTellsRow.holds Try.pinned (OpenSpec.ofChange reduceTellsSpec)

/-- ITS FALSE NEIGHBOUR: 'it returns false'. Refute it at one input. -/
def reduceTellsWrong : ChangeSpec := { name := "reduceTells", fn := fun _ => fun
  | [d] => { results := [.lit (.bool false)], args := [d] }
  | _ => none }
def ReduceTellsWrongFalsely : Prop := reduceTellsRow.holds Try.pinned (OpenSpec.ofChange reduceTellsWrong)

/-- 'carcanetlaw10.ReduceReplay': WHATEVER THE INPUT: true; the input reads as it did. -/
def reduceReplaySpec : ChangeSpec := { name := "reduceReplay", fn := fun _ => fun
  | [d1, d2] => { results := [.lit (.bool true)], args := [d1, d2] }
  | _ => none }
def reduceReplayRow : OpenClaim := { program := "ytddlfeclbffloaa", sum := "122d4a83c6197fd87ca719a46327038433e83337d90cf1286091621e6f64ef4c", func := "carcanet/carcanetlaw10.ReduceReplay", spec := "reduceReplay", inPlace := ["slices.overlaps[int]"], recurses := true, plainKeys := false, apart := false }
def ReduceReplaySaid : Prop := reduceReplayRow.holds Try.pinned (OpenSpec.ofChange reduceReplaySpec)

/-- ITS FALSE NEIGHBOUR: 'it returns false'. Refute it at one input. -/
def reduceReplayWrong : ChangeSpec := { name := "reduceReplay", fn := fun _ => fun
  | [d1, d2] => { results := [.lit (.bool false)], args := [d1, d2] }
  | _ => none }
def ReduceReplayWrongFalsely : Prop := reduceReplayRow.holds Try.pinned (OpenSpec.ofChange reduceReplayWrong)

/-- 'carcanetlaw10.ReduceWrong': WHATEVER THE INPUT: true; the input reads as it did. -/
def reduceWrongSpec : ChangeSpec := { name := "reduceWrong", fn := fun _ => fun
  | [d] => { results := [.lit (.bool true)], args := [d] }
  | _ => none }
def reduceWrongRow : OpenClaim := { program := "ytddlfeclbffloaa", sum := "122d4a83c6197fd87ca719a46327038433e83337d90cf1286091621e6f64ef4c", func := "carcanet/carcanetlaw10.ReduceWrong", spec := "reduceWrong", inPlace := ["slices.overlaps[int]"], recurses := true, plainKeys := false, apart := false }
def ReduceWrongSaid : Prop := reduceWrongRow.holds Try.pinned (OpenSpec.ofChange reduceWrongSpec)

/-- ITS FALSE NEIGHBOUR: 'it returns false'. Refute it at one input. -/
def reduceWrongWrong : ChangeSpec := { name := "reduceWrong", fn := fun _ => fun
  | [d] => { results := [.lit (.bool false)], args := [d] }
  | _ => none }
def ReduceWrongWrongFalsely : Prop := reduceWrongRow.holds Try.pinned (OpenSpec.ofChange reduceWrongWrong)

/-- 'carcanetlaw10.ReduceMinor': WHATEVER THE INPUT: true; the input reads as it did. -/
def reduceMinorSpec : ChangeSpec := { name := "reduceMinor", fn := fun _ => fun
  | [d] => { results := [.lit (.bool true)], args := [d] }
  | _ => none }
def reduceMinorRow : OpenClaim := { program := "ytddlfeclbffloaa", sum := "122d4a83c6197fd87ca719a46327038433e83337d90cf1286091621e6f64ef4c", func := "carcanet/carcanetlaw10.ReduceMinor", spec := "reduceMinor", inPlace := ["slices.overlaps[int]"], recurses := true, plainKeys := false, apart := false }
def ReduceMinorSaid : Prop := reduceMinorRow.holds Try.pinned (OpenSpec.ofChange reduceMinorSpec)

/-- ITS FALSE NEIGHBOUR: 'it returns false'. Refute it at one input. -/
def reduceMinorWrong : ChangeSpec := { name := "reduceMinor", fn := fun _ => fun
  | [d] => { results := [.lit (.bool false)], args := [d] }
  | _ => none }
def ReduceMinorWrongFalsely : Prop := reduceMinorRow.holds Try.pinned (OpenSpec.ofChange reduceMinorWrong)

/-- 'carcanetlaw10.ReduceBack': WHATEVER THE INPUT: true; the input reads as it did. -/
def reduceBackSpec : ChangeSpec := { name := "reduceBack", fn := fun _ => fun
  | [d1, d2] => { results := [.lit (.bool true)], args := [d1, d2] }
  | _ => none }
def reduceBackRow : OpenClaim := { program := "ytddlfeclbffloaa", sum := "122d4a83c6197fd87ca719a46327038433e83337d90cf1286091621e6f64ef4c", func := "carcanet/carcanetlaw10.ReduceBack", spec := "reduceBack", inPlace := ["slices.overlaps[int]"], recurses := true, plainKeys := false, apart := false }
def ReduceBackSaid : Prop := reduceBackRow.holds Try.pinned (OpenSpec.ofChange reduceBackSpec)

/-- ITS FALSE NEIGHBOUR: 'it returns false'. Refute it at one input. -/
def reduceBackWrong : ChangeSpec := { name := "reduceBack", fn := fun _ => fun
  | [d1, d2] => { results := [.lit (.bool false)], args := [d1, d2] }
  | _ => none }
def ReduceBackWrongFalsely : Prop := reduceBackRow.holds Try.pinned (OpenSpec.ofChange reduceBackWrong)

/-- 'carcanetlaw10.ReduceCore': WHATEVER THE INPUT: true; the input reads as it did. -/
def reduceCoreSpec : ChangeSpec := { name := "reduceCore", fn := fun _ => fun
  | [d] => { results := [.lit (.bool true)], args := [d] }
  | _ => none }
def reduceCoreRow : OpenClaim := { program := "ytddlfeclbffloaa", sum := "122d4a83c6197fd87ca719a46327038433e83337d90cf1286091621e6f64ef4c", func := "carcanet/carcanetlaw10.ReduceCore", spec := "reduceCore", inPlace := ["slices.overlaps[int]"], recurses := true, plainKeys := false, apart := false }
def ReduceCoreSaid : Prop := reduceCoreRow.holds Try.pinned (OpenSpec.ofChange reduceCoreSpec)

/-- ITS FALSE NEIGHBOUR: 'it returns false'. Refute it at one input. -/
def reduceCoreWrong : ChangeSpec := { name := "reduceCore", fn := fun _ => fun
  | [d] => { results := [.lit (.bool false)], args := [d] }
  | _ => none }
def ReduceCoreWrongFalsely : Prop := reduceCoreRow.holds Try.pinned (OpenSpec.ofChange reduceCoreWrong)

/-- 'carcanetlaw10.ReduceAny': WHATEVER THE INPUT: true; the input reads as it did. -/
def reduceAnySpec : ChangeSpec := { name := "reduceAny", fn := fun _ => fun
  | [d1, d2] => { results := [.lit (.bool true)], args := [d1, d2] }
  | _ => none }
def reduceAnyRow : OpenClaim := { program := "ytddlfeclbffloaa", sum := "122d4a83c6197fd87ca719a46327038433e83337d90cf1286091621e6f64ef4c", func := "carcanet/carcanetlaw10.ReduceAny", spec := "reduceAny", inPlace := ["slices.overlaps[int]"], unfollowed := true, recurses := true, plainKeys := false, apart := false }
def ReduceAnySaid : Prop := reduceAnyRow.holds Try.pinned (OpenSpec.ofChange reduceAnySpec)

/-- ITS FALSE NEIGHBOUR: 'it returns false'. Refute it at one input. -/
def reduceAnyWrong : ChangeSpec := { name := "reduceAny", fn := fun _ => fun
  | [d1, d2] => { results := [.lit (.bool false)], args := [d1, d2] }
  | _ => none }
def ReduceAnyWrongFalsely : Prop := reduceAnyRow.holds Try.pinned (OpenSpec.ofChange reduceAnyWrong)

/- THE SECOND FORM. 'bulk': how many values and letters a reading holds, each counted each time it is reached (what is shared counts as often as it is met; a slice's spare places count too). A statement '..UptoSaid' is the law's where the arguments, and the package variables that the reading takes, are together of bulk at most 1048576: NARROWER than '..Said'. Prove '..Said' where nothing that the law and all that it calls make is longer than what came in: it says more and counts as full. Else prove '..UptoSaid'. A law counts once. -/
mutual
def uptoBulk {H : Type} : DataW H → Nat
  | .lit (.string bytes) => bytes.length + 1
  | .lit _ => 1
  | .nil => 1
  | .ptr d => uptoBulk d + 1
  | .slice elems spare => uptoBulkAll elems + uptoBulkAll spare + 1
  | .agg parts => uptoBulkAll parts + 1
  | .iface _ d => uptoBulk d + 1
  | .map entries => uptoBulkEntries entries + 1
  | .held _ => 1
def uptoBulkAll {H : Type} : List (DataW H) → Nat
  | [] => 0
  | d :: r => uptoBulk d + uptoBulkAll r
def uptoBulkEntries {H : Type} : List (Lit × DataW H) → Nat
  | [] => 0
  | x :: r => uptoBulkEntry x + uptoBulkEntries r
def uptoBulkEntry {H : Type} : Lit × DataW H → Nat
  | (.string bytes, d) => bytes.length + uptoBulk d + 1
  | (_, d) => uptoBulk d + 1
 end
def uptoSmall : (H : Type) → List (DataW H) → Bool := fun _ ds => decide (uptoBulkAll ds ≤ 1048576)
def OpenSpec.upto (s : _root_.Go.ChangeSpec) : _root_.Go.OpenSpec := { _root_.Go.OpenSpec.ofChange s with cond := some uptoSmall }

/-- 'carcanetlaw08.MinorCheck', WHERE WHAT IT READS IS OF BULK AT MOST 1048576: true; the input reads as it did. -/
def minorCheckUptoRow : OpenClaim := { program := "ytddlfeclbffloaa", sum := "122d4a83c6197fd87ca719a46327038433e83337d90cf1286091621e6f64ef4c", func := "carcanet/carcanetlaw08.MinorCheck", spec := "minorCheck", unfollowed := true, recurses := true, plainKeys := false, apart := false, narrowed := true }
def MinorCheckUptoSaid : Prop := minorCheckUptoRow.holds Try.pinned (OpenSpec.upto minorCheckSpec)

/-- 'carcanetlaw08.MinorPattern', WHERE WHAT IT READS IS OF BULK AT MOST 1048576: true; the input reads as it did. -/
def minorPatternUptoRow : OpenClaim := { program := "ytddlfeclbffloaa", sum := "122d4a83c6197fd87ca719a46327038433e83337d90cf1286091621e6f64ef4c", func := "carcanet/carcanetlaw08.MinorPattern", spec := "minorPattern", unfollowed := true, recurses := true, plainKeys := false, apart := false, narrowed := true }
def MinorPatternUptoSaid : Prop := minorPatternUptoRow.holds Try.pinned (OpenSpec.upto minorPatternSpec)

/-- 'carcanetlaw08.MinorTrue', WHERE WHAT IT READS IS OF BULK AT MOST 1048576: true; the input reads as it did. -/
def minorTrueUptoRow : OpenClaim := { program := "ytddlfeclbffloaa", sum := "122d4a83c6197fd87ca719a46327038433e83337d90cf1286091621e6f64ef4c", func := "carcanet/carcanetlaw08.MinorTrue", spec := "minorTrue", unfollowed := true, recurses := true, plainKeys := false, apart := false, narrowed := true }
def MinorTrueUptoSaid : Prop := minorTrueUptoRow.holds Try.pinned (OpenSpec.upto minorTrueSpec)

/-- 'carcanetlaw08.MinorNone', WHERE WHAT IT READS IS OF BULK AT MOST 1048576: true; the input reads as it did. -/
def minorNoneUptoRow : OpenClaim := { program := "ytddlfeclbffloaa", sum := "122d4a83c6197fd87ca719a46327038433e83337d90cf1286091621e6f64ef4c", func := "carcanet/carcanetlaw08.MinorNone", spec := "minorNone", unfollowed := true, recurses := true, plainKeys := false, apart := false, narrowed := true }
def MinorNoneUptoSaid : Prop := minorNoneUptoRow.holds Try.pinned (OpenSpec.upto minorNoneSpec)

/-- 'carcanetlaw08.MinorMoves', WHERE WHAT IT READS IS OF BULK AT MOST 1048576: true; the input reads as it did. -/
def minorMovesUptoRow : OpenClaim := { program := "ytddlfeclbffloaa", sum := "122d4a83c6197fd87ca719a46327038433e83337d90cf1286091621e6f64ef4c", func := "carcanet/carcanetlaw08.MinorMoves", spec := "minorMoves", unfollowed := true, recurses := true, plainKeys := false, apart := false, narrowed := true }
def MinorMovesUptoSaid : Prop := minorMovesUptoRow.holds Try.pinned (OpenSpec.upto minorMovesSpec)

/-- 'carcanetlaw10.ReduceTells', WHERE WHAT IT READS IS OF BULK AT MOST 1048576: true; the input reads as it did. -/
def reduceTellsUptoRow : OpenClaim := { program := "ytddlfeclbffloaa", sum := "122d4a83c6197fd87ca719a46327038433e83337d90cf1286091621e6f64ef4c", func := "carcanet/carcanetlaw10.ReduceTells", spec := "reduceTells", inPlace := ["slices.overlaps[int]"], recurses := true, plainKeys := false, apart := false, narrowed := true }
def ReduceTellsUptoSaid : Prop := reduceTellsUptoRow.holds Try.pinned (OpenSpec.upto reduceTellsSpec)

/-- 'carcanetlaw10.ReduceReplay', WHERE WHAT IT READS IS OF BULK AT MOST 1048576: true; the input reads as it did. -/
def reduceReplayUptoRow : OpenClaim := { program := "ytddlfeclbffloaa", sum := "122d4a83c6197fd87ca719a46327038433e83337d90cf1286091621e6f64ef4c", func := "carcanet/carcanetlaw10.ReduceReplay", spec := "reduceReplay", inPlace := ["slices.overlaps[int]"], recurses := true, plainKeys := false, apart := false, narrowed := true }
def ReduceReplayUptoSaid : Prop := reduceReplayUptoRow.holds Try.pinned (OpenSpec.upto reduceReplaySpec)

/-- 'carcanetlaw10.ReduceWrong', WHERE WHAT IT READS IS OF BULK AT MOST 1048576: true; the input reads as it did. -/
def reduceWrongUptoRow : OpenClaim := { program := "ytddlfeclbffloaa", sum := "122d4a83c6197fd87ca719a46327038433e83337d90cf1286091621e6f64ef4c", func := "carcanet/carcanetlaw10.ReduceWrong", spec := "reduceWrong", inPlace := ["slices.overlaps[int]"], recurses := true, plainKeys := false, apart := false, narrowed := true }
def ReduceWrongUptoSaid : Prop := reduceWrongUptoRow.holds Try.pinned (OpenSpec.upto reduceWrongSpec)

/-- 'carcanetlaw10.ReduceMinor', WHERE WHAT IT READS IS OF BULK AT MOST 1048576: true; the input reads as it did. -/
def reduceMinorUptoRow : OpenClaim := { program := "ytddlfeclbffloaa", sum := "122d4a83c6197fd87ca719a46327038433e83337d90cf1286091621e6f64ef4c", func := "carcanet/carcanetlaw10.ReduceMinor", spec := "reduceMinor", inPlace := ["slices.overlaps[int]"], recurses := true, plainKeys := false, apart := false, narrowed := true }
def ReduceMinorUptoSaid : Prop := reduceMinorUptoRow.holds Try.pinned (OpenSpec.upto reduceMinorSpec)

/-- 'carcanetlaw10.ReduceBack', WHERE WHAT IT READS IS OF BULK AT MOST 1048576: true; the input reads as it did. -/
def reduceBackUptoRow : OpenClaim := { program := "ytddlfeclbffloaa", sum := "122d4a83c6197fd87ca719a46327038433e83337d90cf1286091621e6f64ef4c", func := "carcanet/carcanetlaw10.ReduceBack", spec := "reduceBack", inPlace := ["slices.overlaps[int]"], recurses := true, plainKeys := false, apart := false, narrowed := true }
def ReduceBackUptoSaid : Prop := reduceBackUptoRow.holds Try.pinned (OpenSpec.upto reduceBackSpec)

/-- 'carcanetlaw10.ReduceCore', WHERE WHAT IT READS IS OF BULK AT MOST 1048576: true; the input reads as it did. -/
def reduceCoreUptoRow : OpenClaim := { program := "ytddlfeclbffloaa", sum := "122d4a83c6197fd87ca719a46327038433e83337d90cf1286091621e6f64ef4c", func := "carcanet/carcanetlaw10.ReduceCore", spec := "reduceCore", inPlace := ["slices.overlaps[int]"], recurses := true, plainKeys := false, apart := false, narrowed := true }
def ReduceCoreUptoSaid : Prop := reduceCoreUptoRow.holds Try.pinned (OpenSpec.upto reduceCoreSpec)

/-- 'carcanetlaw10.ReduceAny', WHERE WHAT IT READS IS OF BULK AT MOST 1048576: true; the input reads as it did. -/
def reduceAnyUptoRow : OpenClaim := { program := "ytddlfeclbffloaa", sum := "122d4a83c6197fd87ca719a46327038433e83337d90cf1286091621e6f64ef4c", func := "carcanet/carcanetlaw10.ReduceAny", spec := "reduceAny", inPlace := ["slices.overlaps[int]"], unfollowed := true, recurses := true, plainKeys := false, apart := false, narrowed := true }
def ReduceAnyUptoSaid : Prop := reduceAnyUptoRow.holds Try.pinned (OpenSpec.upto reduceAnySpec)

end Rows
end Go.Proofs.Ytddlfeclbffloaa
