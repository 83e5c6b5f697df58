/-
  No cell of these rows narrows 'for every input' (looked for: loops, veiled, ifaces, maps, wideKeys, modest, calm, conditions, laid).
  DERIVED. THE GIVEN ROWS OF THIS SEAT. 4 by the template 'for every input the law returns true; each argument reads behind the call as it read before'; 0 by the template 'total and deterministic' (their statements: YtdbpjkehidechaaGreatTotals.lean).
  GIVEN WITH THE SEED: the statements are not yours to turn. If you find one false, say at which input.
  Laid BY PROGRAM, IN A SANDBOX (cutbox-rows.mjs): the forced cells as the released guide's own fill.sh prints them over the translation f491d3e6bede1649… (all of the seat's roots in one cut). By AI agents, Wed Nov 11 2026. No macro, syntax, notation, axiom, sorry.
-/
import Derived.Test.YtdbpjkehidechaaGreatChecked
import GoSem.Claim
import GoSem.ClaimJoined
import GoSem.ClaimMapViews
import Derived.JoinedTies
import Derived.KernelRfl
namespace Go.Proofs.YtdbpjkehidechaaGreat
/- THE CELL 'sum', in the pinned program and in every row, IS THE sha256 OF THE DUMP (.gsa) THAT YtdbpjkehidechaaGreatProg.lean LOADS. Nothing in Lean hashes anything: it is a label: what it is worth is what the hold of that sum in a sandbox is worth. -/
noncomputable def Tryz.pinned : Pinned := { name := "ytdbpjkehidechaagreat", sum := "f491d3e6bede16490a67fcd5296eee3b792678dd78e00702b0717e91c51e62da", checked := Tryz.checked }
namespace Rows
def none {H : Type} : Left H := { results := [], args := [] }

/-- 'carcanetlaw09.TopoRead': WHATEVER THE INPUT: true; the input reads as it did. -/
def topoReadSpec : ChangeSpec := { name := "topoRead", fn := fun _ => fun
  | [d] => { results := [.lit (.bool true)], args := [d] }
  | _ => none }
def topoReadRow : OpenClaim := { program := "ytdbpjkehidechaagreat", sum := "f491d3e6bede16490a67fcd5296eee3b792678dd78e00702b0717e91c51e62da", func := "carcanet/carcanetlaw09.TopoRead", spec := "topoRead", unfollowed := true, recurses := true, plainKeys := false, apart := false }
def TopoReadSaid : Prop := topoReadRow.holds Tryz.pinned (OpenSpec.ofChange topoReadSpec)

/-- ITS FALSE NEIGHBOUR: 'it returns false'. Refute it at one input. -/
def topoReadWrong : ChangeSpec := { name := "topoRead", fn := fun _ => fun
  | [d] => { results := [.lit (.bool false)], args := [d] }
  | _ => none }
def TopoReadWrongFalsely : Prop := topoReadRow.holds Tryz.pinned (OpenSpec.ofChange topoReadWrong)

/-- 'carcanetlaw14.ThinTells': WHATEVER THE INPUT: true; the input reads as it did. -/
def thinTellsSpec : ChangeSpec := { name := "thinTells", fn := fun _ => fun
  | [d] => { results := [.lit (.bool true)], args := [d] }
  | _ => none }
def thinTellsRow : OpenClaim := { program := "ytdbpjkehidechaagreat", sum := "f491d3e6bede16490a67fcd5296eee3b792678dd78e00702b0717e91c51e62da", func := "carcanet/carcanetlaw14.ThinTells", spec := "thinTells", inPlace := ["slices.overlaps[int]"], unfollowed := true, recurses := true, plainKeys := false, apart := false }
def ThinTellsSaid : Prop := thinTellsRow.holds Tryz.pinned (OpenSpec.ofChange thinTellsSpec)

/-- ITS FALSE NEIGHBOUR: 'it returns false'. Refute it at one input. -/
def thinTellsWrong : ChangeSpec := { name := "thinTells", fn := fun _ => fun
  | [d] => { results := [.lit (.bool false)], args := [d] }
  | _ => none }
def ThinTellsWrongFalsely : Prop := thinTellsRow.holds Tryz.pinned (OpenSpec.ofChange thinTellsWrong)

/-- 'carcanetlaw14.ThinReads': WHATEVER THE INPUT: true; the input reads as it did. -/
def thinReadsSpec : ChangeSpec := { name := "thinReads", fn := fun _ => fun
  | [d1, d2] => { results := [.lit (.bool true)], args := [d1, d2] }
  | _ => none }
def thinReadsRow : OpenClaim := { program := "ytdbpjkehidechaagreat", sum := "f491d3e6bede16490a67fcd5296eee3b792678dd78e00702b0717e91c51e62da", func := "carcanet/carcanetlaw14.ThinReads", spec := "thinReads", inPlace := ["slices.overlaps[int]"], unfollowed := true, recurses := true, plainKeys := false, apart := false }
def ThinReadsSaid : Prop := thinReadsRow.holds Tryz.pinned (OpenSpec.ofChange thinReadsSpec)

/-- ITS FALSE NEIGHBOUR: 'it returns false'. Refute it at one input. -/
def thinReadsWrong : ChangeSpec := { name := "thinReads", fn := fun _ => fun
  | [d1, d2] => { results := [.lit (.bool false)], args := [d1, d2] }
  | _ => none }
def ThinReadsWrongFalsely : Prop := thinReadsRow.holds Tryz.pinned (OpenSpec.ofChange thinReadsWrong)

/-- 'carcanetlaw14.ThinMinor': WHATEVER THE INPUT: true; the input reads as it did. -/
def thinMinorSpec : ChangeSpec := { name := "thinMinor", fn := fun _ => fun
  | [d] => { results := [.lit (.bool true)], args := [d] }
  | _ => none }
def thinMinorRow : OpenClaim := { program := "ytdbpjkehidechaagreat", sum := "f491d3e6bede16490a67fcd5296eee3b792678dd78e00702b0717e91c51e62da", func := "carcanet/carcanetlaw14.ThinMinor", spec := "thinMinor", inPlace := ["slices.overlaps[int]"], unfollowed := true, recurses := true, plainKeys := false, apart := false }
def ThinMinorSaid : Prop := thinMinorRow.holds Tryz.pinned (OpenSpec.ofChange thinMinorSpec)

/-- ITS FALSE NEIGHBOUR: 'it returns false'. Refute it at one input. -/
def thinMinorWrong : ChangeSpec := { name := "thinMinor", fn := fun _ => fun
  | [d] => { results := [.lit (.bool false)], args := [d] }
  | _ => none }
def ThinMinorWrongFalsely : Prop := thinMinorRow.holds Tryz.pinned (OpenSpec.ofChange thinMinorWrong)

/- THE SECOND FORM. 'bulk': how many values and letters a reading holds, each counted each time it is reached (what is shared counts as often as it is met; a slice's spare places count too). A statement '..UptoSaid' is the law's where the arguments, and the package variables that the reading takes, are together of bulk at most 1048576: NARROWER than '..Said'. Prove '..Said' where nothing that the law and all that it calls make is longer than what came in: it says more and counts as full. Else prove '..UptoSaid'. A law counts once. -/
mutual
def uptoBulk {H : Type} : DataW H → Nat
  | .lit (.string bytes) => bytes.length + 1
  | .lit _ => 1
  | .nil => 1
  | .ptr d => uptoBulk d + 1
  | .slice elems spare => uptoBulkAll elems + uptoBulkAll spare + 1
  | .agg parts => uptoBulkAll parts + 1
  | .iface _ d => uptoBulk d + 1
  | .map entries => uptoBulkEntries entries + 1
  | .held _ => 1
def uptoBulkAll {H : Type} : List (DataW H) → Nat
  | [] => 0
  | d :: r => uptoBulk d + uptoBulkAll r
def uptoBulkEntries {H : Type} : List (Lit × DataW H) → Nat
  | [] => 0
  | x :: r => uptoBulkEntry x + uptoBulkEntries r
def uptoBulkEntry {H : Type} : Lit × DataW H → Nat
  | (.string bytes, d) => bytes.length + uptoBulk d + 1
  | (_, d) => uptoBulk d + 1
 end
def uptoSmall : (H : Type) → List (DataW H) → Bool := fun _ ds => decide (uptoBulkAll ds ≤ 1048576)
def OpenSpec.upto (s : _root_.Go.ChangeSpec) : _root_.Go.OpenSpec := { _root_.Go.OpenSpec.ofChange s with cond := some uptoSmall }

/-- 'carcanetlaw09.TopoRead', WHERE WHAT IT READS IS OF BULK AT MOST 1048576: true; the input reads as it did. -/
def topoReadUptoRow : OpenClaim := { program := "ytdbpjkehidechaagreat", sum := "f491d3e6bede16490a67fcd5296eee3b792678dd78e00702b0717e91c51e62da", func := "carcanet/carcanetlaw09.TopoRead", spec := "topoRead", unfollowed := true, recurses := true, plainKeys := false, apart := false, narrowed := true }
def TopoReadUptoSaid : Prop := topoReadUptoRow.holds Tryz.pinned (OpenSpec.upto topoReadSpec)

/-- 'carcanetlaw14.ThinTells', WHERE WHAT IT READS IS OF BULK AT MOST 1048576: true; the input reads as it did. -/
def thinTellsUptoRow : OpenClaim := { program := "ytdbpjkehidechaagreat", sum := "f491d3e6bede16490a67fcd5296eee3b792678dd78e00702b0717e91c51e62da", func := "carcanet/carcanetlaw14.ThinTells", spec := "thinTells", inPlace := ["slices.overlaps[int]"], unfollowed := true, recurses := true, plainKeys := false, apart := false, narrowed := true }
def ThinTellsUptoSaid : Prop := thinTellsUptoRow.holds Tryz.pinned (OpenSpec.upto thinTellsSpec)

/-- 'carcanetlaw14.ThinReads', WHERE WHAT IT READS IS OF BULK AT MOST 1048576: true; the input reads as it did. -/
def thinReadsUptoRow : OpenClaim := { program := "ytdbpjkehidechaagreat", sum := "f491d3e6bede16490a67fcd5296eee3b792678dd78e00702b0717e91c51e62da", func := "carcanet/carcanetlaw14.ThinReads", spec := "thinReads", inPlace := ["slices.overlaps[int]"], unfollowed := true, recurses := true, plainKeys := false, apart := false, narrowed := true }
def ThinReadsUptoSaid : Prop := thinReadsUptoRow.holds Tryz.pinned (OpenSpec.upto thinReadsSpec)

/-- 'carcanetlaw14.ThinMinor', WHERE WHAT IT READS IS OF BULK AT MOST 1048576: true; the input reads as it did. -/
def thinMinorUptoRow : OpenClaim := { program := "ytdbpjkehidechaagreat", sum := "f491d3e6bede16490a67fcd5296eee3b792678dd78e00702b0717e91c51e62da", func := "carcanet/carcanetlaw14.ThinMinor", spec := "thinMinor", inPlace := ["slices.overlaps[int]"], unfollowed := true, recurses := true, plainKeys := false, apart := false, narrowed := true }
def ThinMinorUptoSaid : Prop := thinMinorUptoRow.holds Tryz.pinned (OpenSpec.upto thinMinorSpec)

end Rows
end Go.Proofs.YtdbpjkehidechaaGreat
