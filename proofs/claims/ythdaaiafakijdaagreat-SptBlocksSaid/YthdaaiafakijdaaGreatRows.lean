/-
  No cell of these rows narrows 'for every input' (looked for: loops, veiled, ifaces, maps, wideKeys, modest, calm, conditions, laid).
  DERIVED. THE GIVEN ROWS OF THIS SEAT. 7 by the template 'for every input the law returns true; each argument reads behind the call as it read before'; 0 by the template 'total and deterministic' (their statements: YthdaaiafakijdaaGreatTotals.lean).
  GIVEN WITH THE SEED: the statements are not yours to turn. If you find one false, say at which input.
  Laid BY PROGRAM, IN A SANDBOX (cutbox-rows.mjs): the forced cells as the released guide's own fill.sh prints them over the translation 12bae1b4fb3219f2… (all of the seat's roots in one cut). By AI agents, Wed Nov 11 2026. No macro, syntax, notation, axiom, sorry.
-/
import Derived.Test.YthdaaiafakijdaaGreatChecked
import GoSem.Claim
import GoSem.ClaimJoined
import GoSem.ClaimMapViews
import Derived.JoinedTies
import Derived.KernelRfl
namespace Go.Proofs.YthdaaiafakijdaaGreat
/- THE CELL 'sum', in the pinned program and in every row, IS THE sha256 OF THE DUMP (.gsa) THAT YthdaaiafakijdaaGreatProg.lean LOADS. Nothing in Lean hashes anything: it is a label: what it is worth is what the hold of that sum in a sandbox is worth. -/
noncomputable def Tryz.pinned : Pinned := { name := "ythdaaiafakijdaagreat", sum := "12bae1b4fb3219f260bf198930f621e16d002c109e259a557127c75a1794c1e9", checked := Tryz.checked }
namespace Rows
def none {H : Type} : Left H := { results := [], args := [] }

/-- 'carcanetlaw15.OuterCheck': WHATEVER THE INPUT: true; the input reads as it did. -/
def outerCheckSpec : ChangeSpec := { name := "outerCheck", fn := fun _ => fun
  | [d1, d2, d3] => { results := [.lit (.bool true)], args := [d1, d2, d3] }
  | _ => none }
def outerCheckRow : OpenClaim := { program := "ythdaaiafakijdaagreat", sum := "12bae1b4fb3219f260bf198930f621e16d002c109e259a557127c75a1794c1e9", func := "carcanet/carcanetlaw15.OuterCheck", spec := "outerCheck", unfollowed := true, recurses := true, plainKeys := false, apart := false }
def OuterCheckSaid : Prop := outerCheckRow.holds Tryz.pinned (OpenSpec.ofChange outerCheckSpec)

/-- ITS FALSE NEIGHBOUR: 'it returns false'. Refute it at one input. -/
def outerCheckWrong : ChangeSpec := { name := "outerCheck", fn := fun _ => fun
  | [d1, d2, d3] => { results := [.lit (.bool false)], args := [d1, d2, d3] }
  | _ => none }
def OuterCheckWrongFalsely : Prop := outerCheckRow.holds Tryz.pinned (OpenSpec.ofChange outerCheckWrong)

/-- 'carcanetlaw15.OuterOne': WHATEVER THE INPUT: true; the input reads as it did. -/
def outerOneSpec : ChangeSpec := { name := "outerOne", fn := fun _ => fun
  | [d1, d2, d3] => { results := [.lit (.bool true)], args := [d1, d2, d3] }
  | _ => none }
def outerOneRow : OpenClaim := { program := "ythdaaiafakijdaagreat", sum := "12bae1b4fb3219f260bf198930f621e16d002c109e259a557127c75a1794c1e9", func := "carcanet/carcanetlaw15.OuterOne", spec := "outerOne", unfollowed := true, recurses := true, plainKeys := false, apart := false }
def OuterOneSaid : Prop := outerOneRow.holds Tryz.pinned (OpenSpec.ofChange outerOneSpec)

/-- ITS FALSE NEIGHBOUR: 'it returns false'. Refute it at one input. -/
def outerOneWrong : ChangeSpec := { name := "outerOne", fn := fun _ => fun
  | [d1, d2, d3] => { results := [.lit (.bool false)], args := [d1, d2, d3] }
  | _ => none }
def OuterOneWrongFalsely : Prop := outerOneRow.holds Tryz.pinned (OpenSpec.ofChange outerOneWrong)

/-- 'carcanetlaw15.OuterLess': WHATEVER THE INPUT: true; the input reads as it did. -/
def outerLessSpec : ChangeSpec := { name := "outerLess", fn := fun _ => fun
  | [d1, d2] => { results := [.lit (.bool true)], args := [d1, d2] }
  | _ => none }
def outerLessRow : OpenClaim := { program := "ythdaaiafakijdaagreat", sum := "12bae1b4fb3219f260bf198930f621e16d002c109e259a557127c75a1794c1e9", func := "carcanet/carcanetlaw15.OuterLess", spec := "outerLess", unfollowed := true, recurses := true, plainKeys := false, apart := false }
def OuterLessSaid : Prop := outerLessRow.holds Tryz.pinned (OpenSpec.ofChange outerLessSpec)

/-- ITS FALSE NEIGHBOUR: 'it returns false'. Refute it at one input. -/
def outerLessWrong : ChangeSpec := { name := "outerLess", fn := fun _ => fun
  | [d1, d2] => { results := [.lit (.bool false)], args := [d1, d2] }
  | _ => none }
def OuterLessWrongFalsely : Prop := outerLessRow.holds Tryz.pinned (OpenSpec.ofChange outerLessWrong)

/-- 'carcanetlaw15.OuterSub': WHATEVER THE INPUT: true; the input reads as it did. -/
def outerSubSpec : ChangeSpec := { name := "outerSub", fn := fun _ => fun
  | [d1, d2] => { results := [.lit (.bool true)], args := [d1, d2] }
  | _ => none }
def outerSubRow : OpenClaim := { program := "ythdaaiafakijdaagreat", sum := "12bae1b4fb3219f260bf198930f621e16d002c109e259a557127c75a1794c1e9", func := "carcanet/carcanetlaw15.OuterSub", spec := "outerSub", unfollowed := true, recurses := true, plainKeys := false, apart := false }
def OuterSubSaid : Prop := outerSubRow.holds Tryz.pinned (OpenSpec.ofChange outerSubSpec)

/-- ITS FALSE NEIGHBOUR: 'it returns false'. Refute it at one input. -/
def outerSubWrong : ChangeSpec := { name := "outerSub", fn := fun _ => fun
  | [d1, d2] => { results := [.lit (.bool false)], args := [d1, d2] }
  | _ => none }
def OuterSubWrongFalsely : Prop := outerSubRow.holds Tryz.pinned (OpenSpec.ofChange outerSubWrong)

/-- 'carcanetlaw13.SptBlocks': WHATEVER THE INPUT: true; the input reads as it did. -/
def sptBlocksSpec : ChangeSpec := { name := "sptBlocks", fn := fun _ => fun
  | [d] => { results := [.lit (.bool true)], args := [d] }
  | _ => none }
def sptBlocksRow : OpenClaim := { program := "ythdaaiafakijdaagreat", sum := "12bae1b4fb3219f260bf198930f621e16d002c109e259a557127c75a1794c1e9", func := "carcanet/carcanetlaw13.SptBlocks", spec := "sptBlocks", inPlace := ["slices.overlaps[int]"], unfollowed := true, recurses := true, plainKeys := false, apart := false }
def SptBlocksSaid : Prop := sptBlocksRow.holds Tryz.pinned (OpenSpec.ofChange sptBlocksSpec)

/-- ITS FALSE NEIGHBOUR: 'it returns false'. Refute it at one input. -/
def sptBlocksWrong : ChangeSpec := { name := "sptBlocks", fn := fun _ => fun
  | [d] => { results := [.lit (.bool false)], args := [d] }
  | _ => none }
def SptBlocksWrongFalsely : Prop := sptBlocksRow.holds Tryz.pinned (OpenSpec.ofChange sptBlocksWrong)

/-- 'carcanetlaw13.SptNarrow': WHATEVER THE INPUT: true; the input reads as it did. -/
def sptNarrowSpec : ChangeSpec := { name := "sptNarrow", fn := fun _ => fun
  | [d1, d2, d3] => { results := [.lit (.bool true)], args := [d1, d2, d3] }
  | _ => none }
def sptNarrowRow : OpenClaim := { program := "ythdaaiafakijdaagreat", sum := "12bae1b4fb3219f260bf198930f621e16d002c109e259a557127c75a1794c1e9", func := "carcanet/carcanetlaw13.SptNarrow", spec := "sptNarrow", inPlace := ["slices.overlaps[int]"], unfollowed := true, recurses := true, plainKeys := false, apart := false }
def SptNarrowSaid : Prop := sptNarrowRow.holds Tryz.pinned (OpenSpec.ofChange sptNarrowSpec)

/-- ITS FALSE NEIGHBOUR: 'it returns false'. Refute it at one input. -/
def sptNarrowWrong : ChangeSpec := { name := "sptNarrow", fn := fun _ => fun
  | [d1, d2, d3] => { results := [.lit (.bool false)], args := [d1, d2, d3] }
  | _ => none }
def SptNarrowWrongFalsely : Prop := sptNarrowRow.holds Tryz.pinned (OpenSpec.ofChange sptNarrowWrong)

/-- 'carcanetlaw15.OuterNarrow': WHATEVER THE INPUT: true; the input reads as it did. -/
def outerNarrowSpec : ChangeSpec := { name := "outerNarrow", fn := fun _ => fun
  | [d] => { results := [.lit (.bool true)], args := [d] }
  | _ => none }
def outerNarrowRow : OpenClaim := { program := "ythdaaiafakijdaagreat", sum := "12bae1b4fb3219f260bf198930f621e16d002c109e259a557127c75a1794c1e9", func := "carcanet/carcanetlaw15.OuterNarrow", spec := "outerNarrow", inPlace := ["slices.overlaps[int]"], unfollowed := true, recurses := true, plainKeys := false, apart := false }
def OuterNarrowSaid : Prop := outerNarrowRow.holds Tryz.pinned (OpenSpec.ofChange outerNarrowSpec)

/-- ITS FALSE NEIGHBOUR: 'it returns false'. Refute it at one input. -/
def outerNarrowWrong : ChangeSpec := { name := "outerNarrow", fn := fun _ => fun
  | [d] => { results := [.lit (.bool false)], args := [d] }
  | _ => none }
def OuterNarrowWrongFalsely : Prop := outerNarrowRow.holds Tryz.pinned (OpenSpec.ofChange outerNarrowWrong)

/- THE SECOND FORM. 'bulk': how many values and letters a reading holds, each counted each time it is reached (what is shared counts as often as it is met; a slice's spare places count too). A statement '..UptoSaid' is the law's where the arguments, and the package variables that the reading takes, are together of bulk at most 1048576: NARROWER than '..Said'. Prove '..Said' where nothing that the law and all that it calls make is longer than what came in: it says more and counts as full. Else prove '..UptoSaid'. A law counts once. -/
mutual
def uptoBulk {H : Type} : DataW H → Nat
  | .lit (.string bytes) => bytes.length + 1
  | .lit _ => 1
  | .nil => 1
  | .ptr d => uptoBulk d + 1
  | .slice elems spare => uptoBulkAll elems + uptoBulkAll spare + 1
  | .agg parts => uptoBulkAll parts + 1
  | .iface _ d => uptoBulk d + 1
  | .map entries => uptoBulkEntries entries + 1
  | .held _ => 1
def uptoBulkAll {H : Type} : List (DataW H) → Nat
  | [] => 0
  | d :: r => uptoBulk d + uptoBulkAll r
def uptoBulkEntries {H : Type} : List (Lit × DataW H) → Nat
  | [] => 0
  | x :: r => uptoBulkEntry x + uptoBulkEntries r
def uptoBulkEntry {H : Type} : Lit × DataW H → Nat
  | (.string bytes, d) => bytes.length + uptoBulk d + 1
  | (_, d) => uptoBulk d + 1
 end
def uptoSmall : (H : Type) → List (DataW H) → Bool := fun _ ds => decide (uptoBulkAll ds ≤ 1048576)
def OpenSpec.upto (s : _root_.Go.ChangeSpec) : _root_.Go.OpenSpec := { _root_.Go.OpenSpec.ofChange s with cond := some uptoSmall }

/-- 'carcanetlaw15.OuterCheck', WHERE WHAT IT READS IS OF BULK AT MOST 1048576: true; the input reads as it did. -/
def outerCheckUptoRow : OpenClaim := { program := "ythdaaiafakijdaagreat", sum := "12bae1b4fb3219f260bf198930f621e16d002c109e259a557127c75a1794c1e9", func := "carcanet/carcanetlaw15.OuterCheck", spec := "outerCheck", unfollowed := true, recurses := true, plainKeys := false, apart := false, narrowed := true }
def OuterCheckUptoSaid : Prop := outerCheckUptoRow.holds Tryz.pinned (OpenSpec.upto outerCheckSpec)

/-- 'carcanetlaw15.OuterOne', WHERE WHAT IT READS IS OF BULK AT MOST 1048576: true; the input reads as it did. -/
def outerOneUptoRow : OpenClaim := { program := "ythdaaiafakijdaagreat", sum := "12bae1b4fb3219f260bf198930f621e16d002c109e259a557127c75a1794c1e9", func := "carcanet/carcanetlaw15.OuterOne", spec := "outerOne", unfollowed := true, recurses := true, plainKeys := false, apart := false, narrowed := true }
def OuterOneUptoSaid : Prop := outerOneUptoRow.holds Tryz.pinned (OpenSpec.upto outerOneSpec)

/-- 'carcanetlaw15.OuterLess', WHERE WHAT IT READS IS OF BULK AT MOST 1048576: true; the input reads as it did. -/
def outerLessUptoRow : OpenClaim := { program := "ythdaaiafakijdaagreat", sum := "12bae1b4fb3219f260bf198930f621e16d002c109e259a557127c75a1794c1e9", func := "carcanet/carcanetlaw15.OuterLess", spec := "outerLess", unfollowed := true, recurses := true, plainKeys := false, apart := false, narrowed := true }
def OuterLessUptoSaid : Prop := outerLessUptoRow.holds Tryz.pinned (OpenSpec.upto outerLessSpec)

/-- 'carcanetlaw15.OuterSub', WHERE WHAT IT READS IS OF BULK AT MOST 1048576: true; the input reads as it did. -/
def outerSubUptoRow : OpenClaim := { program := "ythdaaiafakijdaagreat", sum := "12bae1b4fb3219f260bf198930f621e16d002c109e259a557127c75a1794c1e9", func := "carcanet/carcanetlaw15.OuterSub", spec := "outerSub", unfollowed := true, recurses := true, plainKeys := false, apart := false, narrowed := true }
def OuterSubUptoSaid : Prop := outerSubUptoRow.holds Tryz.pinned (OpenSpec.upto outerSubSpec)

/-- 'carcanetlaw13.SptBlocks', WHERE WHAT IT READS IS OF BULK AT MOST 1048576: true; the input reads as it did. -/
def sptBlocksUptoRow : OpenClaim := { program := "ythdaaiafakijdaagreat", sum := "12bae1b4fb3219f260bf198930f621e16d002c109e259a557127c75a1794c1e9", func := "carcanet/carcanetlaw13.SptBlocks", spec := "sptBlocks", inPlace := ["slices.overlaps[int]"], unfollowed := true, recurses := true, plainKeys := false, apart := false, narrowed := true }
def SptBlocksUptoSaid : Prop := sptBlocksUptoRow.holds Tryz.pinned (OpenSpec.upto sptBlocksSpec)

/-- 'carcanetlaw13.SptNarrow', WHERE WHAT IT READS IS OF BULK AT MOST 1048576: true; the input reads as it did. -/
def sptNarrowUptoRow : OpenClaim := { program := "ythdaaiafakijdaagreat", sum := "12bae1b4fb3219f260bf198930f621e16d002c109e259a557127c75a1794c1e9", func := "carcanet/carcanetlaw13.SptNarrow", spec := "sptNarrow", inPlace := ["slices.overlaps[int]"], unfollowed := true, recurses := true, plainKeys := false, apart := false, narrowed := true }
def SptNarrowUptoSaid : Prop := sptNarrowUptoRow.holds Tryz.pinned (OpenSpec.upto sptNarrowSpec)

/-- 'carcanetlaw15.OuterNarrow', WHERE WHAT IT READS IS OF BULK AT MOST 1048576: true; the input reads as it did. -/
def outerNarrowUptoRow : OpenClaim := { program := "ythdaaiafakijdaagreat", sum := "12bae1b4fb3219f260bf198930f621e16d002c109e259a557127c75a1794c1e9", func := "carcanet/carcanetlaw15.OuterNarrow", spec := "outerNarrow", inPlace := ["slices.overlaps[int]"], unfollowed := true, recurses := true, plainKeys := false, apart := false, narrowed := true }
def OuterNarrowUptoSaid : Prop := outerNarrowUptoRow.holds Tryz.pinned (OpenSpec.upto outerNarrowSpec)

end Rows
end Go.Proofs.YthdaaiafakijdaaGreat
