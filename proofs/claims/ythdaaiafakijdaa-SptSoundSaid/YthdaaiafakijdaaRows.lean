/-
  No cell of these rows narrows 'for every input' (looked for: loops, veiled, ifaces, maps, wideKeys, modest, calm, conditions, laid).
  DERIVED. THE GIVEN ROWS OF THIS SEAT. 5 by the template 'for every input the law returns true; each argument reads behind the call as it read before'; 0 by the template 'total and deterministic' (their statements: YthdaaiafakijdaaTotals.lean).
  GIVEN WITH THE SEED: the statements are not yours to turn. If you find one false, say at which input.
  Laid BY PROGRAM, IN A SANDBOX (cutbox-rows.mjs): the forced cells as the released guide's own fill.sh prints them over the translation a8caf6472a045629… (all of the seat's roots in one cut). By AI agents, Wed Nov 11 2026. No macro, syntax, notation, axiom, sorry.
-/
import Derived.Test.YthdaaiafakijdaaChecked
import GoSem.Claim
import GoSem.ClaimJoined
import GoSem.ClaimMapViews
import Derived.JoinedTies
import Derived.KernelRfl
namespace Go.Proofs.Ythdaaiafakijdaa
/- THE CELL 'sum', in the pinned program and in every row, IS THE sha256 OF THE DUMP (.gsa) THAT YthdaaiafakijdaaProg.lean LOADS. Nothing in Lean hashes anything: it is a label: what it is worth is what the hold of that sum in a sandbox is worth. -/
noncomputable def Try.pinned : Pinned := { name := "ythdaaiafakijdaa", sum := "a8caf6472a0456296f2747d9a200bddf88d0932b048477893aba08c17876c84f", checked := Try.checked }
namespace Rows
def none {H : Type} : Left H := { results := [], args := [] }

/-- 'carcanetlaw13.SptTells': WHATEVER THE INPUT: true; the input reads as it did. -/
def sptTellsSpec : ChangeSpec := { name := "sptTells", fn := fun _ => fun
  | [d1, d2] => { results := [.lit (.bool true)], args := [d1, d2] }
  | _ => none }
def sptTellsRow : OpenClaim := { program := "ythdaaiafakijdaa", sum := "a8caf6472a0456296f2747d9a200bddf88d0932b048477893aba08c17876c84f", func := "carcanet/carcanetlaw13.SptTells", spec := "sptTells", unfollowed := true, recurses := true, plainKeys := false, apart := false }
def SptTellsSaid : Prop := sptTellsRow.holds Try.pinned (OpenSpec.ofChange sptTellsSpec)

/-- ITS FALSE NEIGHBOUR: 'it returns false'. Refute it at one input. -/
def sptTellsWrong : ChangeSpec := { name := "sptTells", fn := fun _ => fun
  | [d1, d2] => { results := [.lit (.bool false)], args := [d1, d2] }
  | _ => none }
def SptTellsWrongFalsely : Prop := sptTellsRow.holds Try.pinned (OpenSpec.ofChange sptTellsWrong)

/-- 'carcanetlaw13.SptCheck': WHATEVER THE INPUT: true; the input reads as it did. -/
def sptCheckSpec : ChangeSpec := { name := "sptCheck", fn := fun _ => fun
  | [d1, d2, d3] => { results := [.lit (.bool true)], args := [d1, d2, d3] }
  | _ => none }
def sptCheckRow : OpenClaim := { program := "ythdaaiafakijdaa", sum := "a8caf6472a0456296f2747d9a200bddf88d0932b048477893aba08c17876c84f", func := "carcanet/carcanetlaw13.SptCheck", spec := "sptCheck", unfollowed := true, recurses := true, plainKeys := false, apart := false }
def SptCheckSaid : Prop := sptCheckRow.holds Try.pinned (OpenSpec.ofChange sptCheckSpec)

/-- ITS FALSE NEIGHBOUR: 'it returns false'. Refute it at one input. -/
def sptCheckWrong : ChangeSpec := { name := "sptCheck", fn := fun _ => fun
  | [d1, d2, d3] => { results := [.lit (.bool false)], args := [d1, d2, d3] }
  | _ => none }
def SptCheckWrongFalsely : Prop := sptCheckRow.holds Try.pinned (OpenSpec.ofChange sptCheckWrong)

/-- 'carcanetlaw13.SptTurned': WHATEVER THE INPUT: true; the input reads as it did. -/
def sptTurnedSpec : ChangeSpec := { name := "sptTurned", fn := fun _ => fun
  | [d] => { results := [.lit (.bool true)], args := [d] }
  | _ => none }
def sptTurnedRow : OpenClaim := { program := "ythdaaiafakijdaa", sum := "a8caf6472a0456296f2747d9a200bddf88d0932b048477893aba08c17876c84f", func := "carcanet/carcanetlaw13.SptTurned", spec := "sptTurned", unfollowed := true, recurses := true, plainKeys := false, apart := false }
def SptTurnedSaid : Prop := sptTurnedRow.holds Try.pinned (OpenSpec.ofChange sptTurnedSpec)

/-- ITS FALSE NEIGHBOUR: 'it returns false'. Refute it at one input. -/
def sptTurnedWrong : ChangeSpec := { name := "sptTurned", fn := fun _ => fun
  | [d] => { results := [.lit (.bool false)], args := [d] }
  | _ => none }
def SptTurnedWrongFalsely : Prop := sptTurnedRow.holds Try.pinned (OpenSpec.ofChange sptTurnedWrong)

/-- 'carcanetlaw13.SptSound': WHATEVER THE INPUT: true; the input reads as it did. -/
def sptSoundSpec : ChangeSpec := { name := "sptSound", fn := fun _ => fun
  | [d1, d2, d3] => { results := [.lit (.bool true)], args := [d1, d2, d3] }
  | _ => none }
def sptSoundRow : OpenClaim := { program := "ythdaaiafakijdaa", sum := "a8caf6472a0456296f2747d9a200bddf88d0932b048477893aba08c17876c84f", func := "carcanet/carcanetlaw13.SptSound", spec := "sptSound", unfollowed := true, recurses := true, plainKeys := false, apart := false }
def SptSoundSaid : Prop := sptSoundRow.holds Try.pinned (OpenSpec.ofChange sptSoundSpec)

/-- ITS FALSE NEIGHBOUR: 'it returns false'. Refute it at one input. -/
def sptSoundWrong : ChangeSpec := { name := "sptSound", fn := fun _ => fun
  | [d1, d2, d3] => { results := [.lit (.bool false)], args := [d1, d2, d3] }
  | _ => none }
def SptSoundWrongFalsely : Prop := sptSoundRow.holds Try.pinned (OpenSpec.ofChange sptSoundWrong)

/-- 'carcanetlaw15.OuterHolds': WHATEVER THE INPUT: true; the input reads as it did. -/
def outerHoldsSpec : ChangeSpec := { name := "outerHolds", fn := fun _ => fun
  | [d1, d2] => { results := [.lit (.bool true)], args := [d1, d2] }
  | _ => none }
def outerHoldsRow : OpenClaim := { program := "ythdaaiafakijdaa", sum := "a8caf6472a0456296f2747d9a200bddf88d0932b048477893aba08c17876c84f", func := "carcanet/carcanetlaw15.OuterHolds", spec := "outerHolds", unfollowed := true, recurses := true, plainKeys := false, apart := false }
def OuterHoldsSaid : Prop := outerHoldsRow.holds Try.pinned (OpenSpec.ofChange outerHoldsSpec)

/-- ITS FALSE NEIGHBOUR: 'it returns false'. Refute it at one input. -/
def outerHoldsWrong : ChangeSpec := { name := "outerHolds", fn := fun _ => fun
  | [d1, d2] => { results := [.lit (.bool false)], args := [d1, d2] }
  | _ => none }
def OuterHoldsWrongFalsely : Prop := outerHoldsRow.holds Try.pinned (OpenSpec.ofChange outerHoldsWrong)

/- THE SECOND FORM. 'bulk': how many values and letters a reading holds, each counted each time it is reached (what is shared counts as often as it is met; a slice's spare places count too). A statement '..UptoSaid' is the law's where the arguments, and the package variables that the reading takes, are together of bulk at most 1048576: NARROWER than '..Said'. Prove '..Said' where nothing that the law and all that it calls make is longer than what came in: it says more and counts as full. Else prove '..UptoSaid'. A law counts once. -/
mutual
def uptoBulk {H : Type} : DataW H → Nat
  | .lit (.string bytes) => bytes.length + 1
  | .lit _ => 1
  | .nil => 1
  | .ptr d => uptoBulk d + 1
  | .slice elems spare => uptoBulkAll elems + uptoBulkAll spare + 1
  | .agg parts => uptoBulkAll parts + 1
  | .iface _ d => uptoBulk d + 1
  | .map entries => uptoBulkEntries entries + 1
  | .held _ => 1
def uptoBulkAll {H : Type} : List (DataW H) → Nat
  | [] => 0
  | d :: r => uptoBulk d + uptoBulkAll r
def uptoBulkEntries {H : Type} : List (Lit × DataW H) → Nat
  | [] => 0
  | x :: r => uptoBulkEntry x + uptoBulkEntries r
def uptoBulkEntry {H : Type} : Lit × DataW H → Nat
  | (.string bytes, d) => bytes.length + uptoBulk d + 1
  | (_, d) => uptoBulk d + 1
 end
def uptoSmall : (H : Type) → List (DataW H) → Bool := fun _ ds => decide (uptoBulkAll ds ≤ 1048576)
def OpenSpec.upto (s : _root_.Go.ChangeSpec) : _root_.Go.OpenSpec := { _root_.Go.OpenSpec.ofChange s with cond := some uptoSmall }

/-- 'carcanetlaw13.SptTells', WHERE WHAT IT READS IS OF BULK AT MOST 1048576: true; the input reads as it did. -/
def sptTellsUptoRow : OpenClaim := { program := "ythdaaiafakijdaa", sum := "a8caf6472a0456296f2747d9a200bddf88d0932b048477893aba08c17876c84f", func := "carcanet/carcanetlaw13.SptTells", spec := "sptTells", unfollowed := true, recurses := true, plainKeys := false, apart := false, narrowed := true }
def SptTellsUptoSaid : Prop := sptTellsUptoRow.holds Try.pinned (OpenSpec.upto sptTellsSpec)

/-- 'carcanetlaw13.SptCheck', WHERE WHAT IT READS IS OF BULK AT MOST 1048576: true; the input reads as it did. -/
def sptCheckUptoRow : OpenClaim := { program := "ythdaaiafakijdaa", sum := "a8caf6472a0456296f2747d9a200bddf88d0932b048477893aba08c17876c84f", func := "carcanet/carcanetlaw13.SptCheck", spec := "sptCheck", unfollowed := true, recurses := true, plainKeys := false, apart := false, narrowed := true }
def SptCheckUptoSaid : Prop := sptCheckUptoRow.holds Try.pinned (OpenSpec.upto sptCheckSpec)

/-- 'carcanetlaw13.SptTurned', WHERE WHAT IT READS IS OF BULK AT MOST 1048576: true; the input reads as it did. -/
def sptTurnedUptoRow : OpenClaim := { program := "ythdaaiafakijdaa", sum := "a8caf6472a0456296f2747d9a200bddf88d0932b048477893aba08c17876c84f", func := "carcanet/carcanetlaw13.SptTurned", spec := "sptTurned", unfollowed := true, recurses := true, plainKeys := false, apart := false, narrowed := true }
def SptTurnedUptoSaid : Prop := sptTurnedUptoRow.holds Try.pinned (OpenSpec.upto sptTurnedSpec)

/-- 'carcanetlaw13.SptSound', WHERE WHAT IT READS IS OF BULK AT MOST 1048576: true; the input reads as it did. -/
def sptSoundUptoRow : OpenClaim := { program := "ythdaaiafakijdaa", sum := "a8caf6472a0456296f2747d9a200bddf88d0932b048477893aba08c17876c84f", func := "carcanet/carcanetlaw13.SptSound", spec := "sptSound", unfollowed := true, recurses := true, plainKeys := false, apart := false, narrowed := true }
def SptSoundUptoSaid : Prop := sptSoundUptoRow.holds Try.pinned (OpenSpec.upto sptSoundSpec)

/-- 'carcanetlaw15.OuterHolds', WHERE WHAT IT READS IS OF BULK AT MOST 1048576: true; the input reads as it did. -/
def outerHoldsUptoRow : OpenClaim := { program := "ythdaaiafakijdaa", sum := "a8caf6472a0456296f2747d9a200bddf88d0932b048477893aba08c17876c84f", func := "carcanet/carcanetlaw15.OuterHolds", spec := "outerHolds", unfollowed := true, recurses := true, plainKeys := false, apart := false, narrowed := true }
def OuterHoldsUptoSaid : Prop := outerHoldsUptoRow.holds Try.pinned (OpenSpec.upto outerHoldsSpec)

end Rows
end Go.Proofs.Ythdaaiafakijdaa
