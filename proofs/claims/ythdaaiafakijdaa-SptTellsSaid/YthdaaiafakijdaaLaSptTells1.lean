/- The statement SptTells of the given program is proved: whatever is handed in, the law answers true, changes nothing that was there, and comes back. No condition. -/
import Derived.Test.YthdaaiafakijdaaFn2
set_option linter.unusedVariables false
set_option linter.unusedSimpArgs false
set_option linter.unusedSectionVars false
namespace Go.Sh
open Go.Proofs
set_option maxRecDepth 100000 in
theorem sptTellsLaw : LawV T [24, 25] STellsF := by
 intro vs h
 obtain ⟨x0, x1, rfl, hx0, hx1⟩ := All2.two h
 obtain ⟨n0, E0, rfl, _, hE0⟩ := net_of hx0
 obtain ⟨l1, rfl, hl1, _⟩ := row_of hx1
 exact ⟨_, conF_at (fun _ _ _ _ _ => rfl) (a := ((n0, E0), l1)) (by first | trivial | assumption | exact hE0 | exact hl1)⟩
set_option maxRecDepth 100000 in
theorem sptTellsLifted (os : Os) (started : os.Started) (H : Type) (enc : TypeId × Value -> H) :
  ReturnsInHanded {} Try.checked os 3 .any (Ythdaaiafakijdaa.Rows.sptTellsSpec.pre6 enc Try.prog Try.f3 Ythdaaiafakijdaa.Rows.sptTellsRow.domain false) (Ythdaaiafakijdaa.Rows.sptTellsSpec.post enc Try.prog Try.f3 false true false false) :=
 law_row Try.func3 (by kernel_rfl) rfl (ts := [24, 25]) (by kernel_rfl) (by kernel_rfl) (by kernel_rfl) (by kernel_rfl)
  (fun H ds h => by
   match ds, h with
   | [_, _], _ => exact ⟨rfl, rfl, rfl⟩)
  STells_ok sptTellsLaw os started H enc {}
  (ChangeSpec.witness6 (enc := enc) (C := Try.checked) false ⟨#[], #[.agg #[.int .i64 0, .slice none 0 0], .slice none 0 0], []⟩ 8 (by kernel_rfl) (by kernel_rfl) (by kernel_rfl) (by kernel_rfl))
theorem sptTellsOver : Ythdaaiafakijdaa.Rows.sptTellsRow.holds Ythdaaiafakijdaa.Try.pinned (OpenSpec.ofChange Ythdaaiafakijdaa.Rows.sptTellsSpec) :=
 OpenClaim.holds_of_wide 3 Try.f3 rfl rfl rfl rfl rfl rfl rfl ⟨rfl, rfl, rfl, rfl, rfl⟩ rfl rfl rfl rfl rfl (by kernel_rfl) Try.func3 (by kernel_rfl)
  (of_decide_eq_true (by kernel_rfl)) (by unfold Func.isWrapper; first | (rw [if_pos (by decide +kernel)]; kernel_rfl) | (rw [if_neg (by decide +kernel)]; exact ⟨rfl, rfl⟩))
  (fun os started H enc _ => sptTellsLifted os started H enc)
end Go.Sh
namespace Go.Proofs.Ythdaaiafakijdaa
theorem sptTells_holds : Rows.SptTellsSaid := Go.Sh.sptTellsOver
#print axioms sptTells_holds
end Go.Proofs.Ythdaaiafakijdaa
