/- The statement BagsWrong of the given program is proved: whatever is handed in, the law answers true, changes nothing that was there, and comes back. No condition. -/
import Derived.Test.YtcihmgopaadpfaaFn2
set_option linter.unusedVariables false
namespace Go.Sh
open Go.Proofs
/-! ### BagsWrong -/
set_option maxRecDepth 100000 in
theorem bagsWrongLaw : LawV T [26, 35] BWrongF := by
  intro vs h
  obtain ⟨x0, x1, rfl, hx0, hx1⟩ := All2.two h
  obtain ⟨n0, E0, rfl, _, hE0⟩ := graph_of hx0
  obtain ⟨S1, U1, rfl⟩ := bags_of hx1
  exact ⟨_, conF_at (fun _ _ _ _ _ => rfl) (a := ((n0, E0), (S1, U1))) (by first | trivial | assumption | exact hE0 | exact hl1)⟩
set_option maxRecDepth 100000 in
theorem bagsWrongLifted (os : Os) (started : os.Started) (H : Type) (enc : TypeId × Value → H) :
    ReturnsInHanded {} Try.checked os 5 .any (Ytcihmgopaadpfaa.Rows.bagsWrongSpec.pre6 enc Try.prog Try.f5 Ytcihmgopaadpfaa.Rows.bagsWrongRow.domain false) (Ytcihmgopaadpfaa.Rows.bagsWrongSpec.post enc Try.prog Try.f5 false true false false) :=
  law_row Try.func5 (by kernel_rfl) rfl (ts := [26, 35]) (by kernel_rfl) (by kernel_rfl) (by kernel_rfl) (by kernel_rfl)
    (fun H ds h => by
      match ds, h with
      | [_, _], _ => exact ⟨rfl, rfl, rfl⟩)
    BWrong_ok bagsWrongLaw os started H enc {}
    (ChangeSpec.witness6 (enc := enc) (C := Try.checked) false ⟨#[], #[.agg #[.int .i64 0, .slice none 0 0], .agg #[.slice none 0 0, .slice none 0 0]], []⟩ 8 (by kernel_rfl) (by kernel_rfl) (by kernel_rfl) (by kernel_rfl))
theorem bagsWrongOver : Ytcihmgopaadpfaa.Rows.bagsWrongRow.holds Ytcihmgopaadpfaa.Try.pinned (OpenSpec.ofChange Ytcihmgopaadpfaa.Rows.bagsWrongSpec) :=
  OpenClaim.holds_of_wide 5 Try.f5 rfl rfl rfl rfl rfl rfl rfl ⟨rfl, rfl, rfl, rfl, rfl⟩ rfl rfl rfl rfl rfl (by kernel_rfl) Try.func5 (by kernel_rfl)
    (of_decide_eq_true (by kernel_rfl)) (by unfold Func.isWrapper; first | (rw [if_pos (by decide +kernel)]; kernel_rfl) | (rw [if_neg (by decide +kernel)]; exact ⟨rfl, rfl⟩))
    (fun os started H enc _ => bagsWrongLifted os started H enc)
end Go.Sh
namespace Go.Proofs.Ytcihmgopaadpfaa
theorem bagsWrong_holds : Rows.BagsWrongSaid := Go.Sh.bagsWrongOver
#print axioms bagsWrong_holds
end Go.Proofs.Ytcihmgopaadpfaa
