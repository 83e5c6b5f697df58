/- The statement BagsNarrow of the given program is proved: whatever is handed in, the law answers true, changes nothing that was there, and comes back. No condition. -/
import Derived.Test.YtcihmgopaadpfaaFn3
set_option linter.unusedVariables false
namespace Go.Sh
open Go.Proofs
/-! ### BagsNarrow -/
set_option maxRecDepth 100000 in
theorem bagsNarrowLaw : LawV T [24, 35] BNarF := by
  intro vs h
  obtain ⟨x0, x1, rfl, hx0, hx1⟩ := All2.two h
  obtain ⟨n0, E0, rfl, _, hE0⟩ := net_of hx0
  obtain ⟨S1, U1, rfl⟩ := bags_of hx1
  exact ⟨_, conF_at (fun _ _ _ _ _ => rfl) (a := ((n0, E0), (S1, U1))) (by first | trivial | assumption | exact hE0 | exact hl1)⟩
set_option maxRecDepth 100000 in
theorem bagsNarrowLifted (os : Os) (started : os.Started) (H : Type) (enc : TypeId × Value → H) :
    ReturnsInHanded {} Try.checked os 8 .any (Ytcihmgopaadpfaa.Rows.bagsNarrowSpec.pre6 enc Try.prog Try.f8 Ytcihmgopaadpfaa.Rows.bagsNarrowRow.domain false) (Ytcihmgopaadpfaa.Rows.bagsNarrowSpec.post enc Try.prog Try.f8 false true false false) :=
  law_row Try.func8 (by kernel_rfl) rfl (ts := [24, 35]) (by kernel_rfl) (by kernel_rfl) (by kernel_rfl) (by kernel_rfl)
    (fun H ds h => by
      match ds, h with
      | [_, _], _ => exact ⟨rfl, rfl, rfl⟩)
    BNar_ok bagsNarrowLaw os started H enc {}
    (ChangeSpec.witness6 (enc := enc) (C := Try.checked) false ⟨#[], #[.agg #[.int .i64 0, .slice none 0 0], .agg #[.slice none 0 0, .slice none 0 0]], []⟩ 8 (by kernel_rfl) (by kernel_rfl) (by kernel_rfl) (by kernel_rfl))
theorem bagsNarrowOver : Ytcihmgopaadpfaa.Rows.bagsNarrowRow.holds Ytcihmgopaadpfaa.Try.pinned (OpenSpec.ofChange Ytcihmgopaadpfaa.Rows.bagsNarrowSpec) :=
  OpenClaim.holds_of_wide 8 Try.f8 rfl rfl rfl rfl rfl rfl rfl ⟨rfl, rfl, rfl, rfl, rfl⟩ rfl rfl rfl rfl rfl (by kernel_rfl) Try.func8 (by kernel_rfl)
    (of_decide_eq_true (by kernel_rfl)) (by unfold Func.isWrapper; first | (rw [if_pos (by decide +kernel)]; kernel_rfl) | (rw [if_neg (by decide +kernel)]; exact ⟨rfl, rfl⟩))
    (fun os started H enc _ => bagsNarrowLifted os started H enc)
end Go.Sh
namespace Go.Proofs.Ytcihmgopaadpfaa
theorem bagsNarrow_holds : Rows.BagsNarrowSaid := Go.Sh.bagsNarrowOver
#print axioms bagsNarrow_holds
end Go.Proofs.Ytcihmgopaadpfaa
