/- The statement MinorGrows of the given program is proved: whatever is handed in, the law answers true, changes nothing that was there, and comes back. No condition. -/
import Derived.Test.YtcihmgopaadpfaaFn1
set_option linter.unusedVariables false
namespace Go.Sh
open Go.Proofs
/-! ### MinorGrows -/
set_option maxRecDepth 100000 in
theorem minorGrowsLaw : LawV T [24, 51, 47] MGrowsF := by
  intro vs h
  obtain ⟨x0, x1, x2, rfl, hx0, hx1, hx2⟩ := All2.three h
  obtain ⟨n0, E0, rfl, _, hE0⟩ := net_of hx0
  obtain ⟨a1, b1, rfl, ha1, hb1⟩ := two_of hx1
  obtain ⟨k2, S2, rfl, _, hS2⟩ := model_of hx2
  exact ⟨_, conF_at (fun _ _ _ _ _ => rfl) (a := ((n0, E0), (a1, b1), (k2, S2))) (by first | trivial | assumption | exact hE0 | exact hl1)⟩
set_option maxRecDepth 100000 in
theorem minorGrowsLifted (os : Os) (started : os.Started) (H : Type) (enc : TypeId × Value → H) :
    ReturnsInHanded {} Try.checked os 10 .any (Ytcihmgopaadpfaa.Rows.minorGrowsSpec.pre6 enc Try.prog Try.f10 Ytcihmgopaadpfaa.Rows.minorGrowsRow.domain false) (Ytcihmgopaadpfaa.Rows.minorGrowsSpec.post enc Try.prog Try.f10 false true false false) :=
  law_row Try.func10 (by kernel_rfl) rfl (ts := [24, 51, 47]) (by kernel_rfl) (by kernel_rfl) (by kernel_rfl) (by kernel_rfl)
    (fun H ds h => by
      match ds, h with
      | [_, _, _], _ => exact ⟨rfl, rfl, rfl⟩)
    MGrows_ok minorGrowsLaw os started H enc {}
    (ChangeSpec.witness6 (enc := enc) (C := Try.checked) false ⟨#[], #[.agg #[.int .i64 0, .slice none 0 0], .agg #[.int .i64 0, .int .i64 0], .agg #[.int .i64 0, .slice none 0 0]], []⟩ 8 (by kernel_rfl) (by kernel_rfl) (by kernel_rfl) (by kernel_rfl))
theorem minorGrowsOver : Ytcihmgopaadpfaa.Rows.minorGrowsRow.holds Ytcihmgopaadpfaa.Try.pinned (OpenSpec.ofChange Ytcihmgopaadpfaa.Rows.minorGrowsSpec) :=
  OpenClaim.holds_of_wide 10 Try.f10 rfl rfl rfl rfl rfl rfl rfl ⟨rfl, rfl, rfl, rfl, rfl⟩ rfl rfl rfl rfl rfl (by kernel_rfl) Try.func10 (by kernel_rfl)
    (of_decide_eq_true (by kernel_rfl)) (by unfold Func.isWrapper; first | (rw [if_pos (by decide +kernel)]; kernel_rfl) | (rw [if_neg (by decide +kernel)]; exact ⟨rfl, rfl⟩))
    (fun os started H enc _ => minorGrowsLifted os started H enc)
end Go.Sh
namespace Go.Proofs.Ytcihmgopaadpfaa
theorem minorGrows_holds : Rows.MinorGrowsSaid := Go.Sh.minorGrowsOver
#print axioms minorGrows_holds
end Go.Proofs.Ytcihmgopaadpfaa
