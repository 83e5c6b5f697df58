/- The statement ReduceModel of the given program is proved: whatever is handed in, the law answers true, changes nothing that was there, and comes back. No condition. -/
import Derived.Test.YtcihmgopaadpfaaFn3
set_option linter.unusedVariables false
namespace Go.Sh
open Go.Proofs
/-! ### ReduceModel -/
set_option maxRecDepth 100000 in
theorem reduceModelLaw : LawV T [24, 47] RModelF := by
  intro vs h
  obtain ⟨x0, x1, rfl, hx0, hx1⟩ := All2.two h
  obtain ⟨n0, E0, rfl, _, hE0⟩ := net_of hx0
  obtain ⟨k1, S1, rfl, _, hS1⟩ := model_of hx1
  exact ⟨_, conF_at (fun _ _ _ _ _ => rfl) (a := ((n0, E0), (k1, S1))) (by first | trivial | assumption | exact hE0 | exact hl1)⟩
set_option maxRecDepth 100000 in
theorem reduceModelLifted (os : Os) (started : os.Started) (H : Type) (enc : TypeId × Value → H) :
    ReturnsInHanded {} Try.checked os 9 .any (Ytcihmgopaadpfaa.Rows.reduceModelSpec.pre6 enc Try.prog Try.f9 Ytcihmgopaadpfaa.Rows.reduceModelRow.domain false) (Ytcihmgopaadpfaa.Rows.reduceModelSpec.post enc Try.prog Try.f9 false true false false) :=
  law_row Try.func9 (by kernel_rfl) rfl (ts := [24, 47]) (by kernel_rfl) (by kernel_rfl) (by kernel_rfl) (by kernel_rfl)
    (fun H ds h => by
      match ds, h with
      | [_, _], _ => exact ⟨rfl, rfl, rfl⟩)
    RModel_ok reduceModelLaw os started H enc {}
    (ChangeSpec.witness6 (enc := enc) (C := Try.checked) false ⟨#[], #[.agg #[.int .i64 0, .slice none 0 0], .agg #[.int .i64 0, .slice none 0 0]], []⟩ 8 (by kernel_rfl) (by kernel_rfl) (by kernel_rfl) (by kernel_rfl))
theorem reduceModelOver : Ytcihmgopaadpfaa.Rows.reduceModelRow.holds Ytcihmgopaadpfaa.Try.pinned (OpenSpec.ofChange Ytcihmgopaadpfaa.Rows.reduceModelSpec) :=
  OpenClaim.holds_of_wide 9 Try.f9 rfl rfl rfl rfl rfl rfl rfl ⟨rfl, rfl, rfl, rfl, rfl⟩ rfl rfl rfl rfl rfl (by kernel_rfl) Try.func9 (by kernel_rfl)
    (of_decide_eq_true (by kernel_rfl)) (by unfold Func.isWrapper; first | (rw [if_pos (by decide +kernel)]; kernel_rfl) | (rw [if_neg (by decide +kernel)]; exact ⟨rfl, rfl⟩))
    (fun os started H enc _ => reduceModelLifted os started H enc)
end Go.Sh
namespace Go.Proofs.Ytcihmgopaadpfaa
theorem reduceModel_holds : Rows.ReduceModelSaid := Go.Sh.reduceModelOver
#print axioms reduceModel_holds
end Go.Proofs.Ytcihmgopaadpfaa
