/- The statement BagsSound of the given program is proved: whatever is handed in, the law answers true, changes nothing that was there, and comes back. No condition. -/
import Derived.Test.YtcihmgopaadpfaaFn3
set_option linter.unusedVariables false
namespace Go.Sh
open Go.Proofs
/-! ### BagsSound -/
set_option maxRecDepth 100000 in
theorem bagsSoundLaw : LawV T [24, 35] BSouF := by
  intro vs h
  obtain ⟨x0, x1, rfl, hx0, hx1⟩ := All2.two h
  obtain ⟨n0, E0, rfl, _, hE0⟩ := net_of hx0
  obtain ⟨S1, U1, rfl⟩ := bags_of hx1
  exact ⟨_, conF_at (fun _ _ _ _ _ => rfl) (a := ((n0, E0), (S1, U1))) (by first | trivial | assumption | exact hE0 | exact hl1)⟩
set_option maxRecDepth 100000 in
theorem bagsSoundLifted (os : Os) (started : os.Started) (H : Type) (enc : TypeId × Value → H) :
    ReturnsInHanded {} Try.checked os 6 .any (Ytcihmgopaadpfaa.Rows.bagsSoundSpec.pre6 enc Try.prog Try.f6 Ytcihmgopaadpfaa.Rows.bagsSoundRow.domain false) (Ytcihmgopaadpfaa.Rows.bagsSoundSpec.post enc Try.prog Try.f6 false true false false) :=
  law_row Try.func6 (by kernel_rfl) rfl (ts := [24, 35]) (by kernel_rfl) (by kernel_rfl) (by kernel_rfl) (by kernel_rfl)
    (fun H ds h => by
      match ds, h with
      | [_, _], _ => exact ⟨rfl, rfl, rfl⟩)
    BSou_ok bagsSoundLaw os started H enc {}
    (ChangeSpec.witness6 (enc := enc) (C := Try.checked) false ⟨#[], #[.agg #[.int .i64 0, .slice none 0 0], .agg #[.slice none 0 0, .slice none 0 0]], []⟩ 8 (by kernel_rfl) (by kernel_rfl) (by kernel_rfl) (by kernel_rfl))
theorem bagsSoundOver : Ytcihmgopaadpfaa.Rows.bagsSoundRow.holds Ytcihmgopaadpfaa.Try.pinned (OpenSpec.ofChange Ytcihmgopaadpfaa.Rows.bagsSoundSpec) :=
  OpenClaim.holds_of_wide 6 Try.f6 rfl rfl rfl rfl rfl rfl rfl ⟨rfl, rfl, rfl, rfl, rfl⟩ rfl rfl rfl rfl rfl (by kernel_rfl) Try.func6 (by kernel_rfl)
    (of_decide_eq_true (by kernel_rfl)) (by unfold Func.isWrapper; first | (rw [if_pos (by decide +kernel)]; kernel_rfl) | (rw [if_neg (by decide +kernel)]; exact ⟨rfl, rfl⟩))
    (fun os started H enc _ => bagsSoundLifted os started H enc)
end Go.Sh
namespace Go.Proofs.Ytcihmgopaadpfaa
theorem bagsSound_holds : Rows.BagsSoundSaid := Go.Sh.bagsSoundOver
#print axioms bagsSound_holds
end Go.Proofs.Ytcihmgopaadpfaa
