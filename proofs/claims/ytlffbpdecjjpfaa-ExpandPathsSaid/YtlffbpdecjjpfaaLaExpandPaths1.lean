/- The statement ExpandPaths of the given program is proved: whatever is handed in, the law answers true, changes nothing that was there, and comes back. No condition. -/
import Derived.Test.YtlffbpdecjjpfaaFn3
set_option linter.unusedVariables false
namespace Go.Sh
open Go.Proofs
/-! ### ExpandPaths -/
set_option maxRecDepth 100000 in
theorem expandPathsLaw : LawV T [24, 3] XPathsF := by
  intro vs h
  obtain ⟨x0, x1, rfl, hx0, hx1⟩ := All2.two h
  obtain ⟨n0, E0, rfl, _, hE0⟩ := net_of hx0
  obtain ⟨a1, rfl, ha1⟩ := int_of hx1
  exact ⟨_, conF_at (fun _ _ _ _ _ => rfl) (a := ((n0, E0), a1)) (by first | trivial | assumption | exact hE0 | exact hl1)⟩
set_option maxRecDepth 100000 in
theorem expandPathsLifted (os : Os) (started : os.Started) (H : Type) (enc : TypeId × Value → H) :
    ReturnsInHanded {} Try.checked os 8 .any (Ytlffbpdecjjpfaa.Rows.expandPathsSpec.pre6 enc Try.prog Try.f8 Ytlffbpdecjjpfaa.Rows.expandPathsRow.domain false) (Ytlffbpdecjjpfaa.Rows.expandPathsSpec.post enc Try.prog Try.f8 false true false false) :=
  law_row Try.func8 (by kernel_rfl) rfl (ts := [24, 3]) (by kernel_rfl) (by kernel_rfl) (by kernel_rfl) (by kernel_rfl)
    (fun H ds h => by
      match ds, h with
      | [_, _], _ => exact ⟨rfl, rfl, rfl⟩)
    XPaths_ok expandPathsLaw os started H enc {}
    (ChangeSpec.witness6 (enc := enc) (C := Try.checked) false ⟨#[], #[.agg #[.int .i64 0, .slice none 0 0], .int .i64 0], []⟩ 8 (by kernel_rfl) (by kernel_rfl) (by kernel_rfl) (by kernel_rfl))
theorem expandPathsOver : Ytlffbpdecjjpfaa.Rows.expandPathsRow.holds Ytlffbpdecjjpfaa.Try.pinned (OpenSpec.ofChange Ytlffbpdecjjpfaa.Rows.expandPathsSpec) :=
  OpenClaim.holds_of_wide 8 Try.f8 rfl rfl rfl rfl rfl rfl rfl ⟨rfl, rfl, rfl, rfl, rfl⟩ rfl rfl rfl rfl rfl (by kernel_rfl) Try.func8 (by kernel_rfl)
    (of_decide_eq_true (by kernel_rfl)) (by unfold Func.isWrapper; first | (rw [if_pos (by decide +kernel)]; kernel_rfl) | (rw [if_neg (by decide +kernel)]; exact ⟨rfl, rfl⟩))
    (fun os started H enc _ => expandPathsLifted os started H enc)
end Go.Sh
namespace Go.Proofs.Ytlffbpdecjjpfaa
theorem expandPaths_holds : Rows.ExpandPathsSaid := Go.Sh.expandPathsOver
#print axioms expandPaths_holds
end Go.Proofs.Ytlffbpdecjjpfaa
