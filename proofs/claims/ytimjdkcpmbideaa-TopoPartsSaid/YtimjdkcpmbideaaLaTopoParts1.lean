/- The statement TopoParts of the given program is proved: whatever is handed in, the law answers true, changes nothing that was there, and comes back. No condition. -/
import Derived.Test.YtimjdkcpmbideaaFn2
set_option linter.unusedVariables false
namespace Go.Sh
open Go.Proofs
/-! ### TopoParts -/
set_option maxRecDepth 100000 in
theorem topoPartsLaw : LawV T [40] TPartsF := by
  intro vs h
  obtain ⟨x0, rfl, hx0⟩ := All2.one h
  obtain ⟨k0, Ts0, S0, rfl, _⟩ := sub_of hx0
  exact ⟨_, conF_at (fun _ _ _ _ _ => rfl) (a := (k0, Ts0, S0)) (by first | trivial | assumption | exact hE0 | exact hl1)⟩
set_option maxRecDepth 100000 in
theorem topoPartsLifted (os : Os) (started : os.Started) (H : Type) (enc : TypeId × Value → H) :
    ReturnsInHanded {} Try.checked os 8 .any (Ytimjdkcpmbideaa.Rows.topoPartsSpec.pre6 enc Try.prog Try.f8 Ytimjdkcpmbideaa.Rows.topoPartsRow.domain false) (Ytimjdkcpmbideaa.Rows.topoPartsSpec.post enc Try.prog Try.f8 false true false false) :=
  law_row Try.func8 (by kernel_rfl) rfl (ts := [40]) (by kernel_rfl) (by kernel_rfl) (by kernel_rfl) (by kernel_rfl)
    (fun H ds h => by
      match ds, h with
      | [_], _ => exact ⟨rfl, rfl, rfl⟩)
    TParts_ok topoPartsLaw os started H enc {}
    (ChangeSpec.witness6 (enc := enc) (C := Try.checked) false ⟨#[], #[.agg #[.int .i64 0, .slice none 0 0, .slice none 0 0]], []⟩ 8 (by kernel_rfl) (by kernel_rfl) (by kernel_rfl) (by kernel_rfl))
theorem topoPartsOver : Ytimjdkcpmbideaa.Rows.topoPartsRow.holds Ytimjdkcpmbideaa.Try.pinned (OpenSpec.ofChange Ytimjdkcpmbideaa.Rows.topoPartsSpec) :=
  OpenClaim.holds_of_wide 8 Try.f8 rfl rfl rfl rfl rfl rfl rfl ⟨rfl, rfl, rfl, rfl, rfl⟩ rfl rfl rfl rfl rfl (by kernel_rfl) Try.func8 (by kernel_rfl)
    (of_decide_eq_true (by kernel_rfl)) (by unfold Func.isWrapper; first | (rw [if_pos (by decide +kernel)]; kernel_rfl) | (rw [if_neg (by decide +kernel)]; exact ⟨rfl, rfl⟩))
    (fun os started H enc _ => topoPartsLifted os started H enc)
end Go.Sh
namespace Go.Proofs.Ytimjdkcpmbideaa
theorem topoParts_holds : Rows.TopoPartsSaid := Go.Sh.topoPartsOver
#print axioms topoParts_holds
end Go.Proofs.Ytimjdkcpmbideaa
