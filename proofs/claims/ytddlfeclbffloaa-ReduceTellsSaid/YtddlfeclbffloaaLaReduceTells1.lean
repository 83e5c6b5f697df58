/- The statement ReduceTells of the given program is proved: whatever is handed in, the law answers true, changes nothing that was there, and comes back. No condition. -/
import Derived.Test.YtddlfeclbffloaaFn3
set_option linter.unusedVariables false
namespace Go.Sh
open Go.Proofs
/-! ### ReduceTells -/
set_option maxRecDepth 100000 in
theorem reduceTellsLaw : LawV T [24] TellsF := by
  intro vs h
  obtain ⟨x0, rfl, hx0⟩ := All2.one h
  obtain ⟨n0, E0, rfl, _, hE0⟩ := net_of hx0
  exact ⟨_, conF_at (fun _ _ _ _ _ => rfl) (a := (n0, E0)) (by first | trivial | assumption | exact hE0 | exact hl1)⟩
set_option maxRecDepth 100000 in
theorem reduceTellsLifted (os : Os) (started : os.Started) (H : Type) (enc : TypeId × Value → H) :
    ReturnsInHanded {} Try.checked os 8 .any (Ytddlfeclbffloaa.Rows.reduceTellsSpec.pre6 enc Try.prog Try.f8 Ytddlfeclbffloaa.Rows.reduceTellsRow.domain false) (Ytddlfeclbffloaa.Rows.reduceTellsSpec.post enc Try.prog Try.f8 false true false false) :=
  law_row Try.func8 (by kernel_rfl) rfl (ts := [24]) (by kernel_rfl) (by kernel_rfl) (by kernel_rfl) (by kernel_rfl)
    (fun H ds h => by
      match ds, h with
      | [_], _ => exact ⟨rfl, rfl, rfl⟩)
    Tells_ok reduceTellsLaw os started H enc {}
    (ChangeSpec.witness6 (enc := enc) (C := Try.checked) false ⟨#[], #[.agg #[.int .i64 0, .slice none 0 0]], []⟩ 8 (by kernel_rfl) (by kernel_rfl) (by kernel_rfl) (by kernel_rfl))
theorem reduceTellsOver : Ytddlfeclbffloaa.Rows.reduceTellsRow.holds Ytddlfeclbffloaa.Try.pinned (OpenSpec.ofChange Ytddlfeclbffloaa.Rows.reduceTellsSpec) :=
  OpenClaim.holds_of_wide 8 Try.f8 rfl rfl rfl rfl rfl rfl rfl ⟨rfl, rfl, rfl, rfl, rfl⟩ rfl rfl rfl rfl rfl (by kernel_rfl) Try.func8 (by kernel_rfl)
    (of_decide_eq_true (by kernel_rfl)) (by unfold Func.isWrapper; first | (rw [if_pos (by decide +kernel)]; kernel_rfl) | (rw [if_neg (by decide +kernel)]; exact ⟨rfl, rfl⟩))
    (fun os started H enc _ => reduceTellsLifted os started H enc)
end Go.Sh
namespace Go.Proofs.Ytddlfeclbffloaa
theorem reduceTells_holds : Rows.ReduceTellsSaid := Go.Sh.reduceTellsOver
#print axioms reduceTells_holds
end Go.Proofs.Ytddlfeclbffloaa
