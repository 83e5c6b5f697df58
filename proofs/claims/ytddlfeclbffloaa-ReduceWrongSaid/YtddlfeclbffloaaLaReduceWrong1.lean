/- The statement ReduceWrong of the given program is proved: whatever is handed in, the law answers true, changes nothing that was there, and comes back. No condition. -/
import Derived.Test.YtddlfeclbffloaaFn3
set_option linter.unusedVariables false
namespace Go.Sh
open Go.Proofs
/-! ### ReduceWrong -/
set_option maxRecDepth 100000 in
theorem reduceWrongLaw : LawV T [29] WrongF := by
  intro vs h
  obtain ⟨x0, rfl, hx0⟩ := All2.one h
  obtain ⟨n0, E0, rfl, _, hE0⟩ := graph_of hx0
  exact ⟨_, conF_at (fun _ _ _ _ _ => rfl) (a := (n0, E0)) (by first | trivial | assumption | exact hE0)⟩
set_option maxRecDepth 100000 in
theorem reduceWrongLifted (os : Os) (started : os.Started) (H : Type) (enc : TypeId × Value → H) :
    ReturnsInHanded {} Try.checked os 10 .any (Ytddlfeclbffloaa.Rows.reduceWrongSpec.pre6 enc Try.prog Try.f10 Ytddlfeclbffloaa.Rows.reduceWrongRow.domain false) (Ytddlfeclbffloaa.Rows.reduceWrongSpec.post enc Try.prog Try.f10 false true false false) :=
  law_row Try.func10 (by kernel_rfl) rfl (ts := [29]) (by kernel_rfl) (by kernel_rfl) (by kernel_rfl) (by kernel_rfl)
    (fun H ds h => by
      match ds, h with
      | [_], _ => exact ⟨rfl, rfl, rfl⟩)
    Wrong_ok reduceWrongLaw os started H enc {}
    (ChangeSpec.witness6 (enc := enc) (C := Try.checked) false ⟨#[], #[.agg #[.int .i64 0, .slice none 0 0]], []⟩ 8 (by kernel_rfl) (by kernel_rfl) (by kernel_rfl) (by kernel_rfl))
theorem reduceWrongOver : Ytddlfeclbffloaa.Rows.reduceWrongRow.holds Ytddlfeclbffloaa.Try.pinned (OpenSpec.ofChange Ytddlfeclbffloaa.Rows.reduceWrongSpec) :=
  OpenClaim.holds_of_wide 10 Try.f10 rfl rfl rfl rfl rfl rfl rfl ⟨rfl, rfl, rfl, rfl, rfl⟩ rfl rfl rfl rfl rfl (by kernel_rfl) Try.func10 (by kernel_rfl)
    (of_decide_eq_true (by kernel_rfl)) (by unfold Func.isWrapper; first | (rw [if_pos (by decide +kernel)]; kernel_rfl) | (rw [if_neg (by decide +kernel)]; exact ⟨rfl, rfl⟩))
    (fun os started H enc _ => reduceWrongLifted os started H enc)
end Go.Sh
namespace Go.Proofs.Ytddlfeclbffloaa
theorem reduceWrong_holds : Rows.ReduceWrongSaid := Go.Sh.reduceWrongOver
#print axioms reduceWrong_holds
end Go.Proofs.Ytddlfeclbffloaa
